/- The walk of the law CrcGoes: it returns true and writes only blocks of its own. Condition: the form's own reach of each text. -/
import Derived.Test.YtpgmafocabpifaaSums
namespace Go.Proofs.Ytpgmafocabpifaa
open Go.RowKit Go.Proofs.Ytpgmafocabpifaa.Crcp

theorem below_step {a b c : World} (h1 : Below a.heap.size a b) (h2 : Below b.heap.size b c) : Below a.heap.size a c := h1.trans (h2.mono h1.size)

set_option maxHeartbeats 400000 in
/-- The law CrcGoes, walked. -/
theorem goes_walk (a0 a1 : ByteArray) (w0 : a0.size ≤ 140737488351232) (w1 : a1.size ≤ 140737488351232) (w : World) :
    Calls Try.prog 4 #[.string a0, .string a1] w fun e w' => e = .returned (.bool true) ∧ Below w.heap.size w w' := by
  have H0 : Hid (a0.size ≤ maxLen) := Lib.hid (by unfold maxLen; omega)
  have H1 : Hid (a1.size ≤ maxLen) := Lib.hid (by unfold maxLen; omega)
  have H2 : Hid ((a0 ++ a1).size ≤ maxLen) := Lib.hid (by unfold maxLen; simp; omega)
  have hcat := fun w => run_string_add_sum (P := Try.prog) w a0 a1 (by omega)
  have hm : ∀ n : Nat, n < 4294967296 → (0 : Int) ≤ (n : Int) ∧ (n : Int) < 4294967296 := fun n h => by omega
  have Hl : Hid (more 0 a0.data.toList < 4294967296) := Lib.hid (more_lt (by decide) _)
  have G1 : Hid (more (more 0 a0.data.toList) a1.data.toList = more 0 (a0 ++ a1).data.toList) := Lib.hid (by rw [more_goes]; simp)
  have HM := Lib.hid hm
  clear hm w0 w1
  go_enter Try.func4, Try.ntmps4
  go_wp2_with fail
  refine (awake_any _).mono ?_
  rintro e w1 ⟨rfl, hb1⟩
  go_wp2_with fail
  refine (sum_any a0 _ H0.out).mono ?_
  rintro e w2 ⟨rfl, hb2⟩
  go_wp2_with fail
  refine (more_any _ a1 _ (HM.out _ Hl.out).1 (HM.out _ Hl.out).2 H1.out).mono ?_
  rintro e w3 ⟨rfl, hb3⟩
  rw [Int.toNat_natCast, G1.out]
  go_wp2_with fail
  refine (sum_any _ _ H2.out).mono ?_
  rintro e w4 ⟨rfl, hb4⟩
  go_wp2_with fail
  refine (sum_any a0 _ H0.out).mono ?_
  rintro e w5 ⟨rfl, hb5⟩
  go_wp2_with fail
  refine (more_any _ _ _ (HM.out _ Hl.out).1 (HM.out _ Hl.out).2 (by decide)).mono ?_
  rintro e w6 ⟨rfl, hb6⟩
  rw [Int.toNat_natCast, show ({ data := #[] } : ByteArray).data.toList = [] from rfl, more_nil]
  go_wp2_with fail
  refine (sum_any a0 _ H0.out).mono ?_
  rintro e w7 ⟨rfl, hb7⟩
  go_wp2_with fail
  go_ret
  exact ⟨rfl, below_step (below_step (below_step (below_step (below_step (below_step hb1 hb2) hb3) hb4) hb5) hb6) hb7⟩
end Go.Proofs.Ytpgmafocabpifaa
