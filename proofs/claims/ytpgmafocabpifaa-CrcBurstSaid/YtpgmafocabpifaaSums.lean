/- The contracts of both Sums and of awake, and the walk of the law CrcSums. Condition: the text's length fits an int. -/
import Derived.Test.YtpgmafocabpifaaRef
namespace Go.Proofs.Ytpgmafocabpifaa
open Go.RowKit Go.Proofs.Ytpgmafocabpifaa.Crcp

theorem sum_any (s : ByteArray) (w : World) (hs : s.size ≤ maxLen) :
    Calls Try.prog 8 #[.string s] w fun e w' => e = .returned (.int .u32 ((more 0 s.data.toList : Nat) : Int)) ∧ Below w.heap.size w w' := by
  have Hs := Lib.hid hs
  clear hs
  go_enter Try.func8, Try.ntmps8
  go_wp2_with (go_at_call 10; refine (more_any 0 s _ (by omega) (by omega) Hs.out).mono ?_; rintro e w1 ⟨rfl, hb1⟩)
  go_ret
  exact ⟨rfl, hb1⟩
theorem ref_sum_any (s : ByteArray) (w : World) (hs : s.size ≤ maxLen) :
    Calls Try.prog 9 #[.string s] w fun e w' => e = .returned (.int .u32 ((more 0 s.data.toList : Nat) : Int)) ∧ w = w' := by
  have Hs := Lib.hid hs
  clear hs
  go_enter Try.func9, Try.ntmps9
  go_wp2_with (go_at_call 11; refine (ref_more_any 0 s _ (by omega) (by omega) Hs.out).mono ?_; rintro e w1 ⟨rfl, rfl⟩)
  go_ret
  exact ⟨rfl, rfl⟩

theorem m_nil : more 0 [] = 0 := more_nil 0
theorem m_nine : more 0 [49, 50, 51, 52, 53, 54, 55, 56, 57] = 3808858755 := by decide +kernel
theorem m_four : more (more 0 [49, 50, 51, 52]) [53, 54, 55, 56, 57] = 3808858755 := by decide +kernel

theorem sum_nil (w : World) : Calls Try.prog 8 #[.string { data := #[] }] w fun e w' => e = .returned (.int .u32 0) ∧ Below w.heap.size w w' :=
  (sum_any { data := #[] } w (by decide)).mono fun e w' ⟨he, hb⟩ => ⟨by rw [he]; exact congrArg (fun n : Nat => Ending.returned (.int .u32 (n : Int))) m_nil, hb⟩
theorem sum_nine (w : World) : Calls Try.prog 8 #[.string { data := #[49, 50, 51, 52, 53, 54, 55, 56, 57] }] w fun e w' => e = .returned (.int .u32 3808858755) ∧ Below w.heap.size w w' :=
  (sum_any _ w (by decide)).mono fun e w' ⟨he, hb⟩ => ⟨by rw [he]; exact congrArg (fun n : Nat => Ending.returned (.int .u32 (n : Int))) m_nine, hb⟩
/-- The check of the four letters. -/
def four : Nat := more 0 [49, 50, 51, 52]
theorem four_lt : four < 4294967296 := more_lt (by decide) _
theorem sum_four (w : World) : Calls Try.prog 8 #[.string { data := #[49, 50, 51, 52] }] w fun e w' => e = .returned (.int .u32 ((four : Nat) : Int)) ∧ Below w.heap.size w w' :=
  (sum_any _ w (by decide)).mono fun e w' ⟨he, hb⟩ => ⟨he, hb⟩
theorem more_five (w : World) : Calls Try.prog 10 #[.int .u32 ((four : Nat) : Int), .string { data := #[53, 54, 55, 56, 57] }] w fun e w' => e = .returned (.int .u32 3808858755) ∧ Below w.heap.size w w' :=
  (more_any _ _ w (Int.natCast_nonneg _) (by have := four_lt; omega) (by decide)).mono fun e w' ⟨he, hb⟩ => ⟨by rw [he]; exact congrArg (fun n : Nat => Ending.returned (.int .u32 (n : Int))) m_four, hb⟩

set_option maxHeartbeats 400000 in
theorem awake_any (w : World) : Calls Try.prog 7 #[] w fun e w' => e = .returned (.bool true) ∧ Below w.heap.size w w' := by
  go_enter Try.func7, Try.ntmps7
  go_wp2_with fail
  refine (sum_nil _).mono ?_
  rintro e w1 ⟨rfl, hb1⟩
  go_wp2_with fail
  refine (sum_nine _).mono ?_
  rintro e w2 ⟨rfl, hb2⟩
  go_wp2_with fail
  refine (sum_four _).mono ?_
  rintro e w3 ⟨rfl, hb3⟩
  go_wp2_with fail
  refine (more_five _).mono ?_
  rintro e w4 ⟨rfl, hb4⟩
  go_wp2_with fail
  go_ret
  exact ⟨rfl, hb1.trans ((hb2.mono hb1.size).trans ((hb3.mono (Nat.le_trans hb1.size hb2.size)).trans (hb4.mono (Nat.le_trans hb1.size (Nat.le_trans hb2.size hb3.size)))))⟩

theorem below4 {a b c d : World} (h1 : Below a.heap.size a b) (h2 : Below b.heap.size b c) (h3 : Below c.heap.size c d) : Below a.heap.size a d :=
  h1.trans ((h2.mono h1.size).trans (h3.mono (Nat.le_trans h1.size h2.size)))

set_option maxHeartbeats 400000 in
/-- The law CrcSums, walked. -/
theorem sums_walk (a0 : Int) (a1 : ByteArray) (w0 : (Lit.int .u32 a0).wf = true) (w1 : a1.size ≤ maxLen) (w : World) :
    Calls Try.prog 3 #[.int .u32 a0, .string a1] w fun e w' => e = .returned (.bool true) ∧ Below w.heap.size w w' := by
  have hx : 0 ≤ a0 ∧ a0 < 4294967296 := by
    have : 0 ≤ a0 ∧ a0 ≤ 4294967295 := by simpa [Lit.wf, IntKind.min, IntKind.max, IntKind.signed, IntKind.bits] using w0
    omega
  have H0 := Lib.hid hx
  have H1 := Lib.hid w1
  clear hx w0 w1
  go_enter Try.func3, Try.ntmps3
  go_wp2_with fail
  refine (awake_any _).mono ?_
  rintro e w1 ⟨rfl, hb1⟩
  go_wp2_with fail
  refine (sum_any a1 _ H1.out).mono ?_
  rintro e w2 ⟨rfl, hb2⟩
  go_wp2_with fail
  refine (ref_sum_any a1 _ H1.out).mono ?_
  rintro e w3 ⟨rfl, rfl⟩
  go_wp2_with fail
  refine (more_any a0 a1 _ H0.out.1 H0.out.2 H1.out).mono ?_
  rintro e w3 ⟨rfl, hb3⟩
  go_wp2_with fail
  refine (ref_more_any a0 a1 _ H0.out.1 H0.out.2 H1.out).mono ?_
  rintro e w4 ⟨rfl, rfl⟩
  go_wp2_with fail
  go_ret
  exact ⟨rfl, below4 hb1 hb2 hb3⟩
end Go.Proofs.Ytpgmafocabpifaa
