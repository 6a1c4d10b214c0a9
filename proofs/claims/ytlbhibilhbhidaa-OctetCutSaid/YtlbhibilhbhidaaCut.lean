/- The contracts of a nil reader, and the walk of the law OctetCut: it returns true and writes only blocks of its own. Conditions: the text lies within the form's reach. -/
import Derived.Test.YtlbhibilhbhidaaApart
namespace Go.Proofs.Ytlbhibilhbhidaa
open Go.RowKit Go.Deep

theorem spoil_nil (w : World) : Calls Try.prog 21 #[.pointer none] w fun e w' => e = .returned (.tuple #[]) ∧ w = w' := by
  go_enter Try.func21, Try.ntmps21
  go_wp2
  go_end0
  exact ⟨rfl, rfl⟩
theorem take_nil (n : Int) (w : World) : Calls Try.prog 19 #[.pointer none, .int .i64 n] w fun e w' => e = .returned (.string { data := #[] }) ∧ w = w' := by
  go_enter Try.func19, Try.ntmps19
  go_wp2_with fail
  refine (bad_nil _).mono ?_
  rintro e w1 ⟨rfl, rfl⟩
  go_wp2_with fail
  refine (spoil_nil _).mono ?_
  rintro e w1 ⟨rfl, rfl⟩
  go_wp2_with fail
  go_ret
  exact ⟨rfl, rfl⟩
set_option maxHeartbeats 400000 in
theorem rnum_nil (w : World) : Calls Try.prog 15 #[.pointer none] w fun e w' => e = .returned (.int .u32 0) ∧ Below w.heap.size w w' := by
  go_enter Try.func15, Try.ntmps15
  go_wp2_with fail
  refine (take_nil 4 _).mono ?_
  rintro e w1 ⟨rfl, rfl⟩
  go_wp2_with ((with_reducible show wpList _ _ _ (⟨some 8, .convert 9 48 (.tmp 7), _, _, _, _⟩ :: _) _ _); go_must (refine wpList_bytes_of rfl 9 48 5 _ rfl { data := #[] } rfl Try.underlying9 Try.underlying48 Try.underlying5 ?_; intro cap W hcap hbW hsz hcells; clear hcells hsz))
  refine wp_loop_rounds 1 ?_
  rw [rounds_succ]
  go_wp2
  go_ret
  exact ⟨rfl, hbW⟩
theorem rtext_nil (w : World) : Calls Try.prog 17 #[.pointer none, .int .i64 5] w fun e w' => e = .returned (.string { data := #[] }) ∧ Below w.heap.size w w' := by
  go_enter Try.func17, Try.ntmps17
  go_wp2_with fail
  refine (rnum_nil _).mono ?_
  rintro e w1 ⟨rfl, hb1⟩
  go_wp2_with fail
  refine (take_nil _ _).mono ?_
  rintro e w2 ⟨rfl, rfl⟩
  go_wp2_with fail
  go_ret
  exact ⟨rfl, hb1⟩

theorem place (a : Int) (n : Nat) (h0 : 0 < n) (h1 : n ≤ 2097152) : ∃ K : Nat, wrap64 ((IntKind.u64.wrap a).tmod (n : Int)) = (K : Int) ∧ K < n := by
  have hx : 0 ≤ IntKind.u64.wrap a := by rw [IntKind.wrap_u64]; exact Int.emod_nonneg _ (by decide)
  generalize IntKind.u64.wrap a = x at hx
  rw [Int.tmod_eq_emod_of_nonneg hx]
  have h2 := Int.emod_nonneg x (show (n : Int) ≠ 0 by omega)
  have h3 := Int.emod_lt_of_pos x (show 0 < (n : Int) by omega)
  generalize x % (n : Int) = y at h2 h3
  refine ⟨y.toNat, ?_, by omega⟩
  rw [IntWalk.wrap64_in y (by omega)]
  omega

theorem text_dead (b : Nat) (r : ByteArray) (most : Int) (h : textOut (some r) most = nul ∧ textSt (some r) most = none) (w : World) (hr : Rd w b (some r)) :
    Calls Try.prog 17 #[.pointer (some ⟨b, 0, none⟩), .int .i64 most] w fun e w' => e = .returned (.string { data := #[] }) ∧ Rd w' b none ∧ Only b w w' := by
  have := rtext_any b (some r) most w hr
  rwa [h.1, h.2] at this
theorem dead_bad (b : Nat) (w : World) (h : Rd w b none) : Calls Try.prog 22 #[.pointer (some ⟨b, 0, none⟩)] w fun e w' => e = .returned (.bool true) ∧ w = w' := bad_any b none w h
theorem dead_whole (b : Nat) (w : World) (h : Rd w b none) : Calls Try.prog 25 #[.pointer (some ⟨b, 0, none⟩)] w fun e w' => e = .returned (.bool false) ∧ w = w' := whole_any b none w h
theorem dead_left (b : Nat) (w : World) (h : Rd w b none) : Calls Try.prog 23 #[.pointer (some ⟨b, 0, none⟩)] w fun e w' => e = .returned (.int .i64 0) ∧ w = w' := left_any b none w h
theorem dead_take (b : Nat) (n : Int) (w : World) (h : Rd w b none) : Calls Try.prog 19 #[.pointer (some ⟨b, 0, none⟩), .int .i64 n] w fun e w' => e = .returned (.string { data := #[] }) ∧ Rd w' b none ∧ Only b w w' := take_any b none n w h
theorem dead_num (b : Nat) (w : World) (h : Rd w b none) : Calls Try.prog 15 #[.pointer (some ⟨b, 0, none⟩)] w fun e w' => e = .returned (.int .u32 0) ∧ Rd w' b none ∧ Only b w w' := rnum_any b none w h

theorem only_step {w w1 w2 : World} {b : Nat} (h : Below w.heap.size w w1) (ho : Only b w1 w2) (hb : w.heap.size ≤ b) : Below w.heap.size w w2 := h.trans (ho.below h.size hb)

set_option maxHeartbeats 800000 in
theorem cut_walk (s : ByteArray) (a1 a2 : Int) (w : World) :
    Calls Try.prog 6 #[.string s, .int .i64 a1, .int .i64 a2] w fun e w' => e = .returned (.bool true) ∧ Below w.heap.size w w' := by
  by_cases hbig : 1048576 < s.size
  · go_enter Try.func6, Try.ntmps6
    go_wp2_with fail
    refine (awake_any _).mono ?_
    rintro e w1 ⟨rfl, hb1⟩
    go_wp2_with fail
    go_ret
    exact ⟨rfl, hb1⟩
  have hX := wr4_size s
  obtain ⟨K, eK, hK⟩ := place a1 (wr4 s).size (by omega) (by omega)
  have CX := Lib.hid (fun w => text_any s w (by omega))
  have D1 := Lib.hid (text_cut s K 1048576 (by omega) (by omega))
  have D2 := Lib.hid (fun m hm => text_over s m (by omega) hm)
  have HX := Lib.hid hX
  have HS : Hid (¬ 1048576 < s.size) := hbig
  generalize wr4 s = X at *
  have hX2 : X.size ≤ 1048580 := by omega
  clear hX
  go_enter Try.func6, Try.ntmps6
  go_wp2_with fail
  refine (awake_any _).mono ?_
  rintro e w1 ⟨rfl, hb1⟩
  go_wp2_with fail
  refine (CX.out _).mono ?_
  rintro e w2 ⟨rfl, hb2⟩
  go_wp2_with fail
  refine (new_any _ _).mono ?_
  rintro e w3 ⟨rfl, hr3, hb3, hl3⟩
  have hbB : w.heap.size ≤ w2.heap.size := Nat.le_trans hb1.size hb2.size
  have W3 := Lib.hid (below_step (below_step hb1 hb2) hb3)
  have R3 := Lib.hid hr3
  have HB := Lib.hid hbB
  clear hr3 hbB hb1 hb2 hb3 hl3 eK
  go_wp2_with fail
  refine (text_dead _ _ _ D1.out _ R3.out).mono ?_
  rintro e w4 ⟨rfl, hr4, ho4⟩
  have R4 := Lib.hid hr4
  have W4 := Lib.hid (only_step W3.out ho4 HB.out)
  clear hr4 ho4
  go_wp2_with fail
  refine (dead_bad _ _ R4.out).mono ?_
  rintro e w5 ⟨rfl, rfl⟩
  go_wp2_with fail
  refine (dead_whole _ _ R4.out).mono ?_
  rintro e w5 ⟨rfl, rfl⟩
  go_wp2_with fail
  refine (dead_take _ _ _ R4.out).mono ?_
  rintro e w5 ⟨rfl, hr5, ho5⟩
  have R5 := Lib.hid hr5
  have W5 := Lib.hid (only_step W4.out ho5 HB.out)
  clear hr5 ho5
  go_wp2_with fail
  refine (dead_num _ _ R5.out).mono ?_
  rintro e w6 ⟨rfl, hr6, ho6⟩
  have R6 := Lib.hid hr6
  have W6 := Lib.hid (only_step W5.out ho6 HB.out)
  clear hr6 ho6
  go_wp2_with fail
  refine (dead_left _ _ R6.out).mono ?_
  rintro e w7 ⟨rfl, rfl⟩
  by_cases hz : s.size = 0
  · have hz' : ((s.size : Int) == 0) = true := by rw [beq_iff_eq]; omega
    clear hz
    go_wp2_with fail
    go_ret
    exact ⟨rfl, W6.out⟩
  · obtain ⟨K2, eK2, hK2⟩ := place a2 s.size (by omega) (by omega)
    have hz' : ((s.size : Int) == 0) = false := by rw [beq_eq_false_iff_ne]; omega
    have hz2 : 0 < s.size := by omega
    clear hz
    go_wp2_with fail
    refine (new_any _ _).mono ?_
    rintro e w7 ⟨rfl, hr7, hb7, hl7⟩
    have R7 := Lib.hid hr7
    have W7 := Lib.hid (W6.out.trans (hb7.mono W6.out.size))
    have HB7 := Lib.hid W6.out.size
    clear hr7 hb7 hl7
    go_wp2_with fail
    refine (text_dead _ _ _ (D2.out (K2 : Int) (by omega)) _ R7.out).mono ?_
    rintro e w8 ⟨rfl, hr8, ho8⟩
    have R8 := Lib.hid hr8
    have W8 := Lib.hid (only_step W7.out ho8 HB7.out)
    clear hr8 ho8 eK2
    go_wp2_with fail
    refine (dead_bad _ _ R8.out).mono ?_
    rintro e w9 ⟨rfl, rfl⟩
    go_wp2_with fail
    refine (bad_nil _).mono ?_
    rintro e w9 ⟨rfl, rfl⟩
    go_wp2_with fail
    refine (whole_nil _).mono ?_
    rintro e w9 ⟨rfl, rfl⟩
    go_wp2_with fail
    refine (rnum_nil _).mono ?_
    rintro e w9 ⟨rfl, hb9⟩
    go_wp2_with fail
    refine (left_nil _).mono ?_
    rintro e w10 ⟨rfl, rfl⟩
    go_wp2_with fail
    refine (rtext_nil _).mono ?_
    rintro e w10 ⟨rfl, hb10⟩
    go_wp2_with fail
    refine (take_nil _ _).mono ?_
    rintro e w11 ⟨rfl, rfl⟩
    go_wp2_with fail
    go_ret
    exact ⟨rfl, below_step (below_step W8.out hb9) hb10⟩
end Go.Proofs.Ytlbhibilhbhidaa
