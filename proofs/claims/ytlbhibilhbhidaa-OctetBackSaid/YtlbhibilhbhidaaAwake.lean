/- The walks of awake and of the law OctetWrites: they return true and write only blocks of their own. Conditions: the number is one of 32 bits; the text lies within the form's reach. -/
import Derived.Test.YtlbhibilhbhidaaRNum
namespace Go.Proofs.Ytlbhibilhbhidaa
open Go.RowKit Go.Deep

/-- The bytes of the example. -/
def hi6 : ByteArray := { data := #[2, 0, 0, 0, 104, 105] }
theorem aw_t : textOut (some hi6) 2 = { data := #[104, 105] } := by decide +kernel
theorem aw_ts : textSt (some hi6) 2 = some nul := by decide +kernel
theorem aw_q : textOut (some hi6) 1 = nul := by decide +kernel
theorem aw_qs : textSt (some hi6) 1 = none := by decide +kernel
theorem aw_n : le4 258 = { data := #[2, 1, 0, 0] } := by decide +kernel
theorem aw_w : wr4 { data := #[104, 105] } = hi6 := by decide +kernel

theorem aw_text2 (b : Nat) (w : World) (h : Rd w b (some hi6)) : Calls Try.prog 17 #[.pointer (some ⟨b, 0, none⟩), .int .i64 2] w fun e w' => e = .returned (.string { data := #[104, 105] }) ∧ Rd w' b (some nul) ∧ Only b w w' := by
  have := rtext_any b (some hi6) 2 w h
  rwa [aw_t, aw_ts] at this
theorem aw_text1 (b : Nat) (w : World) (h : Rd w b (some hi6)) : Calls Try.prog 17 #[.pointer (some ⟨b, 0, none⟩), .int .i64 1] w fun e w' => e = .returned (.string { data := #[] }) ∧ Rd w' b none ∧ Only b w w' := by
  have := rtext_any b (some hi6) 1 w h
  rwa [aw_q, aw_qs] at this
theorem aw_num (w : World) : Calls Try.prog 9 #[.int .u32 258] w fun e w' => e = .returned (.string { data := #[2, 1, 0, 0] }) ∧ Below w.heap.size w w' := by
  have := num_any 258 w (by omega) (by omega)
  rwa [show (258 : Int).toNat = 258 from rfl, aw_n] at this
theorem aw_wr (w : World) : Calls Try.prog 11 #[.string { data := #[104, 105] }] w fun e w' => e = .returned (.string { data := #[2, 0, 0, 0, 104, 105] }) ∧ Below w.heap.size w w' := by
  have := text_any { data := #[104, 105] } w (by decide)
  rwa [aw_w] at this
theorem aw_new (w : World) : Calls Try.prog 13 #[.string { data := #[2, 0, 0, 0, 104, 105] }] w fun e w' => e = .returned (.pointer (some ⟨w.heap.size, 0, none⟩)) ∧ Rd w' w.heap.size (some hi6) ∧ Below w.heap.size w w' ∧ w.heap.size < w'.heap.size := new_any hi6 w

theorem aw_world {w w1 w2 w3 w4 w5 w6 : World} (h1 : Below w.heap.size w w1) (l1 : w.heap.size < w1.heap.size) (h2 : Below w1.heap.size w1 w2) (o3 : Only w.heap.size w2 w3) (o4 : Only w1.heap.size w3 w4) (h5 : Below w4.heap.size w4 w5) (h6 : Below w5.heap.size w5 w6) : Below w.heap.size w w6 := by
  have s1 := h1.size
  have s2 := h2.size
  have s3 := o3.size
  have s4 := o4.size
  have s5 := h5.size
  have a := below_step h1 h2
  have b := a.trans (o3.below (by omega) (Nat.le_refl _))
  have c := b.trans (o4.below (by omega) (by omega))
  exact c.trans ((h5.mono (by omega)).trans (h6.mono (by omega)))

set_option maxHeartbeats 800000 in
theorem awake_any (w : World) : Calls Try.prog 8 #[] w fun e w' => e = .returned (.bool true) ∧ Below w.heap.size w w' := by
  go_enter Try.func8, Try.ntmps8
  go_wp2_with fail
  refine (aw_new _).mono ?_
  rintro e w1 ⟨rfl, hr1, hb1, hl1⟩
  go_wp2_with fail
  refine (aw_new _).mono ?_
  rintro e w2 ⟨rfl, hq2, hb2, hl2⟩
  have H1 := Lib.hid (hr1.below hb2 hl1)
  have Q1 := Lib.hid hq2
  clear hr1 hq2
  go_wp2_with fail
  refine (aw_text2 _ _ H1.out).mono ?_
  rintro e w3 ⟨rfl, hr3, ho3⟩
  have H3 := Lib.hid hr3
  have Q3 := Lib.hid (Q1.out.other ho3 (by omega))
  clear hr3
  go_wp2_with fail
  refine (aw_text1 _ _ Q3.out).mono ?_
  rintro e w4 ⟨rfl, hq4, ho4⟩
  have H4 := Lib.hid (H3.out.other ho4 (by omega))
  have Q4 := Lib.hid hq4
  clear hq4
  go_wp2_with fail
  refine (aw_num _).mono ?_
  rintro e w5 ⟨rfl, hb5⟩
  have H5 := Lib.hid (H4.out.below hb5 H4.out.lt)
  have Q5 := Lib.hid (Q4.out.below hb5 Q4.out.lt)
  go_wp2_with fail
  refine (aw_wr _).mono ?_
  rintro e w6 ⟨rfl, hb6⟩
  have H6 := Lib.hid (H5.out.below hb6 H5.out.lt)
  have Q6 := Lib.hid (Q5.out.below hb6 Q5.out.lt)
  have HW := Lib.hid (aw_world hb1 hl1 hb2 ho3 ho4 hb5 hb6)
  go_wp2_with fail
  refine (show Calls Try.prog 25 #[.pointer (some ⟨w.heap.size, 0, none⟩)] w6 fun e w' => e = .returned (.bool true) ∧ w6 = w' from whole_any _ (some nul) _ H6.out).mono ?_
  rintro e w7 ⟨rfl, rfl⟩
  go_wp2_with fail
  refine (show Calls Try.prog 22 #[.pointer (some ⟨w.heap.size, 0, none⟩)] w6 fun e w' => e = .returned (.bool false) ∧ w6 = w' from bad_any _ (some nul) _ H6.out).mono ?_
  rintro e w7 ⟨rfl, rfl⟩
  go_wp2_with fail
  refine (show Calls Try.prog 22 #[.pointer (some ⟨w1.heap.size, 0, none⟩)] w6 fun e w' => e = .returned (.bool true) ∧ w6 = w' from bad_any _ none _ Q6.out).mono ?_
  rintro e w7 ⟨rfl, rfl⟩
  go_wp2_with fail
  refine (show Calls Try.prog 23 #[.pointer (some ⟨w1.heap.size, 0, none⟩)] w6 fun e w' => e = .returned (.int .i64 0) ∧ w6 = w' from left_any _ none _ Q6.out).mono ?_
  rintro e w7 ⟨rfl, rfl⟩
  go_wp2_with fail
  go_ret
  exact ⟨rfl, HW.out⟩

set_option maxHeartbeats 400000 in
/-- The law OctetWrites, walked. -/
theorem writes_walk (a0 : Int) (a1 : ByteArray) (w0 : (Lit.int .u32 a0).wf = true) (w1 : a1.size ≤ 140737488351232) (w : World) :
    Calls Try.prog 3 #[.int .u32 a0, .string a1] w fun e w' => e = .returned (.bool true) ∧ Below w.heap.size w w' := by
  have hx : 0 ≤ a0 ∧ a0 ≤ 4294967295 := by simpa [Lit.wf, IntKind.min, IntKind.max, IntKind.signed, IntKind.bits] using w0
  have C1 := Lib.hid (fun w => num_any a0 w (by omega) (by omega))
  have C2 := Lib.hid (fun w => ref_num_any a0 w (by omega) (by omega))
  have C3 := Lib.hid (fun w => text_any a1 w (by omega))
  have C4 := Lib.hid (fun w => ref_text_any a1 w (by omega))
  generalize le4 a0.toNat = x at *
  generalize wr4 a1 = y at *
  clear hx w0 w1
  go_enter Try.func3, Try.ntmps3
  go_wp2_with fail
  refine (awake_any _).mono ?_
  rintro e w1 ⟨rfl, hb1⟩
  go_wp2_with fail
  refine (C1.out _).mono ?_
  rintro e w2 ⟨rfl, hb2⟩
  go_wp2_with fail
  refine (C2.out _).mono ?_
  rintro e w3 ⟨rfl, hb3⟩
  go_wp2_with fail
  refine (C3.out _).mono ?_
  rintro e w4 ⟨rfl, hb4⟩
  go_wp2_with fail
  refine (C4.out _).mono ?_
  rintro e w5 ⟨rfl, hb5⟩
  go_wp2_with fail
  go_ret
  exact ⟨rfl, below_step (below_step (below_step (below_step hb1 hb2) hb3) hb4) hb5⟩
end Go.Proofs.Ytlbhibilhbhidaa
