/- The contracts of Text, New, Bad, Spoil, Left and Whole, of the program and of the reference. Conditions: a text's length and four more fit an int. -/
import Derived.Test.YtlbhibilhbhidaaNum
namespace Go.Proofs.Ytlbhibilhbhidaa
open Go.RowKit Go.Deep

/-- A text as it is written. -/
def wr4 (s : ByteArray) : ByteArray := le4 (s.size % 4294967296) ++ s
theorem le4_size (n : Nat) : (le4 n).size = 4 := rfl
theorem wr4_size (s : ByteArray) : (wr4 s).size = 4 + s.size := by unfold wr4; rw [ByteArray.size_append, le4_size]

theorem text_head (s : ByteArray) (w : World) : Calls Try.prog 9 #[.int .u32 ((s.size : Int) % 4294967296)] w fun e w' => e = .returned (.string (le4 (s.size % 4294967296))) ∧ Below w.heap.size w w' := by
  have := num_any ((s.size : Int) % 4294967296) w (by omega) (by omega)
  rwa [show ((s.size : Int) % 4294967296).toNat = s.size % 4294967296 from by omega] at this
theorem ref_text_head (s : ByteArray) (w : World) : Calls Try.prog 10 #[.int .u32 ((s.size : Int) % 4294967296)] w fun e w' => e = .returned (.string (le4 (s.size % 4294967296))) ∧ Below w.heap.size w w' := by
  have := ref_num_any ((s.size : Int) % 4294967296) w (by omega) (by omega)
  rwa [show ((s.size : Int) % 4294967296).toNat = s.size % 4294967296 from by omega] at this

set_option maxHeartbeats 400000 in
theorem text_any (s : ByteArray) (w : World) (hs : s.size + 4 ≤ 9223372036854775807) : Calls Try.prog 11 #[.string s] w fun e w' => e = .returned (.string (wr4 s)) ∧ Below w.heap.size w w' := by
  have hcat := fun w => run_string_add_sum (P := Try.prog) w (le4 (s.size % 4294967296)) s (by rw [le4_size]; omega)
  have HC := Lib.hid (text_head s)
  clear hs
  unfold wr4
  generalize le4 (s.size % 4294967296) = h4 at *
  go_enter Try.func11, Try.ntmps11
  go_wp2_with fail
  refine (HC.out _).mono ?_
  rintro e w1 ⟨rfl, hb1⟩
  go_wp2_with fail
  go_ret
  exact ⟨rfl, hb1⟩
set_option maxHeartbeats 400000 in
theorem ref_text_any (s : ByteArray) (w : World) (hs : s.size + 4 ≤ 9223372036854775807) : Calls Try.prog 12 #[.string s] w fun e w' => e = .returned (.string (wr4 s)) ∧ Below w.heap.size w w' := by
  have hcat := fun w => run_string_add_sum (P := Try.prog) w (le4 (s.size % 4294967296)) s (by rw [le4_size]; omega)
  have HC := Lib.hid (ref_text_head s)
  clear hs
  unfold wr4
  generalize le4 (s.size % 4294967296) = h4 at *
  go_enter Try.func12, Try.ntmps12
  go_wp2_with fail
  refine (HC.out _).mono ?_
  rintro e w1 ⟨rfl, hb1⟩
  go_wp2_with fail
  go_ret
  exact ⟨rfl, hb1⟩

theorem new_any (s : ByteArray) (w : World) : Calls Try.prog 13 #[.string s] w fun e w' => e = .returned (.pointer (some ⟨w.heap.size, 0, none⟩)) ∧ Rd w' w.heap.size (some s) ∧ Below w.heap.size w w' ∧ w.heap.size < w'.heap.size := by
  go_enter Try.func13, Try.ntmps13
  go_wp2
  go_ret
  exact ⟨rfl, heap_alloc_new _ _, (Below.refl _ _).alloc (Nat.le_refl _) _, by simp⟩
theorem ref_new_any (s : ByteArray) (w : World) : Calls Try.prog 14 #[.string s] w fun e w' => e = .returned (.pointer (some ⟨w.heap.size, 0, none⟩)) ∧ Rf w' w.heap.size s (some s) ∧ Below w.heap.size w w' ∧ w.heap.size < w'.heap.size := by
  go_enter Try.func14, Try.ntmps14
  go_wp2
  go_ret
  exact ⟨rfl, ⟨0, Nat.zero_le _, by simp, heap_alloc_new _ _⟩, (Below.refl _ _).alloc (Nat.le_refl _) _, by simp⟩
theorem bad_any (b : Nat) (st : St) (w : World) (h : Rd w b st) : Calls Try.prog 22 #[.pointer (some ⟨b, 0, none⟩)] w fun e w' => e = .returned (.bool (badOut st)) ∧ w = w' := by
  cases st with
  | none =>
    obtain ⟨c0, c1, f0, f1⟩ := two_cells h
    clear h
    go_enter Try.func22, Try.ntmps22
    go_wp2
    go_ret
    exact ⟨rfl, rfl⟩
  | some r =>
    obtain ⟨c0, c1, f0, f1⟩ := two_cells h
    clear h
    go_enter Try.func22, Try.ntmps22
    go_wp2
    go_ret
    exact ⟨rfl, rfl⟩
theorem bad_nil (w : World) : Calls Try.prog 22 #[.pointer none] w fun e w' => e = .returned (.bool true) ∧ w = w' := by
  go_enter Try.func22, Try.ntmps22
  go_wp2
  go_ret
  exact ⟨rfl, rfl⟩
theorem spoil_world {w : World} {b : Nat} {x y : Value} (h : w.heap[b]? = some (.cells #[x, y] 50)) :
    Rd ((w.setCell ⟨b, 1, none⟩ (.bool true)).setCell ⟨b, 0, none⟩ (.string { data := #[] })) b none ∧ Only b w ((w.setCell ⟨b, 1, none⟩ (.bool true)).setCell ⟨b, 0, none⟩ (.string { data := #[] })) :=
  ⟨heap_setCell_same _ b 0 _ 50 _ (heap_setCell_same w b 1 _ 50 _ h), ((Only.refl b w).setCell _).setCell _⟩
theorem spoil_any (b : Nat) (st : St) (w : World) (h : Rd w b st) : Calls Try.prog 21 #[.pointer (some ⟨b, 0, none⟩)] w fun e w' => e = .returned (.tuple #[]) ∧ Rd w' b none ∧ Only b w w' := by
  cases st with
  | none =>
    obtain ⟨c0, c1, f0, f1⟩ := two_cells h
    have H := Lib.hid h
    clear h
    go_enter Try.func21, Try.ntmps21
    go_wp2
    go_end0
    exact ⟨rfl, spoil_world H.out⟩
  | some r =>
    obtain ⟨c0, c1, f0, f1⟩ := two_cells h
    have H := Lib.hid h
    clear h
    go_enter Try.func21, Try.ntmps21
    go_wp2
    go_end0
    exact ⟨rfl, spoil_world H.out⟩
theorem left_any (b : Nat) (st : St) (w : World) (h : Rd w b st) : Calls Try.prog 23 #[.pointer (some ⟨b, 0, none⟩)] w fun e w' => e = .returned (.int .i64 (leftOut st)) ∧ w = w' := by
  cases st with
  | none =>
    obtain ⟨c0, c1, f0, f1⟩ := two_cells h
    clear h
    go_enter Try.func23, Try.ntmps23
    go_wp2
    go_ret
    exact ⟨rfl, rfl⟩
  | some r =>
    obtain ⟨c0, c1, f0, f1⟩ := two_cells h
    clear h
    go_enter Try.func23, Try.ntmps23
    go_wp2
    go_ret
    exact ⟨rfl, rfl⟩
theorem left_nil (w : World) : Calls Try.prog 23 #[.pointer none] w fun e w' => e = .returned (.int .i64 0) ∧ w = w' := by
  go_enter Try.func23, Try.ntmps23
  go_wp2
  go_ret
  exact ⟨rfl, rfl⟩
theorem ref_left_any (b : Nat) (s : ByteArray) (st : St) (w : World) (hs : s.size ≤ 140737488351232) (h : Rf w b s st) : Calls Try.prog 24 #[.pointer (some ⟨b, 0, none⟩)] w fun e w' => e = .returned (.int .i64 (leftOut st)) ∧ ∃ n, w' = w.drewN n := by
  cases st with
  | none =>
    obtain ⟨a, ha, h⟩ := h
    obtain ⟨c0, c1, c2, f0, f1, f2⟩ := three_cells h
    clear h
    go_enter Try.func24, Try.ntmps24
    go_wp2
    go_ret
    exact ⟨rfl, 0, rfl⟩
  | some r =>
    obtain ⟨a, ha, hr, h⟩ := h
    obtain ⟨c0, c1, c2, f0, f1, f2⟩ := three_cells h
    have hl : ((r.size : Nat) : Int) = (s.size : Int) - (a : Int) := by rw [hr, ByteArray.size_extract]; omega
    have Hl := Lib.hid hl
    clear h hr hl
    go_enter Try.func24, Try.ntmps24
    go_wp2
    go_quiet (fail)
    go_wp2
    go_ret
    refine ⟨?_, nq, rfl⟩
    show Ending.returned (.int .i64 _) = Ending.returned (.int .i64 ((r.size : Nat) : Int))
    rw [Hl.out]
theorem int_zero (n : Nat) : ((n : Int) == 0) = (n == 0) := by
  rw [Bool.eq_iff_iff]; simp
theorem int_at {a n r : Nat} (ha : a ≤ n) (hr : r = n - a) : ((a : Int) == (n : Int)) = (r == 0) := by
  rw [Bool.eq_iff_iff]; simp; omega
theorem whole_any (b : Nat) (st : St) (w : World) (h : Rd w b st) : Calls Try.prog 25 #[.pointer (some ⟨b, 0, none⟩)] w fun e w' => e = .returned (.bool (wholeOut st)) ∧ w = w' := by
  have H := Lib.hid h
  clear h
  cases st with
  | none =>
    go_enter Try.func25, Try.ntmps25
    go_wp2_with fail
    refine (bad_any b _ _ H.out).mono ?_
    rintro e w1 ⟨rfl, rfl⟩
    go_wp2_with fail
    go_ret
    exact ⟨rfl, rfl⟩
  | some r =>
    go_enter Try.func25, Try.ntmps25
    go_wp2_with fail
    refine (bad_any b _ _ H.out).mono ?_
    rintro e w1 ⟨rfl, rfl⟩
    go_wp2_with fail
    refine (left_any b _ _ H.out).mono ?_
    rintro e w1 ⟨rfl, rfl⟩
    go_wp2_with fail
    go_ret
    exact ⟨congrArg (fun x => Ending.returned (.bool x)) (int_zero r.size), rfl⟩
theorem whole_nil (w : World) : Calls Try.prog 25 #[.pointer none] w fun e w' => e = .returned (.bool false) ∧ w = w' := by
  go_enter Try.func25, Try.ntmps25
  go_wp2_with fail
  refine (bad_nil _).mono ?_
  rintro e w1 ⟨rfl, rfl⟩
  go_wp2_with fail
  go_ret
  exact ⟨rfl, rfl⟩
theorem ref_whole_any (b : Nat) (s : ByteArray) (st : St) (w : World) (h : Rf w b s st) : Calls Try.prog 26 #[.pointer (some ⟨b, 0, none⟩)] w fun e w' => e = .returned (.bool (wholeOut st)) ∧ ∃ n, w' = w.drewN n := by
  cases st with
  | none =>
    obtain ⟨a, ha, h⟩ := h
    obtain ⟨c0, c1, c2, f0, f1, f2⟩ := three_cells h
    clear h
    go_enter Try.func26, Try.ntmps26
    go_wp2
    go_quiet (fail)
    go_wp2
    go_ret
    exact ⟨rfl, nq, rfl⟩
  | some r =>
    obtain ⟨a, ha, hr, h⟩ := h
    obtain ⟨c0, c1, c2, f0, f1, f2⟩ := three_cells h
    have hl : r.size = s.size - a := by rw [hr, ByteArray.size_extract]; omega
    have Hl := Lib.hid hl
    clear h hr hl
    go_enter Try.func26, Try.ntmps26
    go_wp2
    go_quiet (fail)
    go_wp2
    go_ret
    exact ⟨congrArg (fun x => Ending.returned (.bool x)) (int_at ha Hl.out), nq, rfl⟩
end Go.Proofs.Ytlbhibilhbhidaa
