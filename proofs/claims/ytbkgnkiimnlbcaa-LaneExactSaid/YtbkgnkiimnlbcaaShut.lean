/- The contracts of the two closures that Take and Twice hand to turn. No condition. -/
import Derived.Test.YtbkgnkiimnlbcaaTurn
namespace Go.Proofs.Ytbkgnkiimnlbcaa
open Go.RowKit Go.Deep Go.Conc

theorem one_cell {w : World} {b : Nat} {x : Value} {t : TypeId} (h : w.heap[b]? = some (.cells #[x] t)) : w.cell? ⟨b, 0, none⟩ = some x ∧ w.frozen? ⟨b, 0, none⟩ = false :=
  ⟨cell_of_row w b 0 _ t _ h, frozen_of_row w b 0 _ t h⟩

/-- The place asked for, the text found, and whether. -/
structure Found (w : World) (A T S : Nat) (at_ : Int) (t : ByteArray) (b : Bool) : Prop where
  ca : w.heap[A]? = some (.cells #[.int .i64 at_] 3)
  ct : w.heap[T]? = some (.cells #[.string t] 9)
  cs : w.heap[S]? = some (.cells #[.bool b] 4)
theorem Found.apart {w : World} {A T S : Nat} {at_ : Int} {t : ByteArray} {b : Bool} (h : Found w A T S at_ t b) : A ≠ T ∧ A ≠ S ∧ T ≠ S := by
  obtain ⟨ha, ht, hs⟩ := h
  refine ⟨?_, ?_, ?_⟩ <;> rintro rfl
  · rw [ha] at ht; cases ht
  · rw [ha] at hs; cases hs
  · rw [ht] at hs; cases hs
theorem Found.hit {w : World} {A T S : Nat} {at_ : Int} {t : ByteArray} {b : Bool} (h : Found w A T S at_ t b) (s : ByteArray) : Found ((w.setCell ⟨T, 0, none⟩ (.string s)).setCell ⟨S, 0, none⟩ (.bool true)) A T S at_ s true := by
  obtain ⟨n1, n2, n3⟩ := h.apart
  obtain ⟨ha, ht, hs⟩ := h
  refine ⟨?_, ?_, ?_⟩
  · rw [heap_setCell_other _ _ _ _ (by simpa using n2), heap_setCell_other _ _ _ _ (by simpa using n1)]; exact ha
  · rw [heap_setCell_other _ _ _ _ (by simpa using n3)]; exact heap_setCell_same w T 0 _ 9 _ ht
  · exact heap_setCell_same _ S 0 #[.bool b] 4 _ (by rw [heap_setCell_other _ _ _ _ (by simpa using n3.symm)]; exact hs)

set_option maxHeartbeats 400000 in
theorem shut_take {w : World} {A T S : Nat} {at_ : Int} {t : ByteArray} {b : Bool} (h : Found w A T S at_ t b) (i : Int) (s : ByteArray) :
    Calls Try.prog 24 #[.int .i64 i, .string s, .pointer (some ⟨A, 0, none⟩), .pointer (some ⟨T, 0, none⟩), .pointer (some ⟨S, 0, none⟩)] w
      fun e w' => e = .returned (.bool (decide (i ≠ at_))) ∧ w' = if i = at_ then (w.setCell ⟨T, 0, none⟩ (.string s)).setCell ⟨S, 0, none⟩ (.bool true) else w := by
  obtain ⟨n1, n2, n3⟩ := h.apart
  obtain ⟨ha, ht, hs⟩ := h
  obtain ⟨ca, fa⟩ := one_cell ha
  obtain ⟨ct, ft⟩ := one_cell ht
  obtain ⟨cs, fs⟩ := one_cell hs
  clear ha ht hs
  by_cases hi : i = at_
  · subst hi
    rw [if_pos rfl]
    simp only [ne_eq, not_true_eq_false, decide_false]
    go_enter Try.func24, Try.ntmps24
    go_wp2
    go_ret
    exact ⟨rfl, rfl⟩
  · rw [if_neg hi]
    simp only [ne_eq, hi, not_false_eq_true, decide_true]
    go_enter Try.func24, Try.ntmps24
    go_wp2
    go_ret
    exact ⟨by simp [hi], rfl⟩

set_option maxHeartbeats 400000 in
theorem shut_twice {w : World} {A T S : Nat} {at_ : Int} {t : ByteArray} {b : Bool} (h : Found w A T S at_ t b) (i : Int) (s : ByteArray) :
    Calls Try.prog 25 #[.int .i64 i, .string s, .pointer (some ⟨A, 0, none⟩), .pointer (some ⟨T, 0, none⟩), .pointer (some ⟨S, 0, none⟩)] w
      fun e w' => e = .returned (.bool true) ∧ w' = if i = at_ then (w.setCell ⟨T, 0, none⟩ (.string s)).setCell ⟨S, 0, none⟩ (.bool true) else w := by
  obtain ⟨n1, n2, n3⟩ := h.apart
  obtain ⟨ha, ht, hs⟩ := h
  obtain ⟨ca, fa⟩ := one_cell ha
  obtain ⟨ct, ft⟩ := one_cell ht
  obtain ⟨cs, fs⟩ := one_cell hs
  clear ha ht hs
  by_cases hi : i = at_
  · subst hi
    rw [if_pos rfl]
    go_enter Try.func25, Try.ntmps25
    go_wp2
    go_ret
    exact ⟨rfl, rfl⟩
  · rw [if_neg hi]
    go_enter Try.func25, Try.ntmps25
    go_wp2
    go_ret
    exact ⟨rfl, rfl⟩

end Go.Proofs.Ytbkgnkiimnlbcaa
