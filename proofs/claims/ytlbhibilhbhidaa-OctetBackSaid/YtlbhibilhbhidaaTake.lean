/- The contracts of Take, of the program and of the reference: the same text, the same reader behind it. Conditions: the count is an int; the bytes lie within the form's reach. -/
import Derived.Test.YtlbhibilhbhidaaSmall
namespace Go.Proofs.Ytlbhibilhbhidaa
open Go.RowKit Go.Deep

set_option maxHeartbeats 400000 in
theorem take_none (b : Nat) (n : Int) (w : World) (h : Rd w b none) : Calls Try.prog 19 #[.pointer (some ⟨b, 0, none⟩), .int .i64 n] w fun e w' => e = .returned (.string nul) ∧ Rd w' b none ∧ Only b w w' := by
  have H := Lib.hid h
  clear h
  have C : ∀ w, Rd w b none → Calls Try.prog 22 #[.pointer (some ⟨b, 0, none⟩)] w fun e w' => e = .returned (.bool true) ∧ w = w' := fun w h => bad_any b none w h
  have HC := Lib.hid C
  clear C
  go_enter Try.func19, Try.ntmps19
  go_wp2_with fail
  refine (HC.out _ H.out).mono ?_
  rintro e w1 ⟨rfl, rfl⟩
  go_wp2_with fail
  refine (spoil_any b _ _ H.out).mono ?_
  rintro e w1 ⟨rfl, hr1, ho1⟩
  go_wp2_with fail
  go_ret
  exact ⟨rfl, hr1, ho1⟩
set_option maxHeartbeats 400000 in
theorem take_low (b : Nat) (r : ByteArray) (n : Int) (w : World) (hn : n < 0 ∨ (r.size : Int) < n) (h : Rd w b (some r)) : Calls Try.prog 19 #[.pointer (some ⟨b, 0, none⟩), .int .i64 n] w fun e w' => e = .returned (.string nul) ∧ Rd w' b none ∧ Only b w w' := by
  have H := Lib.hid h
  obtain ⟨c0, c1, f0, f1⟩ := two_cells h
  clear h
  have C : ∀ w, Rd w b (some r) → Calls Try.prog 22 #[.pointer (some ⟨b, 0, none⟩)] w fun e w' => e = .returned (.bool false) ∧ w = w' := fun w h => bad_any b (some r) w h
  have HC := Lib.hid C
  clear C
  by_cases hn0 : n < 0
  · clear hn
    go_enter Try.func19, Try.ntmps19
    go_wp2_with fail
    refine (HC.out _ H.out).mono ?_
    rintro e w1 ⟨rfl, rfl⟩
    go_wp2_with fail
    refine (spoil_any b _ _ H.out).mono ?_
    rintro e w1 ⟨rfl, hr1, ho1⟩
    go_wp2_with fail
    go_ret
    exact ⟨rfl, hr1, ho1⟩
  · have hn1 : (r.size : Int) < n := by omega
    clear hn
    go_enter Try.func19, Try.ntmps19
    go_wp2_with fail
    refine (HC.out _ H.out).mono ?_
    rintro e w1 ⟨rfl, rfl⟩
    go_wp2_with fail
    refine (spoil_any b _ _ H.out).mono ?_
    rintro e w1 ⟨rfl, hr1, ho1⟩
    go_wp2_with fail
    go_ret
    exact ⟨rfl, hr1, ho1⟩
theorem take_world {w : World} {b : Nat} {x : ByteArray} (y : ByteArray) (h : Rd w b (some x)) : Rd (w.setCell ⟨b, 0, none⟩ (.string y)) b (some y) := heap_setCell_same w b 0 _ 50 _ h
set_option maxHeartbeats 400000 in
theorem take_ok (b : Nat) (r : ByteArray) (k : Nat) (w : World) (hk : k ≤ r.size) (h : Rd w b (some r)) : Calls Try.prog 19 #[.pointer (some ⟨b, 0, none⟩), .int .i64 k] w fun e w' => e = .returned (.string (r.extract 0 k)) ∧ Rd w' b (some (r.extract k r.size)) ∧ Only b w w' := by
  have H := Lib.hid h
  obtain ⟨c0, c1, f0, f1⟩ := two_cells h
  clear h
  have C : ∀ w, Rd w b (some r) → Calls Try.prog 22 #[.pointer (some ⟨b, 0, none⟩)] w fun e w' => e = .returned (.bool false) ∧ w = w' := fun w h => bad_any b (some r) w h
  have HC := Lib.hid C
  clear C
  go_enter Try.func19, Try.ntmps19
  go_wp2_with fail
  refine (HC.out _ H.out).mono ?_
  rintro e w1 ⟨rfl, rfl⟩
  go_wp2_with fail
  go_ret
  exact ⟨rfl, take_world _ H.out, (Only.refl b w).setCell _⟩
/-- Take, of the program. -/
theorem take_any (b : Nat) (st : St) (n : Int) (w : World) (h : Rd w b st) : Calls Try.prog 19 #[.pointer (some ⟨b, 0, none⟩), .int .i64 n] w fun e w' => e = .returned (.string (takeOut st n)) ∧ Rd w' b (takeSt st n) ∧ Only b w w' := by
  cases st with
  | none => exact take_none b n w h
  | some r =>
    by_cases hn : n < 0 ∨ (r.size : Int) < n
    · have e1 : takeOut (some r) n = nul := if_pos hn
      have e2 : takeSt (some r) n = none := if_pos hn
      rw [e1, e2]
      exact take_low b r n w hn h
    · have e1 : takeOut (some r) n = r.extract 0 n.toNat := if_neg hn
      have e2 : takeSt (some r) n = some (r.extract n.toNat r.size) := if_neg hn
      rw [e1, e2]
      obtain ⟨k, rfl⟩ := Int.eq_ofNat_of_zero_le (show 0 ≤ n by omega)
      rw [Int.toNat_natCast]
      exact take_ok b r k w (by omega) h

/-! The reference. -/
theorem ref_world2 {w : World} {b : Nat} {x y z : Value} (v : Value) (h : w.heap[b]? = some (.cells #[x, y, z] 37)) : (w.setCell ⟨b, 2, none⟩ v).heap[b]? = some (.cells #[x, y, v] 37) := heap_setCell_same w b 2 _ 37 _ h
theorem ref_world1 {w : World} {b : Nat} {x y z : Value} (v : Value) (h : w.heap[b]? = some (.cells #[x, y, z] 37)) : (w.setCell ⟨b, 1, none⟩ v).heap[b]? = some (.cells #[x, v, z] 37) := heap_setCell_same w b 1 _ 37 _ h
theorem only_drewN (b : Nat) (w : World) (n : Nat) : Only b w (w.drewN n) := ⟨rfl, rfl, rfl, Nat.le_refl _, fun _ _ _ => rfl⟩
set_option maxHeartbeats 400000 in
theorem ref_take_none (b : Nat) (s : ByteArray) (n : Int) (w : World) (h : Rf w b s none) : Calls Try.prog 20 #[.pointer (some ⟨b, 0, none⟩), .int .i64 n] w fun e w' => e = .returned (.string nul) ∧ Rf w' b s none ∧ Only b w w' := by
  obtain ⟨a, ha, h⟩ := h
  obtain ⟨c0, c1, c2, f0, f1, f2⟩ := three_cells h
  have H := Lib.hid h
  clear h
  go_enter Try.func20, Try.ntmps20
  go_wp2
  go_quiet (fail)
  go_wp2
  go_ret
  exact ⟨rfl, ⟨a, ha, ref_world2 (w := w.drewN nq) _ H.out⟩, (only_drewN b w nq).setCell _⟩
set_option maxHeartbeats 400000 in
theorem ref_take_low (b : Nat) (s r : ByteArray) (n : Int) (w : World) (hs : s.size ≤ 140737488351232) (hn : n < 0 ∨ (r.size : Int) < n) (h : Rf w b s (some r)) : Calls Try.prog 20 #[.pointer (some ⟨b, 0, none⟩), .int .i64 n] w fun e w' => e = .returned (.string nul) ∧ Rf w' b s none ∧ Only b w w' := by
  obtain ⟨a, ha, hr, h⟩ := h
  have hl : r.size = s.size - a := by rw [hr, ByteArray.size_extract]; omega
  obtain ⟨c0, c1, c2, f0, f1, f2⟩ := three_cells h
  have H := Lib.hid h
  clear h hr
  by_cases hn0 : n < 0
  · clear hn hl
    go_enter Try.func20, Try.ntmps20
    go_wp2
    go_quiet (fail)
    go_wp2
    go_ret
    exact ⟨rfl, ⟨a, ha, ref_world2 (w := w.drewN nq) _ H.out⟩, (only_drewN b w nq).setCell _⟩
  · have hn1 : (s.size : Int) - (a : Int) < n := by omega
    have hn2 : 0 ≤ n := by omega
    have hn3 : decide (n < 0) = false := by simpa using hn0
    clear hn hl hn0
    go_enter Try.func20, Try.ntmps20
    go_wp2
    go_quiet (fail)
    go_wp2
    go_ret
    exact ⟨rfl, ⟨a, ha, ref_world2 (w := w.drewN nq) _ H.out⟩, (only_drewN b w nq).setCell _⟩
theorem ex_head (s : ByteArray) (a k : Nat) (h : a + k ≤ s.size) : (s.extract a s.size).extract 0 k = s.extract a (a + k) := by
  apply ByteArray.ext
  have h' : a + k ≤ s.data.size := h
  simp only [ByteArray.data_extract, Array.extract_extract]
  show s.data.extract _ (min (a + k) s.data.size) = _
  rw [Nat.min_eq_left h', Nat.add_zero]
theorem ex_tail (s : ByteArray) (a k : Nat) (h : a + k ≤ s.size) : (s.extract a s.size).extract k (s.extract a s.size).size = s.extract (a + k) s.size := by
  apply ByteArray.ext
  rw [ByteArray.size_extract]
  have h' : a + k ≤ s.data.size := h
  simp only [ByteArray.data_extract, Array.extract_extract]
  show s.data.extract _ (min (a + (min s.data.size s.data.size - a)) s.data.size) = s.data.extract _ s.data.size
  congr 1
  omega
set_option maxHeartbeats 400000 in
theorem ref_take_ok (b : Nat) (s r : ByteArray) (k : Nat) (w : World) (hs : s.size ≤ 140737488351232) (hk : k ≤ r.size) (h : Rf w b s (some r)) : Calls Try.prog 20 #[.pointer (some ⟨b, 0, none⟩), .int .i64 k] w fun e w' => e = .returned (.string (r.extract 0 k)) ∧ Rf w' b s (some (r.extract k r.size)) ∧ Only b w w' := by
  obtain ⟨a, ha, hr, h⟩ := h
  have hl : r.size = s.size - a := by rw [hr, ByteArray.size_extract]; omega
  obtain ⟨c0, c1, c2, f0, f1, f2⟩ := three_cells h
  have H := Lib.hid h
  have Hr := Lib.hid hr
  have hk' : (k : Int) ≤ (s.size : Int) - (a : Int) := by omega
  have hn3 : decide ((k : Int) < 0) = false := by simp
  clear h hr
  go_enter Try.func20, Try.ntmps20
  go_wp2
  go_quiet (fail)
  go_wp2
  go_quiet (fail)
  go_wp2
  go_ret
  refine ⟨?_, ⟨a + k, by omega, ?_, ?_⟩, (only_drewN b w _).setCell _⟩
  · rw [Hr.out, ex_head s a k (by omega)]
    rfl
  · rw [Hr.out, ex_tail s a k (by omega)]
  · exact (ref_world1 (w := w.drewN _) (.int .i64 ((a : Int) + (k : Int))) H.out).trans (by simp)
/-- Take, of the reference. -/
theorem ref_take_any (b : Nat) (s : ByteArray) (st : St) (n : Int) (w : World) (hs : s.size ≤ 140737488351232) (h : Rf w b s st) : Calls Try.prog 20 #[.pointer (some ⟨b, 0, none⟩), .int .i64 n] w fun e w' => e = .returned (.string (takeOut st n)) ∧ Rf w' b s (takeSt st n) ∧ Only b w w' := by
  cases st with
  | none => exact ref_take_none b s n w h
  | some r =>
    by_cases hn : n < 0 ∨ (r.size : Int) < n
    · have e1 : takeOut (some r) n = nul := if_pos hn
      have e2 : takeSt (some r) n = none := if_pos hn
      rw [e1, e2]
      exact ref_take_low b s r n w hs hn h
    · have e1 : takeOut (some r) n = r.extract 0 n.toNat := if_neg hn
      have e2 : takeSt (some r) n = some (r.extract n.toNat r.size) := if_neg hn
      rw [e1, e2]
      obtain ⟨k, rfl⟩ := Int.eq_ofNat_of_zero_le (show 0 ≤ n by omega)
      rw [Int.toNat_natCast]
      exact ref_take_ok b s r k w hs (by omega) h
end Go.Proofs.Ytlbhibilhbhidaa
