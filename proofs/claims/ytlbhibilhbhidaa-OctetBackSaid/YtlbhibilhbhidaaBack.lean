/- Lemmas for the walks of the law OctetBack: what a round writes, what a round reads. Conditions: the bounds that each names. -/
import Derived.Test.YtlbhibilhbhidaaReads
import Derived.Test.YtlbhibilhbhidaaRows2
import Derived.Deep.RegionWith
namespace Go.Proofs.Ytlbhibilhbhidaa
open Go.RowKit Go.Deep

theorem mins (x y : Nat) : ∃ n m N : Nat, (if (50 : Int) < (x : Int) then 50 else (x : Int)) = (n : Int) ∧ (if (50 : Int) < (y : Int) then 50 else (y : Int)) = (m : Int) ∧ n ≤ x ∧ m ≤ y ∧ n ≤ 50 ∧ m ≤ 50 ∧ n ≤ N ∧ m ≤ N ∧ (∀ k, k < N → k < n ∨ k < m) ∧ (if n < m then (m : Int) else (n : Int)) = (N : Int) := by
  refine ⟨min 50 x, min 50 y, max (min 50 x) (min 50 y), ?_, ?_, by omega, by omega, by omega, by omega, by omega, by omega, fun k h => by omega, ?_⟩
  · split <;> omega
  · split <;> omega
  · split <;> omega

theorem mins1 (y : Nat) : ∃ m : Nat, (if (50 : Int) < (y : Int) then 50 else (y : Int)) = (m : Int) ∧ (if 0 < m then (m : Int) else 0) = (m : Int) ∧ m ≤ y ∧ m ≤ 50 := by
  refine ⟨min 50 y, ?_, ?_, by omega, by omega⟩
  · split <;> omega
  · split <;> omega

/-- What is needed of a number that is written. -/
theorem w_num (z : Nat) (hz : z < 4294967296) : ∀ w, Calls Try.prog 9 #[.int .u32 (z : Int)] w fun e w' => e = .returned (.string (le4 z)) ∧ Below w.heap.size w w' := fun w => by
  have := num_any (z : Int) w (by omega) (by omega)
  rwa [Int.toNat_natCast] at this
theorem w_cat (x y : ByteArray) (h : x.size + y.size ≤ 9223372036854775807) : ∀ w, (Op.stringOp .add x y).run Try.prog w = .ok (.string (x ++ y)) w := fun w => run_string_add_sum (P := Try.prog) w x y h

theorem wr_tt {n m k : Nat} {Z : Nat → Nat} {T : Nat → ByteArray} (h1 : k < n) (h2 : k < m) (hX : (built n m Z T k).size ≤ 1048576) (hz : Z k < 4294967296) (ht : (T k).size ≤ 140737488351232) :
    ∃ X a b Y1 Y : ByteArray, built n m Z T k = X ∧ built n m Z T (k + 1) = Y ∧ (∀ w, Calls Try.prog 9 #[.int .u32 (Z k : Int)] w fun e w' => e = .returned (.string a) ∧ Below w.heap.size w w') ∧
      (∀ w, Calls Try.prog 11 #[.string (T k)] w fun e w' => e = .returned (.string b) ∧ Below w.heap.size w w') ∧ (∀ w, (Op.stringOp .add X a).run Try.prog w = .ok (.string Y1) w) ∧ (∀ w, (Op.stringOp .add Y1 b).run Try.prog w = .ok (.string Y) w) := by
  refine ⟨_, _, _, _, _, rfl, ?_, w_num _ hz, fun w => text_any (T k) w (by omega), w_cat _ _ (by rw [le4_size]; omega), w_cat _ _ (by rw [ByteArray.size_append, le4_size, wr4_size]; omega)⟩
  show built n m Z T k ++ part n m Z T k = _
  rw [part_tt Z T h1 h2, assoc]
theorem wr_tf {n m k : Nat} {Z : Nat → Nat} {T : Nat → ByteArray} (h1 : k < n) (h2 : ¬ k < m) (hX : (built n m Z T k).size ≤ 1048576) (hz : Z k < 4294967296) :
    ∃ X a Y : ByteArray, built n m Z T k = X ∧ built n m Z T (k + 1) = Y ∧ (∀ w, Calls Try.prog 9 #[.int .u32 (Z k : Int)] w fun e w' => e = .returned (.string a) ∧ Below w.heap.size w w') ∧ (∀ w, (Op.stringOp .add X a).run Try.prog w = .ok (.string Y) w) := by
  refine ⟨_, _, _, rfl, ?_, w_num _ hz, w_cat _ _ (by rw [le4_size]; omega)⟩
  show built n m Z T k ++ part n m Z T k = _
  rw [part_tf Z T h1 h2]
theorem wr_ft {n m k : Nat} {Z : Nat → Nat} {T : Nat → ByteArray} (h1 : ¬ k < n) (h2 : k < m) (hX : (built n m Z T k).size ≤ 1048576) (ht : (T k).size ≤ 140737488351232) :
    ∃ X b Y : ByteArray, built n m Z T k = X ∧ built n m Z T (k + 1) = Y ∧ (∀ w, Calls Try.prog 11 #[.string (T k)] w fun e w' => e = .returned (.string b) ∧ Below w.heap.size w w') ∧ (∀ w, (Op.stringOp .add X b).run Try.prog w = .ok (.string Y) w) := by
  refine ⟨_, _, _, rfl, ?_, fun w => text_any (T k) w (by omega), w_cat _ _ (by rw [wr4_size]; omega)⟩
  show built n m Z T k ++ part n m Z T k = _
  rw [part_ft Z T h1 h2]

/-- A number that is read. -/
theorem r_num (b z : Nat) (x : ByteArray) (hz : z < 4294967296) (w : World) (h : Rd w b (some (le4 z ++ x))) : Calls Try.prog 15 #[.pointer (some ⟨b, 0, none⟩)] w fun e w' => e = .returned (.int .u32 (z : Int)) ∧ Rd w' b (some x) ∧ Only b w w' := by
  have := rnum_any b _ w h
  obtain ⟨e1, e2⟩ := num_back z x hz
  rwa [e1, e2] at this
/-- A text that is read. -/
theorem r_text (b : Nat) (t x : ByteArray) (ht : t.size ≤ 1048576) (w : World) (h : Rd w b (some (wr4 t ++ x))) : Calls Try.prog 17 #[.pointer (some ⟨b, 0, none⟩), .int .i64 1048576] w fun e w' => e = .returned (.string t) ∧ Rd w' b (some x) ∧ Only b w w' := by
  have := rtext_any b _ 1048576 w h
  obtain ⟨e1, e2⟩ := text_back t x 1048576 (by omega) (by omega)
  rwa [e1, e2] at this
theorem r_bad (b : Nat) (x : ByteArray) (w : World) (h : Rd w b (some x)) : Calls Try.prog 22 #[.pointer (some ⟨b, 0, none⟩)] w fun e w' => e = .returned (.bool false) ∧ w = w' := bad_any b (some x) w h
theorem r_left (b : Nat) (x : ByteArray) (w : World) (h : Rd w b (some x)) : Calls Try.prog 23 #[.pointer (some ⟨b, 0, none⟩)] w fun e w' => e = .returned (.int .i64 (x.size : Int)) ∧ w = w' := left_any b (some x) w h
theorem r_whole (b : Nat) (x : ByteArray) (w : World) (h : Rd w b (some x)) : Calls Try.prog 25 #[.pointer (some ⟨b, 0, none⟩)] w fun e w' => e = .returned (.bool x.toList.isEmpty) ∧ w = w' := by
  have := whole_any b (some x) w h
  have e : wholeOut (some x) = x.toList.isEmpty := by
    show (x.size == 0) = _
    rw [ByteArray.toList_eq, ← size_list]
    cases x.data.toList <;> rfl
  rwa [e] at this
theorem only_cell {w0 w w' : World} {p b o : Nat} {v : Value} (hbel : Below w0.heap.size w0 w) (ho : Only p w w') (hp : w0.heap.size ≤ p) (hb : b < w0.heap.size) (h : w.cell? ⟨b, o, none⟩ = some v) : w'.cell? ⟨b, o, none⟩ = some v := by
  rw [(ho.below (B := w0.heap.size) hbel.size hp).cell (p := ⟨b, o, none⟩) hb]; exact h
theorem only_step' {w w1 w2 : World} {b : Nat} (h : Below w.heap.size w w1) (ho : Only b w1 w2) (hb : w.heap.size ≤ b) : Below w.heap.size w w2 := h.trans (ho.below h.size hb)
theorem below_cell {w0 w w' : World} {b o : Nat} {v : Value} (hbel : Below w0.heap.size w0 w) (h' : Below w.heap.size w w') (hb : b < w0.heap.size) (h : w.cell? ⟨b, o, none⟩ = some v) : w'.cell? ⟨b, o, none⟩ = some v := by
  rw [h'.cell (p := ⟨b, o, none⟩) (by have := hbel.size; show b < _; omega)]; exact h
end Go.Proofs.Ytlbhibilhbhidaa
