/- The abstract reader (what is left of the bytes, or that it went wrong), how it lies in memory in both programs, and small laws on worlds. No condition. -/
import Derived.Test.YtlbhibilhbhidaaRows
import Derived.WalkKit
import Derived.WalkLawsBesides
import Derived.WalkSpells
import Derived.Outline
import Derived.Deep.OwnRows
import Derived.Deep.LoopGhost
import Derived.Lib.Hide
import Derived.Laws.BitsAllLaws
import Derived.Laws.BytesArg
import Derived.Lib.QuietBelow
import Derived.BigQuiet
import Derived.BigRegion
import Derived.Deep.QuietTactic
namespace Go.Proofs.Ytlbhibilhbhidaa
open Go.RowKit Go.Deep

/-- No bytes. -/
def nul : ByteArray := { data := #[] }
/-- The bytes of a number, the lowest first. -/
def le4 (n : Nat) : ByteArray := { data := #[UInt8.ofNat n, UInt8.ofNat (n / 256), UInt8.ofNat (n / 65536), UInt8.ofNat (n / 16777216)] }
/-- The number of four bytes. -/
def num4 (s : ByteArray) : Nat := (s.data.getD 0 0).toNat + 256 * (s.data.getD 1 0).toNat + 65536 * (s.data.getD 2 0).toNat + 16777216 * (s.data.getD 3 0).toNat

/-- A reader: 'none': it went wrong; else what is left. -/
abbrev St := Option ByteArray
def takeOut (st : St) (n : Int) : ByteArray := match st with
  | none => nul
  | some r => if n < 0 ∨ (r.size : Int) < n then nul else r.extract 0 n.toNat
def takeSt (st : St) (n : Int) : St := match st with
  | none => none
  | some r => if n < 0 ∨ (r.size : Int) < n then none else some (r.extract n.toNat r.size)
def numOut (st : St) : Nat := match st with
  | none => 0
  | some r => if r.size < 4 then 0 else num4 r
def numSt (st : St) : St := takeSt st 4
def textMid (st : St) (most : Int) : St := if most < (numOut st : Int) then none else numSt st
def textOut (st : St) (most : Int) : ByteArray := takeOut (textMid st most) (numOut st)
def textSt (st : St) (most : Int) : St := takeSt (textMid st most) (numOut st)
def leftOut (st : St) : Nat := match st with
  | none => 0
  | some r => r.size
def badOut (st : St) : Bool := st.isNone
def wholeOut (st : St) : Bool := match st with
  | none => false
  | some r => r.size == 0

theorem num4_lt (s : ByteArray) : num4 s < 4294967296 := by
  unfold num4
  have h0 := (s.data.getD 0 0).toNat_lt
  have h1 := (s.data.getD 1 0).toNat_lt
  have h2 := (s.data.getD 2 0).toNat_lt
  have h3 := (s.data.getD 3 0).toNat_lt
  omega
theorem numOut_lt (st : St) : numOut st < 4294967296 := by
  unfold numOut
  split
  · omega
  · split
    · omega
    · exact num4_lt _

/-- How a reader of the program lies in block b. -/
def Rd (w : World) (b : Nat) : St → Prop
  | none => w.heap[b]? = some (.cells #[.string nul, .bool true] 50)
  | some r => w.heap[b]? = some (.cells #[.string r, .bool false] 50)
/-- How a reader of the reference lies in block b. -/
def Rf (w : World) (b : Nat) (s : ByteArray) : St → Prop
  | none => ∃ at_ : Nat, at_ ≤ s.size ∧ w.heap[b]? = some (.cells #[.string s, .int .i64 at_, .bool true] 37)
  | some r => ∃ at_ : Nat, at_ ≤ s.size ∧ r = s.extract at_ s.size ∧ w.heap[b]? = some (.cells #[.string s, .int .i64 at_, .bool false] 37)

/-- Of what was there block b alone may have turned. -/
def Only (b : Nat) (w w' : World) : Prop := w.grownBy w' (some b)
theorem Only.refl (b : Nat) (w : World) : Only b w w := ⟨rfl, rfl, rfl, Nat.le_refl _, fun _ _ _ => rfl⟩
theorem Only.trans {b : Nat} {w w' w'' : World} (h : Only b w w') (k : Only b w' w'') : Only b w w'' :=
  ⟨k.os.trans h.os, k.tape.trans h.tape, k.output.trans h.output, Nat.le_trans h.size k.size, fun i hi hb => (k.block i (Nat.lt_of_lt_of_le hi h.size) hb).trans (h.block i hi hb)⟩
theorem Only.of_below {b : Nat} {w w' : World} (h : Below w.heap.size w w') : Only b w w' := ⟨h.os, h.tape, h.output, h.size, fun k hk _ => h.block k hk⟩
theorem Only.drew {b : Nat} {w w' : World} (h : Only b w w') : Only b w w'.drew := ⟨h.os, h.tape, h.output, h.size, h.block⟩
theorem Only.setCell {b o : Nat} {w w' : World} (h : Only b w w') (v : Value) : Only b w (w'.setCell ⟨b, o, none⟩ v) :=
  h.trans ⟨rfl, rfl, rfl, by simp [World.setCell], fun k _ hb => heap_setCell_other _ _ _ _ (by intro e; exact hb (by simp [e]))⟩
theorem Only.below {b B : Nat} {w w' : World} (h : Only b w w') (hB : B ≤ w.heap.size) (hb : B ≤ b) : Below B w w' :=
  ⟨h.os, h.tape, h.output, h.size, fun k hk => h.block k (by omega) (by simp; omega)⟩
theorem Only.other {b k : Nat} {w w' : World} (h : Only b w w') {o : Obj} (hk : w.heap[k]? = some o) (hne : k ≠ b) : w'.heap[k]? = some o := by
  obtain ⟨hlt, _⟩ := Array.getElem?_eq_some_iff.1 hk
  rw [h.block k hlt (by simpa using hne)]; exact hk
theorem below_other {B k : Nat} {w w' : World} (h : Below B w w') {o : Obj} (hk : w.heap[k]? = some o) (hne : k < B) : w'.heap[k]? = some o := by
  rw [h.block k hne]; exact hk
theorem Rd.other {b k : Nat} {w w' : World} {st : St} (h : Rd w k st) (ho : Only b w w') (hne : k ≠ b) : Rd w' k st := by
  cases st with
  | none => exact Only.other ho h hne
  | some r => exact Only.other ho h hne
theorem Rf.other {b k : Nat} {w w' : World} {s : ByteArray} {st : St} (h : Rf w k s st) (ho : Only b w w') (hne : k ≠ b) : Rf w' k s st := by
  cases st with
  | none => obtain ⟨a, ha, hh⟩ := h; exact ⟨a, ha, Only.other ho hh hne⟩
  | some r => obtain ⟨a, ha, hr, hh⟩ := h; exact ⟨a, ha, hr, Only.other ho hh hne⟩
theorem Rd.lt {b : Nat} {w : World} {st : St} (h : Rd w b st) : b < w.heap.size := by
  cases st with
  | none => exact (Array.getElem?_eq_some_iff.1 h).1
  | some r => exact (Array.getElem?_eq_some_iff.1 h).1
theorem Rf.lt {b : Nat} {w : World} {s : ByteArray} {st : St} (h : Rf w b s st) : b < w.heap.size := by
  cases st with
  | none => obtain ⟨_, _, hh⟩ := h; exact (Array.getElem?_eq_some_iff.1 hh).1
  | some r => obtain ⟨_, _, _, hh⟩ := h; exact (Array.getElem?_eq_some_iff.1 hh).1
theorem Rd.below {k B : Nat} {w w' : World} {st : St} (h : Rd w k st) (hb : Below B w w') (hk : k < B) : Rd w' k st := by
  cases st with
  | none => exact below_other hb h hk
  | some r => exact below_other hb h hk
theorem Rf.below {k B : Nat} {w w' : World} {s : ByteArray} {st : St} (h : Rf w k s st) (hb : Below B w w') (hk : k < B) : Rf w' k s st := by
  cases st with
  | none => obtain ⟨a, ha, hh⟩ := h; exact ⟨a, ha, below_other hb hh hk⟩
  | some r => obtain ⟨a, ha, hr, hh⟩ := h; exact ⟨a, ha, hr, below_other hb hh hk⟩
/-- The cells of a block of two. -/
theorem two_cells {w : World} {b : Nat} {x y : Value} {t : TypeId} (h : w.heap[b]? = some (.cells #[x, y] t)) :
    w.cell? ⟨b, 0, none⟩ = some x ∧ w.cell? ⟨b, 1, none⟩ = some y ∧ w.frozen? ⟨b, 0, none⟩ = false ∧ w.frozen? ⟨b, 1, none⟩ = false :=
  ⟨cell_of_row w b 0 _ t _ h, cell_of_row w b 1 _ t _ h, frozen_of_row w b 0 _ t h, frozen_of_row w b 1 _ t h⟩
theorem three_cells {w : World} {b : Nat} {x y z : Value} {t : TypeId} (h : w.heap[b]? = some (.cells #[x, y, z] t)) :
    w.cell? ⟨b, 0, none⟩ = some x ∧ w.cell? ⟨b, 1, none⟩ = some y ∧ w.cell? ⟨b, 2, none⟩ = some z ∧ w.frozen? ⟨b, 0, none⟩ = false ∧ w.frozen? ⟨b, 1, none⟩ = false ∧ w.frozen? ⟨b, 2, none⟩ = false :=
  ⟨cell_of_row w b 0 _ t _ h, cell_of_row w b 1 _ t _ h, cell_of_row w b 2 _ t _ h, frozen_of_row w b 0 _ t h, frozen_of_row w b 1 _ t h, frozen_of_row w b 2 _ t h⟩
theorem below_setRow {B g : Nat} (hg : B ≤ g) (w : World) (cs : Array Value) : Below B w (w.setRow g cs) :=
  ⟨rfl, rfl, rfl, by simp, fun k hk => setRow_other w g k cs (by omega)⟩
theorem below_step {a b c : World} (h1 : Below a.heap.size a b) (h2 : Below b.heap.size b c) : Below a.heap.size a c := h1.trans (h2.mono h1.size)
end Go.Proofs.Ytlbhibilhbhidaa
