/- turn with the closures of Take and of Twice; the contract of Take. No condition but that the lane holds 32 texts at most. -/
import Derived.Test.YtbkgnkiimnlbcaaShut
import Derived.BigRegion
import Derived.BigQuiet
import Derived.RegionTactic
import Derived.ChangeAlike
namespace Go.Proofs.Ytbkgnkiimnlbcaa
open Go.RowKit Go.Deep Go.Conc

def nul : ByteArray := { data := #[] }
/-- The text that has been found in the first i. -/
def got (q : List ByteArray) (at_ : Int) (i : Nat) : ByteArray := if 0 ≤ at_ ∧ at_ < i then q.getD at_.toNat nul else nul
def was (at_ : Int) (i : Nat) : Bool := decide (0 ≤ at_ ∧ at_ < i)

theorem Only.setNew {b k o : Nat} {w w' : World} (h : Only b w w') (v : Value) (hk : w.heap.size ≤ k) : Only b w (w'.setCell ⟨k, o, none⟩ v) :=
  ⟨h.os, h.tape, h.output, by simpa [World.setCell] using h.size, fun i hi hb => by rw [heap_setCell_other _ _ _ _ (by simp; omega)]; exact h.block i hi hb⟩
theorem Only.setChan {c : Nat} {w w' : World} (h : Only c w w') (cap : Nat) (buf : Array Value) (cl : Bool) (s r : Nat) (tm : Bool) : Only c w (w'.setChan c cap buf cl s r tm) := h.trans (only_setChan w' c cap buf cl s r tm)
theorem setChan_other (w : World) (c cap : Nat) (buf : Array Value) (cl : Bool) (s r : Nat) (tm : Bool) {k : Nat} (h : k ≠ c) : (w.setChan c cap buf cl s r tm).heap[k]? = w.heap[k]? := by
  simp only [World.setChan]; rw [Array.getElem?_setIfInBounds_ne h.symm]

/-- Where the walk over a lane stands behind i texts. -/
structure Stand (w0 : World) (c A T S : Nat) (q : List ByteArray) (at_ : Int) (i : Nat) (w : World) : Prop where
  only : Only c w0 w
  found : Found w A T S at_ (got q at_ i) (was at_ i)

theorem Stand.step {w0 w : World} {c A T S : Nat} {q : List ByteArray} {at_ : Int} {i : Nat} (h : Stand w0 c A T S q at_ i w) (hT : w0.heap.size ≤ T) (hS : w0.heap.size ≤ S) :
    Stand w0 c A T S q at_ (i + 1) (if (i : Int) = at_ then (w.setCell ⟨T, 0, none⟩ (.string (q.getD i { data := #[] }))).setCell ⟨S, 0, none⟩ (.bool true) else w) := by
  by_cases hi : (i : Int) = at_
  · rw [if_pos hi]
    refine ⟨(h.only.setNew _ hT).setNew _ hS, ?_⟩
    have := h.found.hit (q.getD i { data := #[] })
    have e1 : got q at_ (i + 1) = q.getD i { data := #[] } := by
      unfold got; rw [if_pos (by omega), show at_.toNat = i from by omega]; rfl
    have e2 : was at_ (i + 1) = true := by unfold was; simp; omega
    rw [e1, e2]; exact this
  · rw [if_neg hi]
    have e1 : got q at_ (i + 1) = got q at_ i := by
      unfold got
      by_cases hh : 0 ≤ at_ ∧ at_ < i
      · rw [if_pos hh, if_pos (by omega)]
      · rw [if_neg hh, if_neg (by omega)]
    have e2 : was at_ (i + 1) = was at_ i := by unfold was; exact decide_eq_decide.2 (by omega)
    exact ⟨h.only, by rw [e1, e2]; exact h.found⟩

theorem Stand.chan {w0 w : World} {c A T S : Nat} {q : List ByteArray} {at_ : Int} {i : Nat} (h : Stand w0 c A T S q at_ i w) (hA : c ≠ A) (hT : c ≠ T) (hS : c ≠ S) (buf : Array Value) (s r : Nat) : Stand w0 c A T S q at_ i (w.setChan c 32 buf false s r false) :=
  ⟨h.only.setChan _ _ _ _ _ _, ⟨by rw [setChan_other _ _ _ _ _ _ _ _ hA.symm]; exact h.found.ca, by rw [setChan_other _ _ _ _ _ _ _ _ hT.symm]; exact h.found.ct, by rw [setChan_other _ _ _ _ _ _ _ _ hS.symm]; exact h.found.cs⟩⟩

/-- What Take leaves on a lane. -/
def left (q : List ByteArray) (at_ : Int) : List ByteArray := kept q (fun i => decide ((i : Int) ≠ at_)) q.length

theorem enter24 (args : Array Value) (w : World) : (callFunc 24 args).run Try.prog w = .ok (.enter 24 args) w := by go_simp
theorem enter25 (args : Array Value) (w : World) : (callFunc 25 args).run Try.prog w = .ok (.enter 25 args) w := by go_simp

theorem closed_take (w0 : World) (c A T S : Nat) (q : List ByteArray) (at_ : Int) (hA : w0.heap.size ≤ A) (hT : w0.heap.size ≤ T) (hS : w0.heap.size ≤ S) (hc : c < w0.heap.size) :
    Closed 24 (.pointer (some ⟨A, 0, none⟩)) (.pointer (some ⟨T, 0, none⟩)) (.pointer (some ⟨S, 0, none⟩)) c q (fun i => decide ((i : Int) ≠ at_)) (Stand w0 c A T S q at_) where
  call i w hi h := by
    refine (shut_take h.found i _).mono ?_
    rintro e w' ⟨rfl, rfl⟩
    refine ⟨rfl, h.step hT hS, ?_⟩
    split
    · rw [heap_setCell_other _ _ _ _ (by simp; omega), heap_setCell_other _ _ _ _ (by simp; omega)]
    · rfl
  enter := enter24
  stay i w buf s r h := h.chan (by omega) (by omega) (by omega) buf s r

theorem closed_twice (w0 : World) (c A T S : Nat) (q : List ByteArray) (at_ : Int) (hA : w0.heap.size ≤ A) (hT : w0.heap.size ≤ T) (hS : w0.heap.size ≤ S) (hc : c < w0.heap.size) :
    Closed 25 (.pointer (some ⟨A, 0, none⟩)) (.pointer (some ⟨T, 0, none⟩)) (.pointer (some ⟨S, 0, none⟩)) c q (fun _ => true) (Stand w0 c A T S q at_) where
  call i w hi h := by
    refine (shut_twice h.found i _).mono ?_
    rintro e w' ⟨rfl, rfl⟩
    refine ⟨rfl, h.step hT hS, ?_⟩
    split
    · rw [heap_setCell_other _ _ _ _ (by simp; omega), heap_setCell_other _ _ _ _ (by simp; omega)]
    · rfl
  enter := enter25
  stay i w buf s r h := h.chan (by omega) (by omega) (by omega) buf s r

theorem kept_all (q : List ByteArray) : ∀ i, i ≤ q.length → kept q (fun _ => true) i = q.take i
  | 0, _ => rfl
  | i + 1, h => by
    rw [kept, kept_all q i (by omega), if_pos rfl, List.take_add_one]
    congr 1
    rw [List.getElem?_eq_getElem (by omega)]
    simp [show i < q.length from by omega]

theorem turn_take {w0 w : World} {c A T S : Nat} {q : List ByteArray} (hq : q.length ≤ 32) {at_ : Int} (hF : Found w A T S at_ nul false) (hA : w0.heap.size ≤ A) (hT : w0.heap.size ≤ T) (hS : w0.heap.size ≤ S) (hc : c < w0.heap.size) (ho : Only c w0 w) (hl : Lane w c q) :
    Calls Try.prog 23 #[.chan (some c), .func (.func 24) #[] #[.pointer (some ⟨A, 0, none⟩), .pointer (some ⟨T, 0, none⟩), .pointer (some ⟨S, 0, none⟩)]] w
      fun e w' => e = .returned (.tuple #[]) ∧ Stand w0 c A T S q at_ q.length w' ∧ Lane w' c (left q at_) :=
  turn_any c q hq 24 _ _ _ _ _ (closed_take w0 c A T S q at_ hA hT hS hc) ⟨ho, by
    rw [show got q at_ 0 = nul from by unfold got; rw [if_neg (by omega)], show was at_ 0 = false from by unfold was; exact decide_eq_false (by omega)]; exact hF⟩ hl
theorem turn_twice {w0 w : World} {c A T S : Nat} {q : List ByteArray} (hq : q.length ≤ 32) {at_ : Int} (hF : Found w A T S at_ nul false) (hA : w0.heap.size ≤ A) (hT : w0.heap.size ≤ T) (hS : w0.heap.size ≤ S) (hc : c < w0.heap.size) (ho : Only c w0 w) (hl : Lane w c q) :
    Calls Try.prog 23 #[.chan (some c), .func (.func 25) #[] #[.pointer (some ⟨A, 0, none⟩), .pointer (some ⟨T, 0, none⟩), .pointer (some ⟨S, 0, none⟩)]] w
      fun e w' => e = .returned (.tuple #[]) ∧ Stand w0 c A T S q at_ q.length w' ∧ Lane w' c q := by
  have := turn_any c q hq 25 _ _ _ _ _ (closed_twice w0 c A T S q at_ hA hT hS hc) (w := w) ⟨ho, by
    rw [show got q at_ 0 = nul from by unfold got; rw [if_neg (by omega)], show was at_ 0 = false from by unfold was; exact decide_eq_false (by omega)]; exact hF⟩ hl
  rwa [kept_all q _ (Nat.le_refl _), List.take_length] at this

theorem Lane.lt {w : World} {c : Nat} {q : List ByteArray} (h : Lane w c q) : c < w.heap.size := by
  obtain ⟨s, r, h⟩ := h
  exact (Array.getElem?_eq_some_iff.1 h).1
/-- The three cells that Take and Twice make. -/
def w3of (w : World) (at_ : Int) : World := ((w.alloc (.cells #[.int .i64 at_] 3)).alloc (.cells #[.string { data := #[] }] 9)).alloc (.cells #[.bool false] 4)
theorem w3_found (w : World) (at_ : Int) : Found (w3of w at_) w.heap.size (w.heap.size + 1) (w.heap.size + 1 + 1) at_ nul false := by
  have e1 := World.size_alloc w (.cells #[.int .i64 at_] 3)
  have e2 := World.size_alloc (w.alloc (.cells #[.int .i64 at_] 3)) (.cells #[.string { data := #[] }] 9)
  refine ⟨?_, ?_, ?_⟩ <;> unfold w3of
  · rw [heap_alloc_old _ _ (by omega), heap_alloc_old _ _ (by omega), heap_alloc_new]
  · rw [heap_alloc_old _ _ (by omega), ← e1, heap_alloc_new]; rfl
  · rw [← e1, ← e2, heap_alloc_new]
theorem w3_below (w : World) (at_ : Int) : Below w.heap.size w (w3of w at_) :=
  ((((Below.refl w.heap.size w).alloc (Nat.le_refl _) _).alloc (by rw [World.size_alloc]; omega) _).alloc (by rw [World.size_alloc, World.size_alloc]; omega) _)

theorem Found.put {w : World} {A T S : Nat} {at_ : Int} {t : ByteArray} {b : Bool} (h : Found w A T S at_ t b) : Found ((w.setCell ⟨T, 0, none⟩ (.string t)).setCell ⟨S, 0, none⟩ (.bool b)).drew A T S at_ t b := by
  obtain ⟨n1, n2, n3⟩ := h.apart
  obtain ⟨ha, ht, hs⟩ := h
  refine ⟨?_, ?_, ?_⟩ <;> rw [heap_drew]
  · rw [heap_setCell_other _ _ _ _ (by simpa using n2), heap_setCell_other _ _ _ _ (by simpa using n1)]; exact ha
  · rw [heap_setCell_other _ _ _ _ (by simpa using n3)]; exact heap_setCell_same w T 0 _ 9 _ ht
  · exact heap_setCell_same _ S 0 #[.bool b] 4 _ (by rw [heap_setCell_other _ _ _ _ (by simpa using n3.symm)]; exact hs)
theorem Found.results13 {w : World} {A T S : Nat} {at_ : Int} {t : ByteArray} {b : Bool} (h : Found w A T S at_ t b) (tmps : Array Value) (h8 : tmps[8]?.getD undef = .pointer (some ⟨T, 0, none⟩)) (h9 : tmps[9]?.getD undef = .pointer (some ⟨S, 0, none⟩)) :
    (results Try.f13 tmps).run Try.prog w = .ok (.tuple #[.string t, .bool b]) w := by
  obtain ⟨ct, ft⟩ := one_cell h.ct
  obtain ⟨cs, fs⟩ := one_cell h.cs
  simp [results, Try.f13, h8, h9, asAddr, go_sem, ct, cs]

set_option maxHeartbeats 1000000 in
theorem take_chan {w : World} {p c : Nat} (a b at_ : Int) (q : List ByteArray) (hq : q.length ≤ 32) (h : ∀ w', Only c w w' → Calls Try.prog 19 #[.pointer (some ⟨p, 0, none⟩), .int .i64 a, .int .i64 b] w' fun e w'' => e = .returned (.chan (some c)) ∧ w' = w'')
    (hl : Lane w c q) : Calls Try.prog 13 #[.pointer (some ⟨p, 0, none⟩), .int .i64 a, .int .i64 b, .int .i64 at_] w
      fun e w' => e = .returned (.tuple #[.string (got q at_ q.length), .bool (was at_ q.length)]) ∧ Only c w w' ∧ Lane w' c (left q at_) := by
  have HL := Lib.hid h
  clear h
  go_enter Try.func13, Try.ntmps13
  go_wp2_with fail
  have hF := w3_found w at_
  have hB := w3_below w at_
  have hc := hl.lt
  have hl3 : Lane (w3of w at_) c q := by
    obtain ⟨s, r, h⟩ := hl
    exact ⟨s, r, below_other hB h hc⟩
  change Calls _ _ _ (w3of w at_) _
  generalize w3of w at_ = w3 at *
  refine (HL.out w3 (Only.of_below hB)).mono ?_
  rintro e w4 ⟨rfl, rfl⟩
  have HT := Lib.hid (turn_take hq hF (Nat.le_refl _) (by omega) (by omega) hc (Only.of_below hB) hl3)
  clear hF hl3
  go_wp2_with fail
  refine (HT.out).mono ?_
  rintro e w4 ⟨rfl, ⟨ho, hF⟩, hl4⟩
  obtain ⟨n1, n2, n3⟩ := hF.apart
  obtain ⟨ct, ft⟩ := one_cell hF.ct
  obtain ⟨cs, fs⟩ := one_cell hF.cs
  go_wp2_with fail
  go_region
  have hF5 := hF.put
  have ho5 : Only c w ((w4.setCell ⟨w.heap.size + 1, 0, none⟩ (.string (got q at_ q.length))).setCell ⟨w.heap.size + 1 + 1, 0, none⟩ (.bool (was at_ q.length))).drew := ((ho.setNew _ (by omega)).setNew _ (by omega)).drew
  have hl5 : Lane ((w4.setCell ⟨w.heap.size + 1, 0, none⟩ (.string (got q at_ q.length))).setCell ⟨w.heap.size + 1 + 1, 0, none⟩ (.bool (was at_ q.length))).drew c (left q at_) := by
    obtain ⟨s, r, h⟩ := hl4
    refine ⟨s, r, ?_⟩
    rw [heap_drew, heap_setCell_other _ _ _ _ (by simp; omega), heap_setCell_other _ _ _ _ (by simp; omega)]
    exact h
  generalize ((w4.setCell ⟨w.heap.size + 1, 0, none⟩ (.string (got q at_ q.length))).setCell ⟨w.heap.size + 1 + 1, 0, none⟩ (.bool (was at_ q.length))).drew = w5 at *
  go_wp2_with fail
  exact bodyPost_ret (hF5.results13 _ rfl rfl) rfl ⟨rfl, ho5, hl5⟩

set_option maxHeartbeats 1000000 in
theorem take_none {w : World} {pv : Value} (a b at_ : Int) (h : ∀ w', Below w.heap.size w w' → Calls Try.prog 19 #[pv, .int .i64 a, .int .i64 b] w' fun e w'' => e = .returned (.chan none) ∧ w' = w'') :
    Calls Try.prog 13 #[pv, .int .i64 a, .int .i64 b, .int .i64 at_] w
      fun e w' => e = .returned (.tuple #[.string nul, .bool false]) ∧ Below w.heap.size w w' := by
  have HL := Lib.hid h
  clear h
  go_enter Try.func13, Try.ntmps13
  go_wp2_with fail
  have hF := w3_found w at_
  have hB := w3_below w at_
  change Calls _ _ _ (w3of w at_) _
  generalize w3of w at_ = w3 at *
  refine (HL.out w3 hB).mono ?_
  rintro e w4 ⟨rfl, rfl⟩
  go_wp2_with fail
  refine (turn_none _).mono ?_
  rintro e w4 ⟨rfl, rfl⟩
  obtain ⟨n1, n2, n3⟩ := hF.apart
  obtain ⟨ct, ft⟩ := one_cell hF.ct
  obtain ⟨cs, fs⟩ := one_cell hF.cs
  go_wp2_with fail
  go_region
  have hF5 := hF.put
  have ho5 : Below w.heap.size w ((w3.setCell ⟨w.heap.size + 1, 0, none⟩ (.string nul)).setCell ⟨w.heap.size + 1 + 1, 0, none⟩ (.bool false)).drew := ((hB.setCell (by simp) _).setCell (by simp; omega) _).drew
  generalize ((w3.setCell ⟨w.heap.size + 1, 0, none⟩ (.string nul)).setCell ⟨w.heap.size + 1 + 1, 0, none⟩ (.bool false)).drew = w5 at *
  go_wp2_with fail
  exact bodyPost_ret (hF5.results13 _ rfl rfl) rfl ⟨rfl, ho5⟩

end Go.Proofs.Ytbkgnkiimnlbcaa
