/- The abstract net: its map's entries as ways, what the look-up and the update of a map keyed by ways come to, and the net in memory. No condition. -/
import Derived.Test.YtbkgnkiimnlbcaaRows
import Derived.WalkKit
import Derived.WalkLawsBesides
import Derived.WalkSpells
import Derived.Outline
import Derived.Lib.Hide
import Derived.Laws.StructEq
import Derived.Conc.LoneSelect
import Derived.Conc.LoneSelectN
import Derived.KernelRfl
import Derived.WideMake
import Derived.Deep.OwnRows
namespace Go.Proofs.Ytbkgnkiimnlbcaa
open Go.RowKit Go.Deep Go.Conc

/-- A way's key. -/
def wkey (a b : Int) : Value := .agg #[.int .i64 a, .int .i64 b]

theorem eq50 (a b c d : Int) (w : World) : (Op.equalIn 10000 50 (wkey a b) (wkey c d)).run Try.prog w = .ok (a == c && b == d) w := by
  have u3 := Try.underlying3
  have a3 := Try.isAgg3
  have z3 := Try.sizeOf3
  have hS : Try.prog.underlying 50 = some (.struct (Try.prog.fieldsOf 50)) := by kernel_rfl
  have hp : Try.prog.stoodInHeld 50 = false := by kernel_rfl
  unfold wkey
  rw [show (10000 : Nat) = 9999 + 1 from rfl, run_equalIn_agg w 9999 50 _ _ hS hp]
  simp only [Program.fieldsOf, Try.underlying50]
  go_simp
  by_cases h1 : a = c <;> by_cases h2 : b = d <;> simp [h1, h2]

theorem check50_deep (e : Bool) (a b : Int) (w : World) (d : Nat) : (Instr.checkKey e (d + 1 + 1) 50 (wkey a b)).run Try.prog w = .ok () w := by
  have u3 := Try.underlying3
  have a3 := Try.isAgg3
  have z3 := Try.sizeOf3
  unfold wkey
  rw [Instr.checkKey]
  simp only [Sem.run_bind, run_underlying Try.underlying50, Result.andThen_ok]
  go_simp
  simp [Instr.checkKey, go_sem]
theorem check50 (e : Bool) (a b : Int) (w : World) : (Instr.checkKey e 10000 50 (wkey a b)).run Try.prog w = .ok () w := check50_deep e a b w 9998

/-- A way and its channel. -/
structure Way where
  a : Int
  b : Int
  c : Nat
def Way.kv (x : Way) : Value × Value := (wkey x.a x.b, .chan (some x.c))
def ent (es : List MapEntry) (l : List Way) : Prop := es.map (fun e => (e.key, e.val)) = l.map Way.kv
def look (l : List Way) (a b : Int) : Option Nat := (l.find? fun x => a == x.a && b == x.b).map (·.c)

theorem run_findAsking (a b : Int) (w : World) : ∀ (es : List MapEntry) (l : List Way) (i : Nat), ent es l →
    ∃ r, (Instr.findAsking 50 (wkey a b) es i).run Try.prog w = .ok r w ∧ r.map (·.2) = (look l a b).map fun c => Value.chan (some c)
  | [], [], i, _ => ⟨none, by simp [Instr.findAsking], by simp [look]⟩
  | [], _ :: _, _, h => by simp [ent] at h
  | _ :: _, [], _, h => by simp [ent] at h
  | e :: es, x :: l, i, h => by
    simp only [ent, List.map_cons, List.cons.injEq] at h
    obtain ⟨h1, h2⟩ := h
    obtain ⟨hk, hv⟩ := Prod.mk.inj h1
    have he := eq50 a b x.a x.b w
    by_cases hh : (a == x.a && b == x.b) = true
    · refine ⟨some (i, e.val), ?_, ?_⟩
      · simp [Instr.findAsking, Op.equal, Op.maxDepth, hk, he, hh]
      · simp [look, hh, hv]
    · obtain ⟨r, hr, hl⟩ := run_findAsking a b w es l (i + 1) h2
      refine ⟨r, ?_, ?_⟩
      · simp [Instr.findAsking, Op.equal, Op.maxDepth, hk, he, hh, hr]
      · rw [hl]; simp [look, hh]

theorem run_findKey50 (a b : Int) (w : World) (es : List MapEntry) (l : List Way) (h : ent es l) :
    ∃ r, (Instr.findKey 50 (wkey a b) es).run Try.prog w = .ok r w ∧ r.map (·.2) = (look l a b).map fun c => Value.chan (some c) := by
  have hS : Try.prog.underlying 50 = some (.struct (Try.prog.fieldsOf 50)) := by kernel_rfl
  cases es with
  | nil =>
    cases l with
    | nil => exact ⟨none, by simp [Instr.findKey, Instr.findNow, run_underlying hS], by simp [look]⟩
    | cons _ _ => simp [ent] at h
  | cons e es =>
    obtain ⟨r, hr, hl⟩ := run_findAsking a b w (e :: es) l 0 h
    exact ⟨r, by simp [Instr.findKey, Instr.findNow, Instr.sameNow, run_underlying hS, hr], hl⟩

/-- What the look-up gives. -/
def chanOf (o : Option Nat) : Value := .chan o

theorem run_look (a b : Int) (w : World) (m : Nat) (es : Array MapEntry) (clock : Nat) (l : List Way) (hm : w.heap[m]? = some (.map es clock)) (h : ent es.toList l) :
    (Instr.lookup 45 (.map (some m)) (wkey a b) false).run Try.prog w = .ok (.chan (look l a b)) w := by
  obtain ⟨r, hr, hl⟩ := run_findKey50 a b w es.toList l h
  have hz : (zeroValue 48).run Try.prog w = .ok (.chan none) w := by simp [go_sem]
  cases hk : look l a b with
  | none =>
    rw [hk] at hl
    cases r with
    | none => simp [Instr.lookup, run_underlying Try.underlying45, MapKept.run_getObj_map hm, check50, hr, hz]
    | some p => simp at hl
  | some c =>
    rw [hk] at hl
    cases r with
    | none => simp at hl
    | some p =>
      simp only [Option.map_some, Option.some.injEq] at hl
      simp [Instr.lookup, run_underlying Try.underlying45, MapKept.run_getObj_map hm, check50, hr, hl]

theorem run_put (a b : Int) (v : Value) (w : World) (m : Nat) (es : Array MapEntry) (clock : Nat) (l : List Way) (hm : w.heap[m]? = some (.map es clock)) (h : ent es.toList l) (hn : look l a b = none) :
    (Instr.mapUpdate 45 (.map (some m)) (wkey a b) v).run Try.prog w = .ok () { w with heap := w.heap.setIfInBounds m (.map (es.push { key := wkey a b, val := v, born := clock }) (clock + 1)) } := by
  obtain ⟨r, hr, hl⟩ := run_findKey50 a b w es.toList l h
  rw [hn] at hl
  cases r with
  | none => simp [Instr.mapUpdate, run_underlying Try.underlying45, MapKept.run_getObj_map hm, check50, hr, MapKept.run_setObj_map _ hm, Result.andThen]
  | some p => simp at hl


/-- Of what was there block b alone may have turned. -/
def Only (b : Nat) (w w' : World) : Prop := w.grownBy w' (some b)
theorem Only.refl (b : Nat) (w : World) : Only b w w := ⟨rfl, rfl, rfl, Nat.le_refl _, fun _ _ _ => rfl⟩
theorem Only.trans {b : Nat} {w w' w'' : World} (h : Only b w w') (k : Only b w' w'') : Only b w w'' :=
  ⟨k.os.trans h.os, k.tape.trans h.tape, k.output.trans h.output, Nat.le_trans h.size k.size, fun i hi hb => (k.block i (Nat.lt_of_lt_of_le hi h.size) hb).trans (h.block i hi hb)⟩
theorem Only.of_below {b : Nat} {w w' : World} (h : Below w.heap.size w w') : Only b w w' := ⟨h.os, h.tape, h.output, h.size, fun k hk _ => h.block k hk⟩
theorem Only.drew {b : Nat} {w w' : World} (h : Only b w w') : Only b w w'.drew := ⟨h.os, h.tape, h.output, h.size, h.block⟩
theorem Only.setCell {b o : Nat} {w w' : World} (h : Only b w w') (v : Value) : Only b w (w'.setCell ⟨b, o, none⟩ v) :=
  h.trans ⟨rfl, rfl, rfl, by simp [World.setCell], fun k _ hb => heap_setCell_other _ _ _ _ (by intro e; exact hb (by simp [e]))⟩
theorem Only.below {b B : Nat} {w w' : World} (h : Only b w w') (hB : B ≤ w.heap.size) (hb : B ≤ b) : Below B w w' :=
  ⟨h.os, h.tape, h.output, h.size, fun k hk => h.block k (by omega) (by simp; omega)⟩
theorem Only.other {b k : Nat} {w w' : World} (h : Only b w w') {o : Obj} (hk : w.heap[k]? = some o) (hne : k ≠ b) : w'.heap[k]? = some o := by
  obtain ⟨hlt, _⟩ := Array.getElem?_eq_some_iff.1 hk
  rw [h.block k hlt (by simpa using hne)]; exact hk
theorem below_other {B k : Nat} {w w' : World} (h : Below B w w') {o : Obj} (hk : w.heap[k]? = some o) (hne : k < B) : w'.heap[k]? = some o := by
  rw [h.block k hne]; exact hk
theorem two_cells {w : World} {b : Nat} {x y : Value} {t : TypeId} (h : w.heap[b]? = some (.cells #[x, y] t)) :
    w.cell? ⟨b, 0, none⟩ = some x ∧ w.cell? ⟨b, 1, none⟩ = some y ∧ w.frozen? ⟨b, 0, none⟩ = false ∧ w.frozen? ⟨b, 1, none⟩ = false :=
  ⟨cell_of_row w b 0 _ t _ h, cell_of_row w b 1 _ t _ h, frozen_of_row w b 0 _ t h, frozen_of_row w b 1 _ t h⟩
theorem three_cells {w : World} {b : Nat} {x y z : Value} {t : TypeId} (h : w.heap[b]? = some (.cells #[x, y, z] t)) :
    w.cell? ⟨b, 0, none⟩ = some x ∧ w.cell? ⟨b, 1, none⟩ = some y ∧ w.cell? ⟨b, 2, none⟩ = some z ∧ w.frozen? ⟨b, 0, none⟩ = false ∧ w.frozen? ⟨b, 1, none⟩ = false ∧ w.frozen? ⟨b, 2, none⟩ = false :=
  ⟨cell_of_row w b 0 _ t _ h, cell_of_row w b 1 _ t _ h, cell_of_row w b 2 _ t _ h, frozen_of_row w b 0 _ t h, frozen_of_row w b 1 _ t h, frozen_of_row w b 2 _ t h⟩

/-! ### The net in memory -/
/-- The texts of a lane as the channel holds them. -/
def bufOf (q : List ByteArray) : Array Value := (q.map Value.string).toArray
theorem bufOf_size (q : List ByteArray) : (bufOf q).size = q.length := by simp [bufOf]
theorem bufOf_push (q : List ByteArray) (s : ByteArray) : (bufOf q).push (.string s) = bufOf (q ++ [s]) := by simp [bufOf]
theorem bufOf_tail (s : ByteArray) (q : List ByteArray) : (bufOf (s :: q)).extract 1 (bufOf (s :: q)).size = bufOf q := by
  simp only [bufOf, List.map_cons, List.size_toArray, List.length_cons, List.length_map, List.extract_toArray, List.extract_eq_take_drop, List.drop_succ_cons, List.drop_zero, Nat.add_sub_cancel]
  rw [List.take_of_length_le (by simp)]
theorem bufOf_head (s : ByteArray) (q : List ByteArray) : (bufOf (s :: q)).getD 0 undef = .string s := by simp [bufOf]

/-- A channel in block c holds these texts. -/
def Lane (w : World) (c : Nat) (q : List ByteArray) : Prop := ∃ s r, w.heap[c]? = some (.chan 32 (bufOf q) false s r false)

/-- What one lane holds is set anew. -/
def upd (Q : Nat → List ByteArray) (c : Nat) (q : List ByteArray) : Nat → List ByteArray := fun k => if k = c then q else Q k
theorem upd_same (Q : Nat → List ByteArray) (c : Nat) (q : List ByteArray) : upd Q c q c = q := by simp [upd]
theorem upd_other (Q : Nat → List ByteArray) {c k : Nat} (q : List ByteArray) (h : k ≠ c) : upd Q c q k = Q k := by simp [upd, h]

/-- The net at p, its map at m, of n nodes; its ways l; what each lane holds; it lies in the blocks from lo to hi. -/
structure Net (w : World) (p lo hi : Nat) (n : Int) (l : List Way) (Q : Nat → List ByteArray) : Prop where
  cell : ∃ m es clock, w.heap[p]? = some (.cells #[.int .i64 n, .map (some m)] 47) ∧ w.heap[m]? = some (.map es clock) ∧ ent es.toList l ∧ lo ≤ m ∧ m < hi
  low : lo ≤ p ∧ p < hi
  size : hi ≤ w.heap.size
  lane : ∀ x ∈ l, Lane w x.c (Q x.c) ∧ lo ≤ x.c ∧ x.c < hi ∧ (Q x.c).length ≤ 32
  apart : ∀ x ∈ l, ∀ y ∈ l, x.c = y.c → x.a = y.a ∧ x.b = y.b

theorem look_mem {l : List Way} {a b : Int} {c : Nat} (h : look l a b = some c) : ∃ x ∈ l, x.a = a ∧ x.b = b ∧ x.c = c := by
  simp only [look, Option.map_eq_some_iff] at h
  obtain ⟨x, hx, rfl⟩ := h
  have := List.find?_some hx
  simp only [Bool.and_eq_true, beq_iff_eq] at this
  exact ⟨x, List.mem_of_find?_eq_some hx, this.1.symm, this.2.symm, rfl⟩

theorem Net.look_lane {w : World} {p lo hi : Nat} {n : Int} {l : List Way} {Q : Nat → List ByteArray} (h : Net w p lo hi n l Q) {a b : Int} {c : Nat} (hc : look l a b = some c) : Lane w c (Q c) ∧ lo ≤ c ∧ c < hi ∧ (Q c).length ≤ 32 := by
  obtain ⟨x, hx, _, _, rfl⟩ := look_mem hc
  exact h.lane x hx
theorem Net.look_apart {w : World} {p lo hi : Nat} {n : Int} {l : List Way} {Q : Nat → List ByteArray} (h : Net w p lo hi n l Q) {a b a' b' : Int} {c : Nat} (hc : look l a b = some c) (hc' : look l a' b' = some c) : a = a' ∧ b = b' := by
  obtain ⟨x, hx, rfl, rfl, e⟩ := look_mem hc
  obtain ⟨y, hy, rfl, rfl, e'⟩ := look_mem hc'
  exact h.apart x hx y hy (e.trans e'.symm)

/-- Memory that is none of the net's turned: the net stands. -/
theorem Net.below {w w' : World} {p lo hi : Nat} {n : Int} {l : List Way} {Q : Nat → List ByteArray} (h : Net w p lo hi n l Q) (hb : ∀ k, k < hi → w'.heap[k]? = w.heap[k]?) (hs : w.heap.size ≤ w'.heap.size) : Net w' p lo hi n l Q := by
  obtain ⟨⟨m, es, clock, h1, h2, h3, h4, h5⟩, ⟨hp1, hp2⟩, hsz, hl, ha⟩ := h
  refine ⟨⟨m, es, clock, (hb p hp2).trans h1, (hb m h5).trans h2, h3, h4, h5⟩, ⟨hp1, hp2⟩, Nat.le_trans hsz hs, fun x hx => ?_, ha⟩
  obtain ⟨⟨s, r, hc⟩, q1, q2, q3⟩ := hl x hx
  exact ⟨⟨s, r, (hb x.c q2).trans hc⟩, q1, q2, q3⟩

/-- One lane's channel turned. -/
theorem Net.turned {w w' : World} {p lo hi : Nat} {n : Int} {l : List Way} {Q : Nat → List ByteArray} (h : Net w p lo hi n l Q) {c : Nat} {q : List ByteArray} (ho : Only c w w') (hq : Lane w' c q) (hlen : q.length ≤ 32) (hw : ∃ q0, Lane w c q0) : Net w' p lo hi n l (upd Q c q) := by
  obtain ⟨⟨m, es, clock, h1, h2, h3, h4, h5⟩, ⟨hp1, hp2⟩, hsz, hl, ha⟩ := h
  obtain ⟨q0, s0, r0, hc0⟩ := hw
  have np : p ≠ c := by rintro rfl; rw [h1] at hc0; cases hc0
  have nm : m ≠ c := by rintro rfl; rw [h2] at hc0; cases hc0
  refine ⟨⟨m, es, clock, ho.other h1 np, ho.other h2 nm, h3, h4, h5⟩, ⟨hp1, hp2⟩, Nat.le_trans hsz ho.size, fun x hx => ?_, ha⟩
  obtain ⟨⟨s, r, hc⟩, q1, q2, q3⟩ := hl x hx
  by_cases hxc : x.c = c
  · rw [hxc, upd_same]
    exact ⟨hq, hxc ▸ q1, hxc ▸ q2, hlen⟩
  · rw [upd_other _ _ hxc]
    exact ⟨⟨s, r, ho.other hc hxc⟩, q1, q2, q3⟩
theorem only_setChan (w : World) (c cap : Nat) (buf : Array Value) (cl : Bool) (s r : Nat) (tm : Bool) : Only c w (w.setChan c cap buf cl s r tm) :=
  ⟨rfl, rfl, rfl, by simp [World.setChan], fun k _ hb => by
    have hne : c ≠ k := by intro e; exact hb (by simp [e])
    simp only [World.setChan]; rw [Array.getElem?_setIfInBounds_ne hne]⟩

end Go.Proofs.Ytbkgnkiimnlbcaa
