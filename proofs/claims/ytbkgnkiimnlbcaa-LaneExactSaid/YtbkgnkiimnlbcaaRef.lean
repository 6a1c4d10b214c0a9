/- The reference's net in memory, and the contracts of its calls that write nothing of it: New, right, on, Len. No condition. -/
import Derived.Test.YtbkgnkiimnlbcaaPick
import Derived.Laws.AppendOwnNone
namespace Go.Proofs.Ytbkgnkiimnlbcaa
open Go.RowKit Go.Deep Go.Conc

/-- An entry of the reference's net: a lane, its texts' slice, the texts. -/
structure Ent where
  a : Int
  b : Int
  g : Nat
  c : Nat
  q : List ByteArray
abbrev Ent.v (e : Ent) : Value := .slice (some ⟨e.g, 0, none⟩) e.q.length e.c
def Ent.cells (e : Ent) : List Value := [.int .i64 e.a, .int .i64 e.b, e.v]
def flat : List Ent → List Value
  | [] => []
  | e :: es => e.cells ++ flat es
theorem flat_length : ∀ es : List Ent, (flat es).length = es.length * 3
  | [] => rfl
  | e :: es => by simp [flat, Ent.cells, flat_length es]; omega
theorem flat_append : ∀ es fs : List Ent, flat (es ++ fs) = flat es ++ flat fs
  | [], fs => rfl
  | e :: es, fs => by simp [flat, flat_append es fs]
theorem flat_get : ∀ (es : List Ent) (i : Nat) (e : Ent), es[i]? = some e → (flat es)[i * 3]? = some (.int .i64 e.a) ∧ (flat es)[i * 3 + 1]? = some (.int .i64 e.b) ∧ (flat es)[i * 3 + 2]? = some e.v
  | [], _, _, h => by simp at h
  | x :: es, 0, e, h => by
    simp only [List.getElem?_cons_zero, Option.some.injEq] at h
    subst h
    simp [flat, Ent.cells, Ent.v]
  | x :: es, i + 1, e, h => by
    have h' : es[i]? = some e := by simpa using h
    obtain ⟨h0, h1, h2⟩ := flat_get es i e h'
    have hx : ∀ k, (flat (x :: es))[k + 3]? = (flat es)[k]? := fun k => by simp [flat, Ent.cells]
    refine ⟨?_, ?_, ?_⟩
    · rw [show (i + 1) * 3 = i * 3 + 3 from by omega, hx]; exact h0
    · rw [show (i + 1) * 3 + 1 = i * 3 + 1 + 3 from by omega, hx]; exact h1
    · rw [show (i + 1) * 3 + 2 = i * 3 + 2 + 3 from by omega, hx]; exact h2

def txt (q : List ByteArray) : List Value := q.map Value.string
theorem txt_length (q : List ByteArray) : (txt q).length = q.length := by simp [txt]
/-- A slice of the reference's own reads as these texts. -/
def Reads (w : World) (base : Nat) (v : Value) (q : List ByteArray) : Prop := w.ownsRow base 9 1 v q.length (txt q)
def nilV : Value := .slice none 0 0
def hits (a b : Int) (e : Ent) : Bool := e.a == a && e.b == b
def onV (es : List Ent) (a b : Int) : Value := match es.find? (hits a b) with
  | some e => e.v
  | none => nilV
def onQ (es : List Ent) (a b : Int) : List ByteArray := match es.find? (hits a b) with
  | some e => e.q
  | none => []

/-- The reference's net at r: its nodes, its entries, their slice. -/
structure Rn (w : World) (r hi : Nat) (n : Int) (es : List Ent) (V : Value) : Prop where
  net : w.heap[r]? = some (.cells #[.int .i64 n, V] 31)
  low : hi ≤ r
  row : w.ownsRow hi 58 3 V es.length (flat es)
  ents : ∀ e ∈ es, Reads w hi e.v e.q ∧ e.q.length ≤ 32 ∧ right n e.a e.b

theorem row_kept {w w' : World} {hi n size t : Nat} {v : Value} {xs : List Value} (h : w.ownsRow hi t size v n xs) (hb : ∀ k, hi ≤ k → (∃ cur, w.heap[k]? = some (.cells cur t (0, 0))) → w'.heap[k]? = w.heap[k]?) : w'.ownsRow hi t size v n xs := by
  obtain ⟨h1, h2 | ⟨g, cap, cur, rfl, hb', hg, rest⟩⟩ := h
  · exact ⟨h1, .inl h2⟩
  · exact ⟨h1, .inr ⟨g, cap, cur, rfl, hb', by rw [hb g hb' ⟨cur, hg⟩]; exact hg, rest⟩⟩
theorem Reads.on {w : World} {r hi : Nat} {n : Int} {es : List Ent} {V : Value} (h : Rn w r hi n es V) (a b : Int) : Reads w hi (onV es a b) (onQ es a b) ∧ (onQ es a b).length ≤ 32 ∧ (onQ es a b ≠ [] → right n a b) := by
  unfold onV onQ
  cases hf : es.find? (hits a b) with
  | none => exact ⟨World.ownsRow_nil _ _ _ _, by simp, by simp⟩
  | some e =>
    obtain ⟨h1, h2, h3⟩ := h.ents e (List.mem_of_find?_eq_some hf)
    refine ⟨h1, h2, fun _ => ?_⟩
    have := List.find?_some hf
    simp only [hits, Bool.and_eq_true, beq_iff_eq] at this
    rw [← this.1, ← this.2]; exact h3
/-- Memory of other blocks turned: the reference's net stands. -/
theorem Rn.mid {w w' : World} {lo hi r : Nat} {n : Int} {es : List Ent} {V : Value} (h : Rn w r hi n es V) (hm : Mid lo hi w w') : Rn w' r hi n es V := by
  have hk : ∀ k o, w.heap[k]? = some o → hi ≤ k → w'.heap[k]? = some o := fun k o ho hk => by rw [hm.block k (Array.getElem?_eq_some_iff.1 ho).1 (.inr hk)]; exact ho
  exact ⟨hk r _ h.net h.low, h.low, row_kept h.row (fun k hk' ⟨c, hc⟩ => by rw [hk k _ hc hk', hc]), fun e he => ⟨row_kept (h.ents e he).1 (fun k hk' ⟨c, hc⟩ => by rw [hk k _ hc hk', hc]), (h.ents e he).2⟩⟩
theorem Rn.cells {w : World} {r hi : Nat} {n : Int} {es : List Ent} {V : Value} (h : Rn w r hi n es V) : w.cell? ⟨r, 0, none⟩ = some (.int .i64 n) ∧ w.cell? ⟨r, 1, none⟩ = some V ∧ w.frozen? ⟨r, 0, none⟩ = false ∧ w.frozen? ⟨r, 1, none⟩ = false := two_cells h.net
theorem Rn.ent {w : World} {r hi g cap : Nat} {n : Int} {es : List Ent} (h : Rn w r hi n es (.slice (some ⟨g, 0, none⟩) es.length cap)) (i : Nat) (e : Ent) (hi' : es[i]? = some e) :
    w.cell? ⟨g, i * 3, none⟩ = some (.int .i64 e.a) ∧ w.cell? ⟨g, i * 3 + 1, none⟩ = some (.int .i64 e.b) ∧ w.cell? ⟨g, i * 3 + 2, none⟩ = some (.slice (some ⟨e.g, 0, none⟩) e.q.length e.c) := by
  obtain ⟨h0, h1, h2⟩ := flat_get es i e hi'
  have hc := World.ownsRow.cells h.row (g := g) rfl
  have c0 := hc _ _ h0
  have c1 := hc _ _ h1
  have c2 := hc _ _ h2
  simp only [add_at, Nat.zero_add] at c0 c1 c2
  exact ⟨c0, c1, c2⟩
/-- The entries' slice: nil and none, or a row. -/
theorem Rn.slice {w : World} {r hi : Nat} {n : Int} {es : List Ent} {V : Value} (h : Rn w r hi n es V) : V = nilV ∧ es = [] ∨ ∃ g cap, V = .slice (some ⟨g, 0, none⟩) es.length cap ∧ hi ≤ g ∧ g < w.heap.size := by
  obtain ⟨h1, ⟨h2, h3⟩ | ⟨g, cap, cur, rfl, hb', hg, rest⟩⟩ := h.row
  · exact .inl ⟨h2, List.length_eq_zero_iff.1 h3⟩
  · exact .inr ⟨g, cap, rfl, hb', (Array.getElem?_eq_some_iff.1 hg).1⟩

theorem new_obj {x y : Int} (h : x = y) : some (Obj.cells #[.int .i64 x, .slice none 0 0] 31) = some (.cells #[.int .i64 y, nilV] 31) := by rw [h]; rfl
theorem rnew_any (x : Int) (w : World) : Calls Try.prog 9 #[.int .i64 x] w fun e w' => e = .returned (.pointer (some ⟨w.heap.size, 0, none⟩)) ∧ Rn w' w.heap.size w.heap.size (clamp x) [] nilV ∧ Below w.heap.size w w' := by
  go_enter Try.func9, Try.ntmps9
  go_wp2_with fail
  all_goals
    go_ret
    refine ⟨rfl, ⟨?_, Nat.le_refl _, World.ownsRow_nil _ _ _ _, by simp⟩, (Below.refl _ _).alloc (Nat.le_refl _) _⟩
    rw [heap_alloc_new]
    exact new_obj (by unfold clamp; omega)

theorem ret_bool {x y : Bool} (h : x = y) : Ending.returned (.bool x) = .returned (.bool y) := by rw [h]
theorem right_any {w : World} {r hi : Nat} {n : Int} {es : List Ent} {V : Value} (h : Rn w r hi n es V) (a b : Int) : Calls Try.prog 20 #[.pointer (some ⟨r, 0, none⟩), .int .i64 a, .int .i64 b] w fun e w' => e = .returned (.bool (decide (right n a b))) ∧ w = w' := by
  obtain ⟨c0, _, _, _⟩ := h.cells
  go_enter Try.func20, Try.ntmps20
  go_wp2_with fail
  all_goals
    go_ret
    refine ⟨ret_bool ?_, rfl⟩
    first
      | exact (decide_eq_false (by unfold right; omega)).symm
      | (by_cases hab : a = b
         · subst hab; rw [decide_eq_false (by unfold right; omega)]; simp
         · rw [decide_eq_true (by unfold right; omega)]; simpa using hab)

/-- The entries from k on hold the lane as all do. -/
theorem on_skip {es : List Ent} {a b : Int} {k : Nat} {e : Ent} (hk : es[k]? = some e) (h : hits a b e = false) : (es.drop k).find? (hits a b) = (es.drop (k + 1)).find? (hits a b) := by
  obtain ⟨hl, he⟩ := List.getElem?_eq_some_iff.1 hk
  rw [List.drop_eq_getElem_cons hl, he, List.find?_cons, h]
theorem on_hit {es : List Ent} {a b : Int} {k : Nat} {e : Ent} (hk : es[k]? = some e) (h : hits a b e = true) : (es.drop k).find? (hits a b) = some e := by
  obtain ⟨hl, he⟩ := List.getElem?_eq_some_iff.1 hk
  rw [List.drop_eq_getElem_cons hl, he, List.find?_cons, h]
theorem ret_val {x y : Value} (h : x = y) : Ending.returned x = .returned y := by rw [h]
theorem onV_some {es : List Ent} {a b : Int} {e : Ent} (h : es.find? (hits a b) = some e) : onV es a b = e.v := by unfold onV; rw [h]
theorem onV_none {es : List Ent} {a b : Int} (h : es.find? (hits a b) = none) : onV es a b = nilV := by unfold onV; rw [h]

set_option maxHeartbeats 1000000 in
theorem on_any {w : World} {r hi : Nat} {n : Int} {es : List Ent} {V : Value} (h : Rn w r hi n es V) (hlen : es.length ≤ 1000) (a b : Int) : Calls Try.prog 21 #[.pointer (some ⟨r, 0, none⟩), .int .i64 a, .int .i64 b] w fun e w' => e = .returned (onV es a b) ∧ w = w' := by
  obtain ⟨_, c1, _, _⟩ := h.cells
  have HL := Lib.hid hlen
  have HS := Lib.hid h.slice
  have HR := Lib.hid h
  clear hlen h
  obtain ⟨rfl, rfl⟩ | ⟨g, cap, rfl, hg, hg2⟩ := HS.out
  · unfold nilV at c1
    go_enter Try.func21, Try.ntmps21
    go_wp2_with fail
    go_loop [7] (fun i => i = .int .i64 0) (fun i => 0)
    case atStart => rfl
    case round =>
      subst hrel
      go_wp2_with fail
      go_ret
      exact ⟨rfl, rfl⟩
  · go_enter Try.func21, Try.ntmps21
    go_wp2_with fail
    go_loop [7] (fun i => ∃ k : Nat, k ≤ es.length ∧ i = .int .i64 k ∧ (es.drop k).find? (hits a b) = es.find? (hits a b)) (fun i => es.length - (intOf i).toNat)
    case atStart => exact ⟨0, by omega, rfl, by rw [List.drop_zero]⟩
    case round =>
      obtain ⟨k, hk, rfl, hd⟩ := hrel
      have HD := Lib.hid hd
      clear hd
      have hw1 : IntKind.i64.wrap ((k : Int) + 1) = ((k + 1 : Nat) : Int) := by rw [wrap_small _ (by omega) (by have := HL.out; omega)]; omega
      by_cases hlt : k < es.length
      · obtain ⟨e, hke⟩ : ∃ e, es[k]? = some e := ⟨_, List.getElem?_eq_getElem hlt⟩
        obtain ⟨d0, d1, d2⟩ := HR.out.ent k e hke
        have HE := Lib.hid hke
        clear hke
        by_cases h1 : e.a = a
        · have e1 : (e.a == a) = true := by simpa using h1
          have H1 := Lib.hid h1
          clear h1
          by_cases h2 : e.b = b
          · have e2 : (e.b == b) = true := by simpa using h2
            have H2 := Lib.hid h2
            clear h2
            go_wp2_with fail
            go_ret
            exact ⟨ret_val (onV_some (HD.out.symm.trans (on_hit HE.out (by unfold hits; rw [e1, e2]; rfl)))).symm, rfl⟩
          · have e2 : (e.b == b) = false := by simpa using h2
            have H2 := Lib.hid h2
            clear h2
            go_wp2_with fail
            go_round
            case rel => exact ⟨k + 1, by omega, rfl, (on_skip HE.out (by unfold hits; rw [e1, e2]; rfl)).symm.trans HD.out⟩
            case measure => simp [intOf]; omega
        · have e1 : (e.a == a) = false := by simpa using h1
          have H1 := Lib.hid h1
          clear h1
          go_wp2_with fail
          go_round
          case rel => exact ⟨k + 1, by omega, rfl, (on_skip HE.out (by unfold hits; rw [e1]; rfl)).symm.trans HD.out⟩
          case measure => simp [intOf]; omega
      · go_wp2_with fail
        go_ret
        exact ⟨ret_val (onV_none (HD.out.symm.trans (by rw [List.drop_eq_nil_of_le (by omega)]; rfl))).symm, rfl⟩

theorem reads_len {w : World} {base : Nat} {v : Value} {q : List ByteArray} (h : Reads w base v q) : v = nilV ∧ q = [] ∨ ∃ g cap, v = .slice (some ⟨g, 0, none⟩) q.length cap ∧ base ≤ g ∧ ∀ i, i < q.length → w.cell? ⟨g, i, none⟩ = some (.string (q.getD i nul)) := by
  obtain ⟨h1, ⟨h2, h3⟩ | ⟨g, cap, cur, rfl, hb, hg, rest⟩⟩ := h
  · exact .inl ⟨h2, List.length_eq_zero_iff.1 h3⟩
  · refine .inr ⟨g, cap, rfl, hb, fun i hi => ?_⟩
    have hc := World.ownsRow.cells (w := w) (base := base) (e := 9) (size := 1) ⟨h1, .inr ⟨g, cap, cur, rfl, hb, hg, rest⟩⟩ (g := g) rfl i (.string (q.getD i nul)) (by simp [txt, hi])
    simpa [add_at] using hc

theorem rlen_any {w : World} {r hi : Nat} {n : Int} {es : List Ent} {V : Value} (h : Rn w r hi n es V) (hlen : es.length ≤ 1000) (a b : Int) : Calls Try.prog 18 #[.pointer (some ⟨r, 0, none⟩), .int .i64 a, .int .i64 b] w fun e w' => e = .returned (.int .i64 (onQ es a b).length) ∧ w = w' := by
  have HO := Lib.hid (on_any h hlen a b)
  have HR := Lib.hid (reads_len (Reads.on h a b).1)
  clear h hlen
  generalize onV es a b = v at *
  generalize onQ es a b = q at *
  obtain ⟨rfl, rfl⟩ | ⟨g, cap, rfl, _, _⟩ := HR.out
  · unfold nilV at HO
    go_enter Try.func18, Try.ntmps18
    go_wp2_with fail
    refine (HO.out).mono ?_
    rintro e w' ⟨rfl, rfl⟩
    go_wp2_with fail
    go_ret
    exact ⟨rfl, rfl⟩
  · go_enter Try.func18, Try.ntmps18
    go_wp2_with fail
    refine (HO.out).mono ?_
    rintro e w' ⟨rfl, rfl⟩
    go_wp2_with fail
    go_ret
    exact ⟨rfl, rfl⟩

theorem Rn.below {w w' : World} {r hi : Nat} {n : Int} {es : List Ent} {V : Value} (h : Rn w r hi n es V) (hb : Below w.heap.size w w') : Rn w' r hi n es V := h.mid (lo := 0) (Mid.of_below hb)
theorem Rn.lt {w : World} {r hi : Nat} {n : Int} {es : List Ent} {V : Value} (h : Rn w r hi n es V) : r < w.heap.size := (Array.getElem?_eq_some_iff.1 h.net).1

theorem info58 : ∃ i : TypeInfo, Try.prog.info? 58 = some i ∧ i.zero = some (.agg #[.int .i64 0, .int .i64 0, .slice none 0 0]) ∧ i.size = 3 ∧ i.bytes = 40 := ⟨Try.t58, by kernel_rfl, by kernel_rfl, by kernel_rfl, by kernel_rfl⟩
theorem cells_new (w : World) (cs : List Value) (t : TypeId) (j : Nat) (u : Value) (h : cs[j]? = some u) : (w.alloc (.cells cs.toArray t)).cell? ((⟨w.heap.size, 0, none⟩ : Addr).add j) = some u := by
  rw [add_at, Nat.zero_add, cell_of_row _ _ _ _ _ (0, 0) (heap_alloc_new w _)]
  simpa using h
/-- A row of entries of the call's own. -/
def Own58 (w : World) (B : Nat) (v : Value) (fs : List Ent) : Prop := ∃ g cap, v = .slice (some ⟨g, 0, none⟩) fs.length cap ∧ w.ownsRow B 58 3 v fs.length (flat fs)
theorem own58_of {w : World} {B n : Nat} {v : Value} {fs : List Ent} (h : w.ownsRow B 58 3 v (n + 1) (flat fs)) (hn : n + 1 = fs.length) : Own58 w B v fs := by
  rw [hn] at h
  obtain ⟨h1, ⟨_, h2⟩ | ⟨g, cap, cur, rfl, rest⟩⟩ := h
  · omega
  · exact ⟨g, cap, rfl, h1, .inr ⟨g, cap, cur, rfl, rest⟩⟩
def keepE (a b : Int) (es : List Ent) : List Ent := es.filter fun e => !hits a b e
theorem keepE_take {es : List Ent} {a b : Int} {k : Nat} {e : Ent} (hk : es[k]? = some e) : keepE a b (es.take (k + 1)) = if hits a b e then keepE a b (es.take k) else keepE a b (es.take k) ++ [e] := by
  unfold keepE
  rw [List.take_add_one, hk, List.filter_append]
  cases h : hits a b e <;> simp [h]
theorem keepE_le (a b : Int) (es : List Ent) (k : Nat) : (keepE a b (es.take k)).length ≤ es.length :=
  Nat.le_trans (List.length_filter_le _ _) (List.length_take_le' _ _)
def putE (a b : Int) (es : List Ent) (e : Ent) : List Ent := keepE a b es ++ [e]

theorem below_grown {B : Nat} {w w1 w2 : World} {row : Option Nat} (h : Below B w w1) (hB : B ≤ w1.heap.size) (hg : w1.grownBy w2 row) (hr : ∀ k, row = some k → B ≤ k) : Below B w w2 :=
  h.trans ⟨hg.os, hg.tape, hg.output, hg.size, fun k hk => hg.block k (by omega) (fun e => by have := hr k e.symm; omega)⟩

end Go.Proofs.Ytbkgnkiimnlbcaa
