/- For every input the law LaneApart of this seat returns true, and each argument reads behind the call as it read before. No condition. -/
import Derived.Test.YtbkgnkiimnlbcaaRows
import Derived.Test.YtbkgnkiimnlbcaaApart
import Derived.SliceStrings
import Derived.Deep.Slices
import Derived.Deep.Fields
import Derived.ChangeSame
import Derived.WalkKit
import Derived.ProofKit
import Derived.OpenShut
import Derived.ShutString
import Derived.SizedLaws
import Derived.Below
namespace Go.Proofs.Ytbkgnkiimnlbcaa.laneApart
open Go.Deep Go.ChangeShapes Go.WideShapes Go.ChangeAt Go.RowKit
open Go.ChangeMaps (open_string shut_string)
set_option linter.unusedVariables false

theorem own : ownKnob Try.prog.godebug = none := by kernel_rfl
theorem laidOut : laidOutB Try.prog = true := by kernel_rfl
theorem cells9 : Try.prog.cellsOf 9 = 1 := by kernel_rfl
/-- The texts of a slice are among its weights. -/
theorem strs_weights {H : Type} {e : TypeId} (ss : List ByteArray) (s : ByteArray) (h : s ∈ ss) : s.size ∈ DataW.weightsAll Try.prog e (strs ss : List (DataW H)) := by
  induction ss with
  | nil => cases h
  | cons x r ih =>
    show s.size ∈ DataW.weights Try.prog e (.lit (.string x.data.toList) : DataW H) ++ DataW.weightsAll Try.prog e (strs r)
    rcases List.mem_cons.1 h with rfl | h
    · exact List.mem_append_left _ (by simp [DataW.weights])
    · exact List.mem_append_right _ (ih h)
theorem addr_add (b off k : Nat) : (⟨b, off, none⟩ : Addr).add k = ⟨b, off + k, none⟩ := by unfold Addr.add; split <;> simp_all
/-- A slice of texts, opened: it is empty, or its cells are there. -/
theorem open_texts {H : Type} {enc : TypeId × Value → H} {w : World} {base : Nat} {spare : Nat → Bool} {held : Bool} {a : Option Addr} {len cap : Nat} {d : DataW H} {p : List MemPlace}
    (h : DataW.Trod enc Try.prog w base spare held 41 (.slice a len cap) d p) (hw : ∀ n ∈ d.weights Try.prog 41, n ≤ 140737488351232) : len ≤ 9223372036854775807 ∧ (len = 0 ∨ ∃ (b off : Nat) (T : Nat → ByteArray), a = some ⟨b, off, none⟩ ∧ b < w.heap.size ∧
      ∀ i, i < len → w.cell? ⟨b, off + i, none⟩ = some (.string (T i)) ∧ (T i).size ≤ 140737488351232) := by
  obtain ⟨fuel, hf⟩ := h
  rcases open_strings Try.underlying41 Try.underlying9 cells9 hf with ⟨hcs, _⟩ | ⟨x, l, c, ss, hcs, _, hl, hm, hlen, hx, hc, _⟩
  · simp [Value.cells] at hcs
    obtain ⟨rfl, rfl, rfl⟩ := hcs
    exact ⟨by omega, .inl rfl⟩
  · simp [Value.cells] at hcs
    obtain ⟨rfl, rfl, rfl⟩ := hcs
    unfold maxLen at hm
    refine ⟨by omega, ?_⟩
    by_cases h0 : len = 0
    · exact .inl h0
    · right
      have hlm : len ≤ ss.length := by rw [hlen]; split <;> omega
      obtain ⟨b, off, spot⟩ := x
      have hs : spot = none := by
        have := hc 0 (by omega)
        simpa [Addr.add] using World.cell?_spot this
      subst hs
      refine ⟨b, off, fun i => ss.getD i ByteArray.empty, rfl, ?_, fun i hi => ?_⟩
      · have := block_lt_of_cell (hc 0 (by omega))
        simpa [Addr.add] using this
      · refine ⟨by rw [← addr_add]; exact hc i (by omega), ?_⟩
        simp only [Prod.mk.injEq] at hx
        have hmem : ss.getD i ByteArray.empty ∈ ss.take len := by
          rw [List.getD_eq_getElem?_getD, List.getElem?_eq_getElem (by omega)]
          rw [Option.getD_some]
          exact List.mem_take_iff_getElem.2 ⟨i, by omega, rfl⟩
        have := strs_weights (H := H) (e := 9) (ss.take len) _ hmem
        refine hw _ ?_
        rw [hx.1]
        simp only [DataW.weights, Try.underlying41]
        exact List.mem_cons_of_mem _ (List.mem_append_left _ this)

/-- The texts, opened for the walk. -/
theorem texts_of {H : Type} {enc : TypeId × Value → H} {w : World} {base : Nat} {spare : Nat → Bool} {held : Bool} {a : Option Addr} {len cap : Nat} {d : DataW H} {p : List MemPlace}
    (h : DataW.Trod enc Try.prog w base spare held 41 (.slice a len cap) d p) (hw : ∀ n ∈ d.weights Try.prog 41, n ≤ 140737488351232) : len ≤ 9223372036854775807 ∧ ∃ (b off : Nat) (T : Nat → ByteArray), (len = 0 ∨ a = some ⟨b, off, none⟩ ∧ b < w.heap.size) ∧ ∀ i, i < len → w.cell? ⟨b, off + i, none⟩ = some (.string (T i)) := by
  obtain ⟨hl, h0 | ⟨b, off, T, ha, hb, hT⟩⟩ := open_texts h hw
  · exact ⟨hl, 0, 0, fun _ => { data := #[] }, .inl h0, fun i hi => absurd hi (by omega)⟩
  · exact ⟨hl, b, off, T, .inr ⟨ha, hb⟩, fun i hi => (hT i hi).1⟩

theorem cells33 : Try.prog.cellsOf 33 = 5 := by kernel_rfl
/-- A slice of structs of one-cell fields, opened. -/
theorem open_slice_fields {H : Type} {enc : TypeId × Value → H} {P : Program} {w : World} {base : Nat} {spare : Nat → Bool} {held : Bool} {t e : TypeId} {fs : Array Field} {fuel : Nat} {cs : List Value} {x : DataW H × List MemPlace} (ht : P.underlying t = some (.slice e)) (he : P.underlying e = some (.struct fs))
    (hone : oneCellFields P fs = true) (hC : P.cellsOf e = fs.size) (h : DataW.trod enc P w base spare held fuel t cs = some x) :
    (cs = [.slice none 0 0] ∧ x = (.nil, [])) ∨
    ∃ (a : Addr) (len cap m : Nat), cs = [.slice (some a) len cap] ∧ len ≤ cap ∧ cap ≤ maxLen ∧ m = (if spare a.block then cap else len) ∧
      ∀ i, i < m → ∀ (j : Nat) (f : Field), fs[j]? = some f → ∃ (n : Nat) (v : Value) (y : DataW H × List MemPlace), w.cell? (a.add (i * fs.size + j)) = some v ∧ DataW.trod enc P w base spare held n f.type [v] = some y := by
  rcases open_slice ht h with h0 | ⟨a, len, cap, m, n, D, Pl, hcs, hb, hl, hm, hmm, hx, hi⟩
  · exact .inl h0
  · refine .inr ⟨a, len, cap, m, hcs, hl, hm, hmm, fun i him => ?_⟩
    obtain ⟨cs', hc, ht'⟩ := hi i him
    rw [hC] at hc
    obtain ⟨ys, n', hn', hy, hlen, hyl, hf⟩ := DataW.trod_struct he ht'
    obtain ⟨_, hcl, hat⟩ := World.cells?_some hc
    intro j f hj
    obtain ⟨ho, hk⟩ := hone_of hone j f hj
    have hjl : j < fs.size := (Array.getElem?_eq_some_iff.1 hj).1
    have hcell := hat j hjl
    have hv : cs'[j]? = some (cs'[j]'(by omega)) := List.getElem?_eq_getElem (by omega)
    have h1 := hf j f hj
    rw [ho, hk] at h1
    have hone' : (cs'.drop j).take 1 = [cs'[j]'(by omega)] := by
      rw [List.drop_eq_getElem_cons (by omega)]
      rfl
    rw [hone'] at h1
    have hys : ys[j]? = some (ys[j]'(by omega)) := List.getElem?_eq_getElem (by omega)
    refine ⟨_, _, _, ?_, h1.trans hys⟩
    rw [← Go.Deep.add_add, hcell, hv]

/-- What a text's cell holds. -/
def txtOf : Value → ByteArray
  | .string s => s
  | _ => { data := #[] }
/-- A slice of calls, opened: it is empty, or its cells are there. -/
theorem open_acts {H : Type} {enc : TypeId × Value → H} {w : World} {base : Nat} {spare : Nat → Bool} {held : Bool} {a : Option Addr} {len cap : Nat} {d : DataW H} {p : List MemPlace}
    (h : DataW.Trod enc Try.prog w base spare held 22 (.slice a len cap) d p) : len ≤ 9223372036854775807 ∧ ∃ (b off : Nat) (K F O P : Nat → Int) (S : Nat → ByteArray), (len = 0 ∨ a = some ⟨b, off, none⟩ ∧ b < w.heap.size) ∧
      ∀ i, i < len → w.cell? ⟨b, off + i * 5, none⟩ = some (.int .i64 (K i)) ∧ w.cell? ⟨b, off + i * 5 + 1, none⟩ = some (.int .i64 (F i)) ∧ w.cell? ⟨b, off + i * 5 + 2, none⟩ = some (.int .i64 (O i)) ∧ w.cell? ⟨b, off + i * 5 + 3, none⟩ = some (.int .i64 (P i)) ∧ w.cell? ⟨b, off + i * 5 + 4, none⟩ = some (.string (S i)) := by
  obtain ⟨fuel, hf⟩ := h
  rcases open_slice_fields Try.underlying22 Try.underlying33 (by kernel_rfl) cells33 hf with ⟨hcs, _⟩ | ⟨x, l, c, m, hcs, hl, hm, hmm, hx⟩
  · simp [Value.cells] at hcs
    obtain ⟨rfl, rfl, rfl⟩ := hcs
    exact ⟨by omega, 0, 0, fun _ => 0, fun _ => 0, fun _ => 0, fun _ => 0, fun _ => { data := #[] }, .inl rfl, fun i hi => absurd hi (by omega)⟩
  · simp [Value.cells] at hcs
    obtain ⟨rfl, rfl, rfl⟩ := hcs
    unfold maxLen at hm
    refine ⟨by omega, ?_⟩
    by_cases h0 : len = 0
    · subst h0
      exact ⟨0, 0, fun _ => 0, fun _ => 0, fun _ => 0, fun _ => 0, fun _ => { data := #[] }, .inl rfl, fun i hi => absurd hi (by omega)⟩
    · have hlm : len ≤ m := by rw [hmm]; split <;> omega
      obtain ⟨b, off, spot⟩ := x
      have hs : spot = none := by
        obtain ⟨_, _, _, hc, _⟩ := hx 0 (by omega) 0 _ rfl
        simpa [Addr.add] using World.cell?_spot hc
      subst hs
      have key : ∀ i, i < len → ∃ (k f o p : Int) (s : ByteArray), w.cell? ⟨b, off + i * 5, none⟩ = some (.int .i64 k) ∧ w.cell? ⟨b, off + i * 5 + 1, none⟩ = some (.int .i64 f) ∧ w.cell? ⟨b, off + i * 5 + 2, none⟩ = some (.int .i64 o) ∧ w.cell? ⟨b, off + i * 5 + 3, none⟩ = some (.int .i64 p) ∧ w.cell? ⟨b, off + i * 5 + 4, none⟩ = some (.string s) := fun i hi => by
        have one : ∀ j, j < 4 → ∃ z : Int, w.cell? ⟨b, off + i * 5 + j, none⟩ = some (.int .i64 z) := fun j hj => by
          have hfj : ∃ f : Field, f.type = 3 ∧ ∀ (q : Prop), ((∃ (n : Nat) (v : Value) (y : DataW H × List MemPlace), w.cell? ((⟨b, off, none⟩ : Addr).add (i * 5 + j)) = some v ∧ DataW.trod enc Try.prog w base spare held n f.type [v] = some y) → q) → q := by
            match j, hj with
            | 0, _ => exact ⟨_, rfl, fun q hq => hq (hx i (by omega) 0 _ rfl)⟩
            | 1, _ => exact ⟨_, rfl, fun q hq => hq (hx i (by omega) 1 _ rfl)⟩
            | 2, _ => exact ⟨_, rfl, fun q hq => hq (hx i (by omega) 2 _ rfl)⟩
            | 3, _ => exact ⟨_, rfl, fun q hq => hq (hx i (by omega) 3 _ rfl)⟩
          obtain ⟨f, hf3, hq⟩ := hfj
          refine hq _ ?_
          rintro ⟨n, v, y, hc, ht⟩
          rw [hf3] at ht
          obtain ⟨z, q0, _, _⟩ := DataW.trod_int Try.underlying3 ht
          simp at q0
          rw [addr_add, q0] at hc
          exact ⟨z, by rw [Nat.add_assoc]; exact hc⟩
        obtain ⟨n, v, y, hc, ht⟩ := hx i (by omega) 4 _ rfl
        obtain ⟨s, q0, _⟩ := DataW.trod_string Try.underlying9 ht
        simp at q0
        rw [addr_add, q0] at hc
        obtain ⟨k, hk⟩ := one 0 (by omega)
        obtain ⟨f, hf'⟩ := one 1 (by omega)
        obtain ⟨o, ho⟩ := one 2 (by omega)
        obtain ⟨p', hp⟩ := one 3 (by omega)
        exact ⟨k, f, o, p', s, hk, hf', ho, hp, by rw [Nat.add_assoc]; exact hc⟩
      refine ⟨b, off, fun i => intOf ((w.cell? ⟨b, off + i * 5, none⟩).getD undef), fun i => intOf ((w.cell? ⟨b, off + i * 5 + 1, none⟩).getD undef), fun i => intOf ((w.cell? ⟨b, off + i * 5 + 2, none⟩).getD undef), fun i => intOf ((w.cell? ⟨b, off + i * 5 + 3, none⟩).getD undef), fun i => txtOf ((w.cell? ⟨b, off + i * 5 + 4, none⟩).getD undef), .inr ⟨rfl, ?_⟩, fun i hi => ?_⟩
      · obtain ⟨_, _, _, _, _, e0, _⟩ := key 0 (by omega)
        exact block_lt_of_cell (by simpa using e0)
      · obtain ⟨k, f, o, p, s, e0, e1, e2, e3, e4⟩ := key i hi
        simp only [e0, e1, e2, e3, e4]
        exact ⟨rfl, rfl, rfl, rfl, rfl⟩

set_option maxRecDepth 100000 in
theorem lifted (os : Os) (started : os.Started) (H : Type) (enc : TypeId × Value → H) :
    ReturnsInHanded {} Try.checked os 6 .any (Rows.laneApartSpec.pre6 enc Try.prog Try.f6 Rows.laneApartRow.domain false) (Rows.laneApartSpec.post enc Try.prog Try.f6 false true false false) := by
  refine returnsInHanded_of_change_sized (C := Try.checked) own started (by kernel_rfl) Try.func6
    (ChangeSpec.witness6 (enc := enc) (C := Try.checked) false ⟨#[], #[.slice none 0 0, .slice none 0 0], []⟩ 8 (by kernel_rfl) (by kernel_rfl) (by kernel_rfl) (by kernel_rfl)) ?_
  intro W base args ds gs before hval0 hW hcnd hsz0 _
  have hsz : (DataW.weightsEach Try.prog (Try.f6.params.toList ++ Rows.laneApartSpec.plain.varTypes Try.prog) (ds ++ gs)).all (· ≤ reachBytes) = true := hsz0
  have hval : ∀ (j : Nat) t v, Try.f6.params[j]? = some t → args[j]? = some v → Value.okWide Try.prog W .any base t v := hval0
  have hW' := hW
  obtain ⟨p, q, hA0, hV, rfl, hfz, hnd⟩ := hW
  have hA : DataW.TrodAll enc Try.prog W 0 (fun _ => true) true Try.f6.params.toList args.toList ds p := hA0
  rw [Try.params6] at hA hval hsz
  obtain ⟨v0, vs0, d0, ds0, p0, q0, hargs, rfl, rfl, h0, r0⟩ := trodAll_cons hA
  obtain ⟨v1, vs1, d1, ds1, p1, q1, rfl, rfl, rfl, h1, r1⟩ := trodAll_cons r0
  obtain ⟨rfl, rfl, rfl⟩ := trodAll_nil r1
  obtain rfl : args = #[v0, v1] := by cases args; simp_all
  obtain ⟨rfl, rfl⟩ := trodVars_none hV
  have k0 := h0
  have lt0 : ∀ x ∈ p0, x.block < W.heap.size := by obtain ⟨m, hm⟩ := k0; exact DataW.trod_lt m _ _ _ hm
  have k1 := h1
  have lt1 : ∀ x ∈ p1, x.block < W.heap.size := by obtain ⟨m, hm⟩ := k1; exact DataW.trod_lt m _ _ _ hm
  obtain ⟨ta, ln, cn, rfl⟩ := okWide_slice Try.underlying41 (hval 0 41 v0 rfl rfl)
  obtain ⟨xa, lc, cc, rfl⟩ := okWide_slice Try.underlying22 (hval 1 22 v1 rfl rfl)
  have hw0 : ∀ n ∈ d0.weights Try.prog 41, n ≤ 140737488351232 := fun n hn => by
    have := List.all_eq_true.1 hsz n (DataW.weights_mem_each (j := 0) (t := 41) rfl rfl n hn)
    exact of_decide_eq_true this
  have hwalk : Calls Try.prog 6 #[.slice ta ln cn, .slice xa lc cc] W fun e w' => e = .returned (.bool true) ∧ Below W.heap.size W w' := by
    obtain ⟨_, b, off, T, hT1, hT2⟩ := texts_of h0 hw0
    obtain ⟨_, bx, ox, K, F, O, P, S, hX1, hX2⟩ := open_acts h1
    exact apart_any ta b off ln cn T xa bx ox lc cc K F O P S W hT1 hT2 hX1 hX2
  clear hA0 hval0 hsz0
  refine (hwalk).mono fun e W' ⟨he, bel⟩ => ?_
  subst he
  exact ⟨_, rfl, _, _, _, [], _, [], hW', trodAll_mk1 (shut_bool Try.underlying4 _), (trodAll_cons_mk (Below.trod laidOut (by kernel_rfl) (of_decide_eq_true (by kernel_rfl)) k0 bel lt0) (trodAll_cons_mk (Below.trod laidOut (by kernel_rfl) (of_decide_eq_true (by kernel_rfl)) k1 bel lt1) trodAll_mk0)), rfl, bel.frame _, fun h => by cases h⟩

theorem over : Rows.laneApartRow.holds Try.pinned (OpenSpec.ofChange Rows.laneApartSpec) :=
  OpenClaim.holds_of_wide 6 Try.f6 rfl rfl rfl rfl rfl rfl rfl ⟨rfl, rfl, rfl, rfl, rfl⟩ rfl rfl rfl rfl rfl (by kernel_rfl) Try.func6 (by kernel_rfl)
    (of_decide_eq_true (by kernel_rfl)) (by unfold Func.isWrapper; first | (rw [if_pos (by decide +kernel)]; kernel_rfl) | (rw [if_neg (by decide +kernel)]; exact ⟨rfl, rfl⟩))
    (fun os started H enc _ => lifted os started H enc)

/-- The statement. -/
theorem proved : Rows.LaneApartSaid :=
  over
#print axioms proved
end Go.Proofs.Ytbkgnkiimnlbcaa.laneApart
