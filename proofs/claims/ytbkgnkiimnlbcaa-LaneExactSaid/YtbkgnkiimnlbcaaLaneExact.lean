/- For every input the law LaneExact of this seat returns true, and each argument reads behind the call as it read before. No condition. -/
import Derived.Test.YtbkgnkiimnlbcaaRows
import Derived.Test.YtbkgnkiimnlbcaaExact
import Derived.Deep.Slices
import Derived.Deep.Fields
import Derived.ChangeSame
import Derived.WalkKit
import Derived.ProofKit
import Derived.OpenShut
import Derived.ShutString
import Derived.SizedLaws
import Derived.Below
namespace Go.Proofs.Ytbkgnkiimnlbcaa.laneExact
open Go.Deep Go.ChangeShapes Go.WideShapes Go.ChangeAt Go.RowKit
open Go.ChangeMaps (open_string shut_string)
set_option linter.unusedVariables false

theorem own : ownKnob Try.prog.godebug = none := by kernel_rfl
theorem laidOut : laidOutB Try.prog = true := by kernel_rfl
theorem addr_add (b off k : Nat) : (⟨b, off, none⟩ : Addr).add k = ⟨b, off + k, none⟩ := by unfold Addr.add; split <;> simp_all
theorem cells33 : Try.prog.cellsOf 33 = 5 := by kernel_rfl
/-- A slice of structs of one-cell fields, opened. -/
theorem open_slice_fields {H : Type} {enc : TypeId × Value → H} {P : Program} {w : World} {base : Nat} {spare : Nat → Bool} {held : Bool} {t e : TypeId} {fs : Array Field} {fuel : Nat} {cs : List Value} {x : DataW H × List MemPlace} (ht : P.underlying t = some (.slice e)) (he : P.underlying e = some (.struct fs))
    (hone : oneCellFields P fs = true) (hC : P.cellsOf e = fs.size) (h : DataW.trod enc P w base spare held fuel t cs = some x) :
    (cs = [.slice none 0 0] ∧ x = (.nil, [])) ∨
    ∃ (a : Addr) (len cap m : Nat), cs = [.slice (some a) len cap] ∧ len ≤ cap ∧ cap ≤ maxLen ∧ m = (if spare a.block then cap else len) ∧
      ∀ i, i < m → ∀ (j : Nat) (f : Field), fs[j]? = some f → ∃ (n : Nat) (v : Value) (y : DataW H × List MemPlace), w.cell? (a.add (i * fs.size + j)) = some v ∧ DataW.trod enc P w base spare held n f.type [v] = some y := by
  rcases open_slice ht h with h0 | ⟨a, len, cap, m, n, D, Pl, hcs, hb, hl, hm, hmm, hx, hi⟩
  · exact .inl h0
  · refine .inr ⟨a, len, cap, m, hcs, hl, hm, hmm, fun i him => ?_⟩
    obtain ⟨cs', hc, ht'⟩ := hi i him
    rw [hC] at hc
    obtain ⟨ys, n', hn', hy, hlen, hyl, hf⟩ := DataW.trod_struct he ht'
    obtain ⟨_, hcl, hat⟩ := World.cells?_some hc
    intro j f hj
    obtain ⟨ho, hk⟩ := hone_of hone j f hj
    have hjl : j < fs.size := (Array.getElem?_eq_some_iff.1 hj).1
    have hcell := hat j hjl
    have hv : cs'[j]? = some (cs'[j]'(by omega)) := List.getElem?_eq_getElem (by omega)
    have h1 := hf j f hj
    rw [ho, hk] at h1
    have hone' : (cs'.drop j).take 1 = [cs'[j]'(by omega)] := by
      rw [List.drop_eq_getElem_cons (by omega)]
      rfl
    rw [hone'] at h1
    have hys : ys[j]? = some (ys[j]'(by omega)) := List.getElem?_eq_getElem (by omega)
    refine ⟨_, _, _, ?_, h1.trans hys⟩
    rw [← Go.Deep.add_add, hcell, hv]

/-- What a text's cell holds. -/
def txtOf : Value → ByteArray
  | .string s => s
  | _ => { data := #[] }
/-- A slice of calls, opened: it is empty, or its cells are there. -/
theorem open_acts {H : Type} {enc : TypeId × Value → H} {w : World} {base : Nat} {spare : Nat → Bool} {held : Bool} {a : Option Addr} {len cap : Nat} {d : DataW H} {p : List MemPlace}
    (h : DataW.Trod enc Try.prog w base spare held 22 (.slice a len cap) d p) : len ≤ 9223372036854775807 ∧ ∃ (b off : Nat) (K F O P : Nat → Int) (S : Nat → ByteArray), (len = 0 ∨ a = some ⟨b, off, none⟩ ∧ b < w.heap.size) ∧
      ∀ i, i < len → w.cell? ⟨b, off + i * 5, none⟩ = some (.int .i64 (K i)) ∧ w.cell? ⟨b, off + i * 5 + 1, none⟩ = some (.int .i64 (F i)) ∧ w.cell? ⟨b, off + i * 5 + 2, none⟩ = some (.int .i64 (O i)) ∧ w.cell? ⟨b, off + i * 5 + 3, none⟩ = some (.int .i64 (P i)) ∧ w.cell? ⟨b, off + i * 5 + 4, none⟩ = some (.string (S i)) := by
  obtain ⟨fuel, hf⟩ := h
  rcases open_slice_fields Try.underlying22 Try.underlying33 (by kernel_rfl) cells33 hf with ⟨hcs, _⟩ | ⟨x, l, c, m, hcs, hl, hm, hmm, hx⟩
  · simp [Value.cells] at hcs
    obtain ⟨rfl, rfl, rfl⟩ := hcs
    exact ⟨by omega, 0, 0, fun _ => 0, fun _ => 0, fun _ => 0, fun _ => 0, fun _ => { data := #[] }, .inl rfl, fun i hi => absurd hi (by omega)⟩
  · simp [Value.cells] at hcs
    obtain ⟨rfl, rfl, rfl⟩ := hcs
    unfold maxLen at hm
    refine ⟨by omega, ?_⟩
    by_cases h0 : len = 0
    · subst h0
      exact ⟨0, 0, fun _ => 0, fun _ => 0, fun _ => 0, fun _ => 0, fun _ => { data := #[] }, .inl rfl, fun i hi => absurd hi (by omega)⟩
    · have hlm : len ≤ m := by rw [hmm]; split <;> omega
      obtain ⟨b, off, spot⟩ := x
      have hs : spot = none := by
        obtain ⟨_, _, _, hc, _⟩ := hx 0 (by omega) 0 _ rfl
        simpa [Addr.add] using World.cell?_spot hc
      subst hs
      have key : ∀ i, i < len → ∃ (k f o p : Int) (s : ByteArray), w.cell? ⟨b, off + i * 5, none⟩ = some (.int .i64 k) ∧ w.cell? ⟨b, off + i * 5 + 1, none⟩ = some (.int .i64 f) ∧ w.cell? ⟨b, off + i * 5 + 2, none⟩ = some (.int .i64 o) ∧ w.cell? ⟨b, off + i * 5 + 3, none⟩ = some (.int .i64 p) ∧ w.cell? ⟨b, off + i * 5 + 4, none⟩ = some (.string s) := fun i hi => by
        have one : ∀ j, j < 4 → ∃ z : Int, w.cell? ⟨b, off + i * 5 + j, none⟩ = some (.int .i64 z) := fun j hj => by
          have hfj : ∃ f : Field, f.type = 3 ∧ ∀ (q : Prop), ((∃ (n : Nat) (v : Value) (y : DataW H × List MemPlace), w.cell? ((⟨b, off, none⟩ : Addr).add (i * 5 + j)) = some v ∧ DataW.trod enc Try.prog w base spare held n f.type [v] = some y) → q) → q := by
            match j, hj with
            | 0, _ => exact ⟨_, rfl, fun q hq => hq (hx i (by omega) 0 _ rfl)⟩
            | 1, _ => exact ⟨_, rfl, fun q hq => hq (hx i (by omega) 1 _ rfl)⟩
            | 2, _ => exact ⟨_, rfl, fun q hq => hq (hx i (by omega) 2 _ rfl)⟩
            | 3, _ => exact ⟨_, rfl, fun q hq => hq (hx i (by omega) 3 _ rfl)⟩
          obtain ⟨f, hf3, hq⟩ := hfj
          refine hq _ ?_
          rintro ⟨n, v, y, hc, ht⟩
          rw [hf3] at ht
          obtain ⟨z, q0, _, _⟩ := DataW.trod_int Try.underlying3 ht
          simp at q0
          rw [addr_add, q0] at hc
          exact ⟨z, by rw [Nat.add_assoc]; exact hc⟩
        obtain ⟨n, v, y, hc, ht⟩ := hx i (by omega) 4 _ rfl
        obtain ⟨s, q0, _⟩ := DataW.trod_string Try.underlying9 ht
        simp at q0
        rw [addr_add, q0] at hc
        obtain ⟨k, hk⟩ := one 0 (by omega)
        obtain ⟨f, hf'⟩ := one 1 (by omega)
        obtain ⟨o, ho⟩ := one 2 (by omega)
        obtain ⟨p', hp⟩ := one 3 (by omega)
        exact ⟨k, f, o, p', s, hk, hf', ho, hp, by rw [Nat.add_assoc]; exact hc⟩
      refine ⟨b, off, fun i => intOf ((w.cell? ⟨b, off + i * 5, none⟩).getD undef), fun i => intOf ((w.cell? ⟨b, off + i * 5 + 1, none⟩).getD undef), fun i => intOf ((w.cell? ⟨b, off + i * 5 + 2, none⟩).getD undef), fun i => intOf ((w.cell? ⟨b, off + i * 5 + 3, none⟩).getD undef), fun i => txtOf ((w.cell? ⟨b, off + i * 5 + 4, none⟩).getD undef), .inr ⟨rfl, ?_⟩, fun i hi => ?_⟩
      · obtain ⟨_, _, _, _, _, e0, _⟩ := key 0 (by omega)
        exact block_lt_of_cell (by simpa using e0)
      · obtain ⟨k, f, o, p, s, e0, e1, e2, e3, e4⟩ := key i hi
        simp only [e0, e1, e2, e3, e4]
        exact ⟨rfl, rfl, rfl, rfl, rfl⟩

set_option maxRecDepth 100000 in
theorem lifted (os : Os) (started : os.Started) (H : Type) (enc : TypeId × Value → H) :
    ReturnsInHanded {} Try.checked os 3 .any (Rows.laneExactSpec.pre6 enc Try.prog Try.f3 Rows.laneExactRow.domain false) (Rows.laneExactSpec.post enc Try.prog Try.f3 false true false false) := by
  refine returnsInHanded_of_change_sized (C := Try.checked) own started (by kernel_rfl) Try.func3
    (ChangeSpec.witness6 (enc := enc) (C := Try.checked) false ⟨#[], #[.int .i64 0, .slice none 0 0], []⟩ 8 (by kernel_rfl) (by kernel_rfl) (by kernel_rfl) (by kernel_rfl)) ?_
  intro W base args ds gs before hval0 hW hcnd hsz0 _
  have hsz : (DataW.weightsEach Try.prog (Try.f3.params.toList ++ Rows.laneExactSpec.plain.varTypes Try.prog) (ds ++ gs)).all (· ≤ reachBytes) = true := hsz0
  have hval : ∀ (j : Nat) t v, Try.f3.params[j]? = some t → args[j]? = some v → Value.okWide Try.prog W .any base t v := hval0
  have hW' := hW
  obtain ⟨p, q, hA0, hV, rfl, hfz, hnd⟩ := hW
  have hA : DataW.TrodAll enc Try.prog W 0 (fun _ => true) true Try.f3.params.toList args.toList ds p := hA0
  rw [Try.params3] at hA hval hsz
  obtain ⟨v0, vs0, d0, ds0, p0, q0, hargs, rfl, rfl, h0, r0⟩ := trodAll_cons hA
  obtain ⟨v1, vs1, d1, ds1, p1, q1, rfl, rfl, rfl, h1, r1⟩ := trodAll_cons r0
  obtain ⟨rfl, rfl, rfl⟩ := trodAll_nil r1
  obtain rfl : args = #[v0, v1] := by cases args; simp_all
  obtain ⟨rfl, rfl⟩ := trodVars_none hV
  have k0 := h0
  have lt0 : ∀ x ∈ p0, x.block < W.heap.size := by obtain ⟨m, hm⟩ := k0; exact DataW.trod_lt m _ _ _ hm
  have k1 := h1
  have lt1 : ∀ x ∈ p1, x.block < W.heap.size := by obtain ⟨m, hm⟩ := k1; exact DataW.trod_lt m _ _ _ hm
  obtain ⟨a1, rfl, rfl, rfl, w1⟩ := open_int Try.underlying3 (hval 0 3 v0 rfl rfl) h0
  obtain ⟨xa, lc, cc, rfl⟩ := okWide_slice Try.underlying22 (hval 1 22 v1 rfl rfl)
  have hwalk : Calls Try.prog 3 #[.int .i64 a1, .slice xa lc cc] W fun e w' => e = .returned (.bool true) ∧ Below W.heap.size W w' := by
    obtain ⟨_, bx, ox, K, F, O, P, S, hX1, hX2⟩ := open_acts h1
    exact exact_any a1 xa bx ox lc cc K F O P S W hX1 hX2
  clear hA0 hval0 hsz0
  refine (hwalk).mono fun e W' ⟨he, bel⟩ => ?_
  subst he
  exact ⟨_, rfl, _, _, _, [], _, [], hW', trodAll_mk1 (shut_bool Try.underlying4 _), (trodAll_cons_mk (Below.trod laidOut (by kernel_rfl) (of_decide_eq_true (by kernel_rfl)) k0 bel lt0) (trodAll_cons_mk (Below.trod laidOut (by kernel_rfl) (of_decide_eq_true (by kernel_rfl)) k1 bel lt1) trodAll_mk0)), rfl, bel.frame _, fun h => by cases h⟩

theorem over : Rows.laneExactRow.holds Try.pinned (OpenSpec.ofChange Rows.laneExactSpec) :=
  OpenClaim.holds_of_wide 3 Try.f3 rfl rfl rfl rfl rfl rfl rfl ⟨rfl, rfl, rfl, rfl, rfl⟩ rfl rfl rfl rfl rfl (by kernel_rfl) Try.func3 (by kernel_rfl)
    (of_decide_eq_true (by kernel_rfl)) (by unfold Func.isWrapper; first | (rw [if_pos (by decide +kernel)]; kernel_rfl) | (rw [if_neg (by decide +kernel)]; exact ⟨rfl, rfl⟩))
    (fun os started H enc _ => lifted os started H enc)

/-- The statement. -/
theorem proved : Rows.LaneExactSaid :=
  over
#print axioms proved
end Go.Proofs.Ytbkgnkiimnlbcaa.laneExact
