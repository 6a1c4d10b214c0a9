/- For every input the law LaneOrder of this seat returns true, and each argument reads behind the call as it read before. No condition. -/
import Derived.Test.YtbkgnkiimnlbcaaRows
import Derived.Test.YtbkgnkiimnlbcaaOrder
import Derived.SliceStrings
import Derived.WalkKit
import Derived.ProofKit
import Derived.OpenShut
import Derived.ShutString
import Derived.SizedLaws
import Derived.Below
namespace Go.Proofs.Ytbkgnkiimnlbcaa.laneOrder
open Go.Deep Go.ChangeShapes Go.WideShapes Go.ChangeAt Go.RowKit
open Go.ChangeMaps (open_string shut_string)
set_option linter.unusedVariables false

theorem own : ownKnob Try.prog.godebug = none := by kernel_rfl
theorem laidOut : laidOutB Try.prog = true := by kernel_rfl
theorem cells9 : Try.prog.cellsOf 9 = 1 := by kernel_rfl
/-- The texts of a slice are among its weights. -/
theorem strs_weights {H : Type} {e : TypeId} (ss : List ByteArray) (s : ByteArray) (h : s ∈ ss) : s.size ∈ DataW.weightsAll Try.prog e (strs ss : List (DataW H)) := by
  induction ss with
  | nil => cases h
  | cons x r ih =>
    show s.size ∈ DataW.weights Try.prog e (.lit (.string x.data.toList) : DataW H) ++ DataW.weightsAll Try.prog e (strs r)
    rcases List.mem_cons.1 h with rfl | h
    · exact List.mem_append_left _ (by simp [DataW.weights])
    · exact List.mem_append_right _ (ih h)
theorem addr_add (b off k : Nat) : (⟨b, off, none⟩ : Addr).add k = ⟨b, off + k, none⟩ := by unfold Addr.add; split <;> simp_all
/-- A slice of texts, opened: it is empty, or its cells are there. -/
theorem open_texts {H : Type} {enc : TypeId × Value → H} {w : World} {base : Nat} {spare : Nat → Bool} {held : Bool} {a : Option Addr} {len cap : Nat} {d : DataW H} {p : List MemPlace}
    (h : DataW.Trod enc Try.prog w base spare held 41 (.slice a len cap) d p) (hw : ∀ n ∈ d.weights Try.prog 41, n ≤ 140737488351232) : len ≤ 9223372036854775807 ∧ (len = 0 ∨ ∃ (b off : Nat) (T : Nat → ByteArray), a = some ⟨b, off, none⟩ ∧ b < w.heap.size ∧
      ∀ i, i < len → w.cell? ⟨b, off + i, none⟩ = some (.string (T i)) ∧ (T i).size ≤ 140737488351232) := by
  obtain ⟨fuel, hf⟩ := h
  rcases open_strings Try.underlying41 Try.underlying9 cells9 hf with ⟨hcs, _⟩ | ⟨x, l, c, ss, hcs, _, hl, hm, hlen, hx, hc, _⟩
  · simp [Value.cells] at hcs
    obtain ⟨rfl, rfl, rfl⟩ := hcs
    exact ⟨by omega, .inl rfl⟩
  · simp [Value.cells] at hcs
    obtain ⟨rfl, rfl, rfl⟩ := hcs
    unfold maxLen at hm
    refine ⟨by omega, ?_⟩
    by_cases h0 : len = 0
    · exact .inl h0
    · right
      have hlm : len ≤ ss.length := by rw [hlen]; split <;> omega
      obtain ⟨b, off, spot⟩ := x
      have hs : spot = none := by
        have := hc 0 (by omega)
        simpa [Addr.add] using World.cell?_spot this
      subst hs
      refine ⟨b, off, fun i => ss.getD i ByteArray.empty, rfl, ?_, fun i hi => ?_⟩
      · have := block_lt_of_cell (hc 0 (by omega))
        simpa [Addr.add] using this
      · refine ⟨by rw [← addr_add]; exact hc i (by omega), ?_⟩
        simp only [Prod.mk.injEq] at hx
        have hmem : ss.getD i ByteArray.empty ∈ ss.take len := by
          rw [List.getD_eq_getElem?_getD, List.getElem?_eq_getElem (by omega)]
          rw [Option.getD_some]
          exact List.mem_take_iff_getElem.2 ⟨i, by omega, rfl⟩
        have := strs_weights (H := H) (e := 9) (ss.take len) _ hmem
        refine hw _ ?_
        rw [hx.1]
        simp only [DataW.weights, Try.underlying41]
        exact List.mem_cons_of_mem _ (List.mem_append_left _ this)

/-- The texts, opened for the walk. -/
theorem texts_of {H : Type} {enc : TypeId × Value → H} {w : World} {base : Nat} {spare : Nat → Bool} {held : Bool} {a : Option Addr} {len cap : Nat} {d : DataW H} {p : List MemPlace}
    (h : DataW.Trod enc Try.prog w base spare held 41 (.slice a len cap) d p) (hw : ∀ n ∈ d.weights Try.prog 41, n ≤ 140737488351232) : len ≤ 9223372036854775807 ∧ ∃ (b off : Nat) (T : Nat → ByteArray), (len = 0 ∨ a = some ⟨b, off, none⟩ ∧ b < w.heap.size) ∧ ∀ i, i < len → w.cell? ⟨b, off + i, none⟩ = some (.string (T i)) := by
  obtain ⟨hl, h0 | ⟨b, off, T, ha, hb, hT⟩⟩ := open_texts h hw
  · exact ⟨hl, 0, 0, fun _ => { data := #[] }, .inl h0, fun i hi => absurd hi (by omega)⟩
  · exact ⟨hl, b, off, T, .inr ⟨ha, hb⟩, fun i hi => (hT i hi).1⟩

set_option maxRecDepth 100000 in
theorem lifted (os : Os) (started : os.Started) (H : Type) (enc : TypeId × Value → H) :
    ReturnsInHanded {} Try.checked os 4 .any (Rows.laneOrderSpec.pre6 enc Try.prog Try.f4 Rows.laneOrderRow.domain false) (Rows.laneOrderSpec.post enc Try.prog Try.f4 false true false false) := by
  refine returnsInHanded_of_change_sized (C := Try.checked) own started (by kernel_rfl) Try.func4
    (ChangeSpec.witness6 (enc := enc) (C := Try.checked) false ⟨#[], #[.slice none 0 0, .int .i64 0, .int .i64 0], []⟩ 8 (by kernel_rfl) (by kernel_rfl) (by kernel_rfl) (by kernel_rfl)) ?_
  intro W base args ds gs before hval0 hW hcnd hsz0 _
  have hsz : (DataW.weightsEach Try.prog (Try.f4.params.toList ++ Rows.laneOrderSpec.plain.varTypes Try.prog) (ds ++ gs)).all (· ≤ reachBytes) = true := hsz0
  have hval : ∀ (j : Nat) t v, Try.f4.params[j]? = some t → args[j]? = some v → Value.okWide Try.prog W .any base t v := hval0
  have hW' := hW
  obtain ⟨p, q, hA0, hV, rfl, hfz, hnd⟩ := hW
  have hA : DataW.TrodAll enc Try.prog W 0 (fun _ => true) true Try.f4.params.toList args.toList ds p := hA0
  rw [Try.params4] at hA hval hsz
  obtain ⟨v0, vs0, d0, ds0, p0, q0, hargs, rfl, rfl, h0, r0⟩ := trodAll_cons hA
  obtain ⟨v1, vs1, d1, ds1, p1, q1, rfl, rfl, rfl, h1, r1⟩ := trodAll_cons r0
  obtain ⟨v2, vs2, d2, ds2, p2, q2, rfl, rfl, rfl, h2, r2⟩ := trodAll_cons r1
  obtain ⟨rfl, rfl, rfl⟩ := trodAll_nil r2
  obtain rfl : args = #[v0, v1, v2] := by cases args; simp_all
  obtain ⟨rfl, rfl⟩ := trodVars_none hV
  have k0 := h0
  have lt0 : ∀ x ∈ p0, x.block < W.heap.size := by obtain ⟨m, hm⟩ := k0; exact DataW.trod_lt m _ _ _ hm
  have k1 := h1
  have lt1 : ∀ x ∈ p1, x.block < W.heap.size := by obtain ⟨m, hm⟩ := k1; exact DataW.trod_lt m _ _ _ hm
  have k2 := h2
  have lt2 : ∀ x ∈ p2, x.block < W.heap.size := by obtain ⟨m, hm⟩ := k2; exact DataW.trod_lt m _ _ _ hm
  obtain ⟨ta, ln, cn, rfl⟩ := okWide_slice Try.underlying41 (hval 0 41 v0 rfl rfl)
  obtain ⟨a1, rfl, rfl, rfl, w1⟩ := open_int Try.underlying3 (hval 1 3 v1 rfl rfl) h1
  obtain ⟨a2, rfl, rfl, rfl, w2⟩ := open_int Try.underlying3 (hval 2 3 v2 rfl rfl) h2
  have hw0 : ∀ n ∈ d0.weights Try.prog 41, n ≤ 140737488351232 := fun n hn => by
    have := List.all_eq_true.1 hsz n (DataW.weights_mem_each (j := 0) (t := 41) rfl rfl n hn)
    exact of_decide_eq_true this
  have hwalk : Calls Try.prog 4 #[.slice ta ln cn, .int .i64 a1, .int .i64 a2] W fun e w' => e = .returned (.bool true) ∧ Below W.heap.size W w' := by
    obtain ⟨_, b, off, T, hT1, hT2⟩ := texts_of h0 hw0
    exact order_any ta b off ln cn T a1 a2 W hT1 hT2
  clear hA0 hval0 hsz0
  refine (hwalk).mono fun e W' ⟨he, bel⟩ => ?_
  subst he
  exact ⟨_, rfl, _, _, _, [], _, [], hW', trodAll_mk1 (shut_bool Try.underlying4 _), (trodAll_cons_mk (Below.trod laidOut (by kernel_rfl) (of_decide_eq_true (by kernel_rfl)) k0 bel lt0) (trodAll_cons_mk (Below.trod laidOut (by kernel_rfl) (of_decide_eq_true (by kernel_rfl)) k1 bel lt1) (trodAll_cons_mk (Below.trod laidOut (by kernel_rfl) (of_decide_eq_true (by kernel_rfl)) k2 bel lt2) trodAll_mk0))), rfl, bel.frame _, fun h => by cases h⟩

theorem over : Rows.laneOrderRow.holds Try.pinned (OpenSpec.ofChange Rows.laneOrderSpec) :=
  OpenClaim.holds_of_wide 4 Try.f4 rfl rfl rfl rfl rfl rfl rfl ⟨rfl, rfl, rfl, rfl, rfl⟩ rfl rfl rfl rfl rfl (by kernel_rfl) Try.func4 (by kernel_rfl)
    (of_decide_eq_true (by kernel_rfl)) (by unfold Func.isWrapper; first | (rw [if_pos (by decide +kernel)]; kernel_rfl) | (rw [if_neg (by decide +kernel)]; exact ⟨rfl, rfl⟩))
    (fun os started H enc _ => lifted os started H enc)

/-- The statement. -/
theorem proved : Rows.LaneOrderSaid :=
  over
#print axioms proved
end Go.Proofs.Ytbkgnkiimnlbcaa.laneOrder
