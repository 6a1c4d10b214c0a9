/- The contract of the reference's set. No condition. -/
import Derived.Test.YtbkgnkiimnlbcaaRef
namespace Go.Proofs.Ytbkgnkiimnlbcaa
open Go.RowKit Go.Deep Go.Conc

theorem keepE_mem {a b : Int} {es : List Ent} {e : Ent} (h : e ∈ keepE a b es) : e ∈ es := (List.mem_filter.1 h).1
/-- The new entries' slice is stored. -/
theorem rn_put {w w5 : World} {r hi g3 c3 : Nat} {n : Int} {es : List Ent} {V : Value} {e : Ent} (h : Rn w r hi n es V) (hb : Below w.heap.size w w5)
    (ho : w5.ownsRow w.heap.size 58 3 (.slice (some ⟨g3, 0, none⟩) (putE e.a e.b es e).length c3) (putE e.a e.b es e).length (flat (putE e.a e.b es e)))
    (hv : Reads w hi e.v e.q) (hq : e.q.length ≤ 32) (hr : right n e.a e.b) : ∃ V', Rn (w5.setCell ⟨r, 1, none⟩ (.slice (some ⟨g3, 0, none⟩) (putE e.a e.b es e).length c3)) r hi n (putE e.a e.b es e) V' := by
  have hlt := h.lt
  have hn5 : w5.heap[r]? = some (.cells #[.int .i64 n, V] 31) := by rw [hb.block r hlt]; exact h.net
  have hother : ∀ k, k ≠ r → (w5.setCell ⟨r, 1, none⟩ (.slice (some ⟨g3, 0, none⟩) (putE e.a e.b es e).length c3)).heap[k]? = w5.heap[k]? := fun k hk => heap_setCell_other _ _ _ _ hk
  have hrow : ∀ {v : Value} {q : List ByteArray}, Reads w hi v q → Reads (w5.setCell ⟨r, 1, none⟩ (.slice (some ⟨g3, 0, none⟩) (putE e.a e.b es e).length c3)) hi v q := fun {v q} hR =>
    row_kept hR fun k hk ⟨c, hc⟩ => by
      have hne : k ≠ r := by rintro rfl; rw [h.net] at hc; cases hc
      rw [hother k hne, hb.block k (Array.getElem?_eq_some_iff.1 hc).1]
  refine ⟨.slice (some ⟨g3, 0, none⟩) (putE e.a e.b es e).length c3, ?_, h.low, row_kept (hi := hi) (w := w5) ?_ ?_, ?_⟩
  · rw [heap_setCell_same _ _ _ _ _ _ hn5]; rfl
  · obtain ⟨h1, h2 | ⟨g, cap, cur, hg, hb', rest⟩⟩ := ho
    · exact ⟨h1, .inl h2⟩
    · exact ⟨h1, .inr ⟨g, cap, cur, hg, by have := h.low; omega, rest⟩⟩
  · intro k _ ⟨c, hc⟩
    exact hother k (by rintro rfl; rw [hn5] at hc; cases hc)
  · intro x hx
    unfold putE at hx
    rcases List.mem_append.1 hx with hx | hx
    · obtain ⟨p1, p2⟩ := h.ents x (keepE_mem hx)
      exact ⟨hrow p1, p2⟩
    · rw [List.mem_singleton] at hx; subst hx
      exact ⟨hrow hv, hq, hr⟩
theorem set_only {w w5 : World} {r : Nat} (hb : Below w.heap.size w w5) (v : Value) : Only r w (w5.setCell ⟨r, 1, none⟩ v) := (Only.of_below hb).setCell v

set_option maxHeartbeats 2000000 in
theorem set_any {w : World} {r hi : Nat} {n : Int} {es : List Ent} {V : Value} (h : Rn w r hi n es V) (hlen : es.length ≤ 1000) (e : Ent) (hr : right n e.a e.b) (hv : Reads w hi e.v e.q) (hq : e.q.length ≤ 32) :
    Calls Try.prog 22 #[.pointer (some ⟨r, 0, none⟩), .int .i64 e.a, .int .i64 e.b, .slice (some ⟨e.g, 0, none⟩) e.q.length e.c] w fun x w' => x = .returned (.tuple #[]) ∧ (∃ V', Rn w' r hi n (putE e.a e.b es e) V') ∧ Only r w w' := by
  have HL := Lib.hid hlen
  have HS := Lib.hid h.slice
  have HR := Lib.hid h
  have HV := Lib.hid hv
  have HQ := Lib.hid hq
  have HRI := Lib.hid hr
  have HLT := Lib.hid h.lt
  clear hlen h hv hq hr
  obtain ⟨i0, hi0, hz0, hz1, hz2⟩ := info58
  have hown0 : (w.alloc (.cells #[] 58)).ownsRow w.heap.size 58 3 (.slice (some ⟨w.heap.size, 0, none⟩) 0 0) 0 [] := World.ownsRow_made w #[] 0 (Nat.le_refl _) (by unfold maxLen; omega) rfl
  have HB0 : Hid (Below w.heap.size w (w.alloc (.cells #[] 58))) := Lib.hid ((Below.refl _ _).alloc (Nat.le_refl _) _)
  obtain ⟨rfl, rfl⟩ | ⟨g, cap, rfl, hg, hg2⟩ := HS.out
  · unfold nilV at HR
    go_enter Try.func22, Try.ntmps22
    go_wp2_with fail
    generalize w.alloc (.cells #[] 58) = w0 at *
    go_loopw [9, 8] (fun i v wr => i = .int .i64 0 ∧ Below w.heap.size w wr ∧ Own58 wr w.heap.size v []) (fun _ _ _ => 0)
    case atStart => exact ⟨rfl, HB0.out, ⟨_, _, rfl, hown0⟩⟩
    case round =>
      clear hown0 HB0
      obtain ⟨rfl, hbel, ⟨gv, cv, rfl, hown⟩⟩ := hrel
      have HB := Lib.hid hbel
      have HO := Lib.hid hown
      have HRW := Lib.hid (HR.out.below hbel)
      obtain ⟨_, c1, _, f1⟩ := HRW.out.cells
      clear hbel hown
      have hlo4 : Hid (w.heap.size ≤ wr.heap.size) := Lib.hid HB.out.size
      have HO2 : Hid (wr.ownsRow w.heap.size 58 3 (.slice (some ⟨gv, 0, none⟩) 0 cv) 0 []) := Lib.hid HO.out
      clear HO
      go_wp2_with (first
        | (at_builtin; refine wpList_append_own _ rfl _ _ 29 rfl w.heap.size 58 i0 (.agg #[.int .i64 0, .int .i64 0, .slice none 0 0]) 3 40 Try.underlying29 hi0 hz0 hz1 hz2 rfl (by decide) _ _ _ rfl (HO2.out.alloc _) ⟨wr.heap.size, 0, none⟩ 1 1 e.cells rfl rfl (cells_new _ _ _) (fun u hu => by simp [Ent.cells, Ent.v] at hu; rcases hu with rfl | rfl | rfl <;> rfl) (by unfold maxLen; omega) (by omega) (by rw [World.size_alloc]; exact Nat.le_succ_of_le hlo4.out) ?_; intro v3 w5 hown3 hgrow3 hnil3
           have HB5 := Lib.hid (below_grown ((HB.out).alloc hlo4.out (.cells e.cells.toArray 58)) (by rw [World.size_alloc]; exact Nat.le_succ_of_le hlo4.out) hgrow3 (fun k hk => (HO2.out.lt k hk).1))
           have c5 : w5.cell? ⟨r, 1, none⟩ = some (.slice none 0 0) := ((HR.out.below HB5.out).cells).2.1
           have f5 : w5.frozen? ⟨r, 1, none⟩ = false := ((HR.out.below HB5.out).cells).2.2.2
           obtain ⟨g3, c3, rfl, hO5⟩ : Own58 w5 w.heap.size v3 (putE e.a e.b [] e) := own58_of (n := 0) (by simpa [flat, putE, keepE] using hown3) (by simp [putE, keepE])
           have HO5 := Lib.hid hO5
           clear hown3 hgrow3 hnil3 hO5))
      go_end0
      exact ⟨rfl, rn_put HR.out HB5.out HO5.out HV.out HQ.out HRI.out, set_only HB5.out _⟩

  · go_enter Try.func22, Try.ntmps22
    go_wp2_with fail
    generalize w.alloc (.cells #[] 58) = w0 at *
    go_loopw [9, 8] (fun i v wr => ∃ k : Nat, k ≤ es.length ∧ i = .int .i64 k ∧ Below w.heap.size w wr ∧ Own58 wr w.heap.size v (keepE e.a e.b (es.take k))) (fun i _ _ => es.length - (intOf i).toNat)
    case atStart => exact ⟨0, by omega, rfl, HB0.out, ⟨_, _, rfl, hown0⟩⟩
    case round =>
      clear hown0 HB0
      obtain ⟨k, hk, rfl, hbel, ⟨gv, cv, rfl, hown⟩⟩ := hrel
      have HB := Lib.hid hbel
      have HO := Lib.hid hown
      have HRW := Lib.hid (HR.out.below hbel)
      obtain ⟨_, c1, _, f1⟩ := HRW.out.cells
      clear hbel hown
      have hw1 : IntKind.i64.wrap ((k : Int) + 1) = ((k + 1 : Nat) : Int) := by rw [wrap_small _ (by omega) (by have := HL.out; omega)]; omega
      have HKL := Lib.hid (keepE_le e.a e.b es k)
      by_cases hlt : k < es.length
      · obtain ⟨x, hkx⟩ : ∃ e, es[k]? = some e := ⟨_, List.getElem?_eq_getElem hlt⟩
        obtain ⟨d0, d1, d2⟩ := HRW.out.ent k x hkx
        have HT := Lib.hid (keepE_take (a := e.a) (b := e.b) hkx)
        clear hkx
        by_cases h1 : x.a = e.a
        · have e1 : (x.a != e.a) = false := by simpa using h1
          have H1 := Lib.hid h1
          clear h1
          by_cases h2 : x.b = e.b
          · have e2 : (x.b != e.b) = false := by simpa using h2
            have H2 := Lib.hid h2
            clear h2
            go_wp2_with fail
            go_roundw
            case rel => exact ⟨k + 1, by omega, rfl, HB.out, by rw [HT.out, if_pos (by unfold hits; rw [H1.out, H2.out]; simp)]; exact ⟨_, _, rfl, HO.out⟩⟩
            case measure => simp [intOf]; omega
          · have e2 : (x.b != e.b) = true := by simpa using h2
            have HK2 : Hid (hits e.a e.b x = false) := Lib.hid (by unfold hits; rw [H1.out]; simpa using h2)
            clear h2
            have hlo4 : Hid (w.heap.size ≤ wr.heap.size) := Lib.hid HB.out.size
            go_wp2_with (first
              | (at_builtin; refine wpList_append_own _ rfl _ _ 29 rfl w.heap.size 58 i0 (.agg #[.int .i64 0, .int .i64 0, .slice none 0 0]) 3 40 Try.underlying29 hi0 hz0 hz1 hz2 rfl (by decide) _ _ _ rfl (HO.out.alloc _) ⟨wr.heap.size, 0, none⟩ 1 1 x.cells rfl rfl (cells_new _ _ _) (fun u hu => by simp [Ent.cells, Ent.v] at hu; rcases hu with rfl | rfl | rfl <;> rfl) (by have := HL.out; have := HKL.out; unfold maxLen; omega) (by have := HL.out; have := HKL.out; omega) (by rw [World.size_alloc]; exact Nat.le_succ_of_le hlo4.out) ?_; intro v3 w5 hown3 hgrow3 hnil3
                 have HB5 := Lib.hid (below_grown ((HB.out).alloc hlo4.out (.cells x.cells.toArray 58)) (by rw [World.size_alloc]; exact Nat.le_succ_of_le hlo4.out) hgrow3 (fun k hk => (HO.out.lt k hk).1))
                 have HO5 := Lib.hid hown3
                 clear hown3 hgrow3 hnil3))
            go_roundw
            case rel => exact ⟨k + 1, by omega, rfl, HB5.out, by rw [HT.out, if_neg (by rw [HK2.out]; simp)]; exact own58_of (by rw [flat_append]; simpa [flat] using HO5.out) (by simp)⟩
            case measure => simp [intOf]; omega
        · have e1 : (x.a != e.a) = true := by simpa using h1
          have HK2 : Hid (hits e.a e.b x = false) := Lib.hid (by unfold hits; simp [h1])
          clear h1
          have hlo4 : Hid (w.heap.size ≤ wr.heap.size) := Lib.hid HB.out.size
          go_wp2_with (first
            | (at_builtin; refine wpList_append_own _ rfl _ _ 29 rfl w.heap.size 58 i0 (.agg #[.int .i64 0, .int .i64 0, .slice none 0 0]) 3 40 Try.underlying29 hi0 hz0 hz1 hz2 rfl (by decide) _ _ _ rfl (HO.out.alloc _) ⟨wr.heap.size, 0, none⟩ 1 1 x.cells rfl rfl (cells_new _ _ _) (fun u hu => by simp [Ent.cells, Ent.v] at hu; rcases hu with rfl | rfl | rfl <;> rfl) (by have := HL.out; have := HKL.out; unfold maxLen; omega) (by have := HL.out; have := HKL.out; omega) (by rw [World.size_alloc]; exact Nat.le_succ_of_le hlo4.out) ?_; intro v3 w5 hown3 hgrow3 hnil3
               have HB5 := Lib.hid (below_grown ((HB.out).alloc hlo4.out (.cells x.cells.toArray 58)) (by rw [World.size_alloc]; exact Nat.le_succ_of_le hlo4.out) hgrow3 (fun k hk => (HO.out.lt k hk).1))
               have HO5 := Lib.hid hown3
               clear hown3 hgrow3 hnil3))
          go_roundw
          case rel => exact ⟨k + 1, by omega, rfl, HB5.out, by rw [HT.out, if_neg (by rw [HK2.out]; simp)]; exact own58_of (by rw [flat_append]; simpa [flat] using HO5.out) (by simp)⟩
          case measure => simp [intOf]; omega
      · obtain rfl : k = es.length := by omega
        have hlo4 : Hid (w.heap.size ≤ wr.heap.size) := Lib.hid HB.out.size
        have HO2 : Hid (wr.ownsRow w.heap.size 58 3 (.slice (some ⟨gv, 0, none⟩) (keepE e.a e.b es).length cv) (keepE e.a e.b es).length (flat (keepE e.a e.b es))) := Lib.hid (by have := HO.out; rwa [List.take_length] at this)
        rw [List.take_length] at *
        clear HO
        go_wp2_with (first
          | (at_builtin; refine wpList_append_own _ rfl _ _ 29 rfl w.heap.size 58 i0 (.agg #[.int .i64 0, .int .i64 0, .slice none 0 0]) 3 40 Try.underlying29 hi0 hz0 hz1 hz2 rfl (by decide) _ _ _ rfl (HO2.out.alloc _) ⟨wr.heap.size, 0, none⟩ 1 1 e.cells rfl rfl (cells_new _ _ _) (fun u hu => by simp [Ent.cells, Ent.v] at hu; rcases hu with rfl | rfl | rfl <;> rfl) (by have := HL.out; have := HKL.out; unfold maxLen; omega) (by have := HL.out; have := HKL.out; omega) (by rw [World.size_alloc]; exact Nat.le_succ_of_le hlo4.out) ?_; intro v3 w5 hown3 hgrow3 hnil3
             have HB5 := Lib.hid (below_grown ((HB.out).alloc hlo4.out (.cells e.cells.toArray 58)) (by rw [World.size_alloc]; exact Nat.le_succ_of_le hlo4.out) hgrow3 (fun k hk => (HO2.out.lt k hk).1))
             have c5 : w5.cell? ⟨r, 1, none⟩ = some (.slice (some ⟨g, 0, none⟩) es.length cap) := ((HR.out.below HB5.out).cells).2.1
             have f5 : w5.frozen? ⟨r, 1, none⟩ = false := ((HR.out.below HB5.out).cells).2.2.2
             obtain ⟨g3, c3, rfl, hO5⟩ : Own58 w5 w.heap.size v3 (putE e.a e.b es e) := own58_of (by unfold putE; rw [flat_append]; simpa [flat] using hown3) (by simp [putE])
             have HO5 := Lib.hid hO5
             clear hown3 hgrow3 hnil3 hO5))
        go_end0
        exact ⟨rfl, rn_put HR.out HB5.out HO5.out HV.out HQ.out HRI.out, set_only HB5.out _⟩

end Go.Proofs.Ytbkgnkiimnlbcaa
