/- The contracts of the reference's calls over the abstract lanes. No condition. -/
import Derived.Test.YtbkgnkiimnlbcaaRefSet
namespace Go.Proofs.Ytbkgnkiimnlbcaa
open Go.RowKit Go.Deep Go.Conc

theorem onQ_put (es : List Ent) (e : Ent) (x y : Int) : onQ (putE e.a e.b es e) x y = updL (onQ es) e.a e.b e.q x y := by
  unfold onQ putE keepE updL
  rw [List.find?_append, List.find?_filter]
  have hf : (fun c => decide ((!hits e.a e.b c) = true ∧ hits x y c = true)) = fun c => (!hits e.a e.b c) && hits x y c := by funext c; simp
  rw [hf]
  by_cases h : x = e.a ∧ y = e.b
  · obtain ⟨rfl, rfl⟩ := h
    rw [if_pos ⟨rfl, rfl⟩]
    have h1 : es.find? (fun c => (!hits e.a e.b c) && hits e.a e.b c) = none := by
      rw [List.find?_eq_none]; intro c _; cases hits e.a e.b c <;> simp
    have h2 : hits e.a e.b e = true := by simp [hits]
    rw [h1]
    simp [h2]
  · rw [if_neg h]
    have h1 : (fun c => (!hits e.a e.b c) && hits x y c) = hits x y := by
      funext c
      cases hx : hits x y c with
      | false => simp
      | true =>
        simp only [hits, Bool.and_eq_true, beq_iff_eq] at hx
        have : hits e.a e.b c = false := by
          simp only [hits, Bool.and_eq_false_iff, beq_eq_false_iff_ne]
          rw [hx.1, hx.2]
          by_cases hxa : x = e.a
          · exact .inr fun hy => h ⟨hxa, hy⟩
          · exact .inl hxa
        rw [this]; rfl
    have h2 : hits x y e = false := by
      simp only [hits, Bool.and_eq_false_iff, beq_eq_false_iff_ne]
      by_cases hxa : e.a = x
      · exact .inr fun hy => h ⟨hxa.symm, hy.symm⟩
      · exact .inl hxa
    rw [h1]
    cases hq : es.find? (hits x y) <;> simp [h2, hq]
theorem putE_le (a b : Int) (es : List Ent) (e : Ent) : (putE a b es e).length ≤ es.length + 1 := by
  unfold putE keepE
  rw [List.length_append]
  have := List.length_filter_le (fun e => !hits a b e) es
  simpa using this

/-- The reference's net at r holds these lanes, in at most k entries. -/
structure Rl (w : World) (r hi : Nat) (n : Int) (L : Lanes) (k : Nat) : Prop where
  net : ∃ es V, Rn w r hi n es V ∧ es.length ≤ k ∧ ∀ a b, onQ es a b = L a b
theorem Rl.mid {w w' : World} {lo hi r k : Nat} {n : Int} {L : Lanes} (h : Rl w r hi n L k) (hm : Mid lo hi w w') : Rl w' r hi n L k := by
  obtain ⟨es, V, h1, h2, h3⟩ := h
  exact ⟨es, V, h1.mid hm, h2, h3⟩
theorem Rl.below {w w' : World} {hi r k : Nat} {n : Int} {L : Lanes} (h : Rl w r hi n L k) (hb : Below w.heap.size w w') : Rl w' r hi n L k := h.mid (lo := 0) (Mid.of_below hb)
theorem Rl.lt {w : World} {r hi k : Nat} {n : Int} {L : Lanes} (h : Rl w r hi n L k) : r < w.heap.size ∧ hi ≤ r := by
  obtain ⟨es, V, h1, _, _⟩ := h
  exact ⟨h1.lt, h1.low⟩
theorem Rl.cell {w : World} {r hi k : Nat} {n : Int} {L : Lanes} (h : Rl w r hi n L k) : w.cell? ⟨r, 0, none⟩ = some (.int .i64 n) := by
  obtain ⟨es, V, h1, _, _⟩ := h
  exact h1.cells.1
theorem Rl.more {w : World} {r hi k k' : Nat} {n : Int} {L : Lanes} (h : Rl w r hi n L k) (hk : k ≤ k') : Rl w r hi n L k' := by
  obtain ⟨es, V, h1, h2, h3⟩ := h
  exact ⟨es, V, h1, Nat.le_trans h2 hk, h3⟩

theorem rl_new (x : Int) (w : World) : Calls Try.prog 9 #[.int .i64 x] w fun e w' => e = .returned (at0 w.heap.size) ∧ Rl w' w.heap.size w.heap.size (clamp x) (fun _ _ => []) 0 ∧ Below w.heap.size w w' := by
  refine (rnew_any x w).mono ?_
  rintro e w' ⟨rfl, h, hb⟩
  exact ⟨rfl, ⟨[], nilV, h, Nat.le_refl _, fun _ _ => rfl⟩, hb⟩
theorem rl_right {w : World} {r hi k : Nat} {n : Int} {L : Lanes} (h : Rl w r hi n L k) (a b : Int) : Calls Try.prog 20 #[at0 r, .int .i64 a, .int .i64 b] w fun e w' => e = .returned (.bool (decide (right n a b))) ∧ w = w' := by
  obtain ⟨es, V, h1, h2, h3⟩ := h
  exact right_any h1 a b
theorem rl_len {w : World} {r hi k : Nat} {n : Int} {L : Lanes} (h : Rl w r hi n L k) (hk : k ≤ 1000) (a b : Int) : Calls Try.prog 18 #[at0 r, .int .i64 a, .int .i64 b] w fun e w' => e = .returned (.int .i64 (L a b).length) ∧ w = w' := by
  obtain ⟨es, V, h1, h2, h3⟩ := h
  have := rlen_any h1 (by omega) a b
  rwa [h3 a b] at this
theorem rl_on {w : World} {r hi k : Nat} {n : Int} {L : Lanes} (h : Rl w r hi n L k) (hk : k ≤ 1000) (a b : Int) : ∃ v, Reads w hi v (L a b) ∧ (L a b).length ≤ 32 ∧ (L a b ≠ [] → right n a b) ∧ Calls Try.prog 21 #[at0 r, .int .i64 a, .int .i64 b] w fun e w' => e = .returned v ∧ w = w' := by
  obtain ⟨es, V, h1, h2, h3⟩ := h
  have ho := Reads.on h1 a b
  rw [h3 a b] at ho
  exact ⟨_, ho.1, ho.2.1, ho.2.2, on_any h1 (by omega) a b⟩
theorem rl_set {w : World} {r hi k : Nat} {n : Int} {L : Lanes} (h : Rl w r hi n L k) (hk : k ≤ 999) (a b : Int) (hr : right n a b) (g c m : Nat) (q : List ByteArray) (hq : q.length = m) (hm : m ≤ 32)
    (hv : w.ownsRow hi 9 1 (.slice (some ⟨g, 0, none⟩) m c) m (txt q)) : Calls Try.prog 22 #[at0 r, .int .i64 a, .int .i64 b, .slice (some ⟨g, 0, none⟩) m c] w fun x w' => x = .returned (.tuple #[]) ∧ Rl w' r hi n (updL L a b q) (k + 1) ∧ Only r w w' := by
  subst hq
  obtain ⟨es, V, h1, h2, h3⟩ := h
  refine (set_any h1 (by omega) ⟨a, b, g, c, q⟩ hr hv hm).mono ?_
  rintro e w' ⟨rfl, ⟨V', h'⟩, ho⟩
  refine ⟨rfl, ⟨_, V', h', Nat.le_trans (putE_le _ _ _ _) (by omega), fun x y => ?_⟩, ho⟩
  rw [onQ_put es ⟨a, b, g, c, q⟩]
  show updL (onQ es) a b q x y = _
  have : onQ es = L := by funext x y; exact h3 x y
  rw [this]
theorem slice_of {w : World} {B n : Nat} {v : Value} {xs : List Value} (h : w.ownsRow B 9 1 v n xs) (hne : v ≠ .slice none 0 0) : ∃ g c, v = .slice (some ⟨g, 0, none⟩) n c := by
  obtain ⟨h1, ⟨h2, _⟩ | ⟨g, cap, cur, rfl, rest⟩⟩ := h
  · exact absurd h2 hne
  · exact ⟨g, cap, rfl⟩
theorem row_low {w : World} {B B' n size t : Nat} {v : Value} {xs : List Value} (h : w.ownsRow B t size v n xs) (hB : B' ≤ B) : w.ownsRow B' t size v n xs := by
  obtain ⟨h1, h2 | ⟨g, cap, cur, rfl, hb', rest⟩⟩ := h
  · exact ⟨h1, .inl h2⟩
  · exact ⟨h1, .inr ⟨g, cap, cur, rfl, Nat.le_trans hB hb', rest⟩⟩
theorem row_below {w w' : World} {B n size t : Nat} {v : Value} {xs : List Value} (h : w.ownsRow B t size v n xs) (hb : Below w.heap.size w w') : w'.ownsRow B t size v n xs :=
  row_kept h fun k _ ⟨_, hc⟩ => hb.block k (Array.getElem?_eq_some_iff.1 hc).1
theorem txt_one {q : List ByteArray} {u : Value} (h : u ∈ txt q) : u.oneCell' = true := by
  unfold txt at h
  obtain ⟨_, _, rfl⟩ := List.mem_map.1 h
  rfl
theorem txt_append (q q' : List ByteArray) : txt (q ++ q') = txt q ++ txt q' := by simp [txt]

set_option maxHeartbeats 2000000 in
theorem rl_send {w : World} {r hi k : Nat} {n : Int} {L : Lanes} (h : Rl w r hi n L k) (hk : k ≤ 999) (a b : Int) (s : ByteArray) :
    Calls Try.prog 12 #[at0 r, .int .i64 a, .int .i64 b, .string s] w fun e w' => e = .returned (.int .i64 (sendOut n L a b)) ∧ Rl w' r hi n (sendL n L a b s) (k + 1) ∧ Only r w w' := by
  have HR := Lib.hid h
  have HRI := Lib.hid (rl_right h a b)
  obtain ⟨v, hv, hv32, _, hon⟩ := rl_on h (by omega) a b
  have HV := Lib.hid hv
  have HV32 := Lib.hid hv32
  have HON := Lib.hid hon
  have HK := Lib.hid hk
  have HLT := Lib.hid h.lt
  clear h hv hv32 hon hk
  by_cases hr : right n a b
  · rw [decide_eq_true hr] at HRI
    by_cases hlt : (L a b).length < 32
    · have HE : Hid (sendOut n L a b = 0 ∧ sendL n L a b s = updL L a b (L a b ++ [s])) := Lib.hid ⟨by unfold sendOut; rw [if_pos hr, if_pos hlt], by unfold sendL; rw [if_pos ⟨hr, hlt⟩]⟩
      have HH := Lib.hid hr
      have HL := Lib.hid hlt
      generalize L a b = q at *
      clear hr hlt HV32
      rw [HE.out.1, HE.out.2]
      clear HE
      obtain ⟨i0, hi0, hz0, hz1, hz2⟩ := info9
      have hown0 : (w.alloc (.cells #[] 9)).ownsRow w.heap.size 9 1 (.slice (some ⟨w.heap.size, 0, none⟩) 0 0) 0 [] := World.ownsRow_made w #[] 0 (Nat.le_refl _) (by unfold maxLen; omega) rfl
      have HB0 : Hid (Below w.heap.size w (w.alloc (.cells #[] 9))) := Lib.hid ((Below.refl _ _).alloc (Nat.le_refl _) _)
      obtain ⟨rfl, rfl⟩ | ⟨g, cap, rfl, hg, hcs⟩ := reads_len HV.out
      · unfold nilV at HON
        go_enter Try.func12, Try.ntmps12
        go_wp2_with fail
        refine (HRI.out).mono ?_
        rintro e w' ⟨rfl, rfl⟩
        go_wp2_with fail
        refine (HON.out).mono ?_
        rintro e w' ⟨rfl, rfl⟩
        have hz1' : w.heap.size ≤ (w.alloc (.cells #[] 9)).heap.size := HB0.out.size
        go_wp2_with (first
          | (at_builtin; refine wpList_append_own_none rfl _ _ 41 rfl w.heap.size 9 i0 1 Try.underlying41 hi0 _ 0 [] rfl hown0 rfl ?_
             generalize hw4 : w.alloc (.cells #[] 9) = w4 at *
             clear hw4)
          | (at_builtin; refine wpList_append_own _ rfl _ _ 41 rfl w.heap.size 9 i0 (.string ByteArray.empty) 1 16 Try.underlying41 hi0 hz0 hz1 hz2 rfl (by decide) _ _ _ rfl (hown0.alloc _) ⟨w4.heap.size, 0, none⟩ 1 1 [.string s] rfl rfl (cell_one_new _ _ _) (fun x hx => by simp at hx; subst hx; rfl) (by unfold maxLen; omega) (by omega) (by rw [World.size_alloc]; exact Nat.le_succ_of_le HB0.out.size) ?_; intro v3 w5 hown3 hgrow3 hnil3
             have HB5 := Lib.hid (below_grown (HB0.out.alloc HB0.out.size (.cells #[.string s] 9)) (by rw [World.size_alloc]; exact Nat.le_succ_of_le HB0.out.size) hgrow3 (fun k hk => (hown0.lt k hk).1))
             obtain ⟨g3, c3, rfl⟩ := slice_of hown3 (by intro hh; have := (hnil3.1 hh).2; omega)
             have HO3 := Lib.hid hown3
             clear hgrow3 hnil3 hown3))
        refine (rl_set (HR.out.below HB5.out) HK.out a b HH.out g3 c3 1 [s] rfl (by omega) (row_low HO3.out (by have := HLT.out; omega))).mono ?_
        rintro e w' ⟨rfl, h6, ho6⟩
        have H6 := Lib.hid h6
        have HO6 := Lib.hid ((Only.of_below HB5.out).trans ho6)
        clear h6 ho6
        go_wp2_with fail
        go_ret
        exact ⟨rfl, H6.out, HO6.out⟩
      · have HNEW : Hid (∀ j u, (txt q)[j]? = some u → (w.alloc (.cells #[] 9)).cell? ((⟨g, 0, none⟩ : Addr).add j) = some u) := Lib.hid (World.ownsRow.cells (row_below HV.out HB0.out) rfl)
        clear hcs
        have hql : (q.length : Int) < 32 := by have := HL.out; omega
        go_enter Try.func12, Try.ntmps12
        go_wp2_with fail
        refine (HRI.out).mono ?_
        rintro e w' ⟨rfl, rfl⟩
        go_wp2_with fail
        refine (HON.out).mono ?_
        rintro e w' ⟨rfl, rfl⟩
        go_wp2_with (first
          | (at_builtin; refine wpList_append_own _ rfl _ _ 41 rfl w.heap.size 9 i0 (.string ByteArray.empty) 1 16 Try.underlying41 hi0 hz0 hz1 hz2 rfl (by decide) _ _ _ rfl hown0 ⟨g, 0, none⟩ q.length cap (txt q) rfl (by rw [txt_length, Nat.mul_one]) HNEW.out (fun x hx => txt_one hx) (by have := HL.out; unfold maxLen; omega) (by have := HL.out; omega) HB0.out.size ?_; intro v2 w4 hown2 hgrow2 hnil2
             have HB4 := Lib.hid (below_grown HB0.out HB0.out.size hgrow2 (fun k hk => (hown0.lt k hk).1))
             have HN2 : Hid (v2 ≠ .slice none 0 0) := Lib.hid (by intro hh; cases (hnil2.1 hh).1)
             rw [List.nil_append, Nat.zero_add] at hown2
             have HO2 := Lib.hid hown2
             clear hgrow2 hnil2 hown2)
          | (at_builtin; refine wpList_append_own _ rfl _ _ 41 rfl w.heap.size 9 i0 (.string ByteArray.empty) 1 16 Try.underlying41 hi0 hz0 hz1 hz2 rfl (by decide) _ _ _ rfl (HO2.out.alloc _) ⟨w4.heap.size, 0, none⟩ 1 1 [.string s] rfl rfl (cell_one_new _ _ _) (fun x hx => by simp at hx; subst hx; rfl) (by have := HL.out; unfold maxLen; omega) (by have := HL.out; omega) (by rw [World.size_alloc]; exact Nat.le_succ_of_le HB4.out.size) ?_; intro v3 w5 hown3 hgrow3 hnil3
             have HB5 := Lib.hid (below_grown (HB4.out.alloc HB4.out.size (.cells #[.string s] 9)) (by rw [World.size_alloc]; exact Nat.le_succ_of_le HB4.out.size) hgrow3 (fun k hk => (HO2.out.lt k hk).1))
             obtain ⟨g3, c3, rfl⟩ := slice_of hown3 (by intro hh; have := (hnil3.1 hh).2; omega)
             have HO3 := Lib.hid hown3
             clear hgrow3 hnil3 hown3))
        refine (rl_set (HR.out.below HB5.out) HK.out a b HH.out g3 c3 (q.length + 1) (q ++ [s]) (by simp) (by have := HL.out; omega) (by rw [txt_append]; exact row_low HO3.out (by have := HLT.out; omega))).mono ?_
        rintro e w' ⟨rfl, h6, ho6⟩
        have H6 := Lib.hid h6
        have HO6 := Lib.hid ((Only.of_below HB5.out).trans ho6)
        clear h6 ho6
        go_wp2_with fail
        go_ret
        exact ⟨rfl, H6.out, HO6.out⟩
    · have HE : Hid (sendOut n L a b = 11 ∧ sendL n L a b s = L) := Lib.hid ⟨by unfold sendOut; rw [if_pos hr, if_neg hlt], by unfold sendL; rw [if_neg (fun h => hlt h.2)]⟩
      rw [HE.out.1, HE.out.2]
      have HL : Hid ((L a b).length = 32) := Lib.hid (by have := HV32.out; omega)
      clear HE hr hlt HV32
      obtain ⟨_, h0⟩ | ⟨g, cap, rfl, _, _⟩ := reads_len HV.out
      · have := HL.out; rw [h0] at this; simp at this
      rw [HL.out] at HON
      go_enter Try.func12, Try.ntmps12
      go_wp2_with fail
      refine (HRI.out).mono ?_
      rintro e w' ⟨rfl, rfl⟩
      go_wp2_with fail
      refine (HON.out).mono ?_
      rintro e w' ⟨rfl, rfl⟩
      go_wp2_with fail
      go_ret
      exact ⟨rfl, HR.out.more (by omega), Only.refl _ _⟩
  · rw [decide_eq_false hr] at HRI
    have HE : Hid (sendOut n L a b = 1 ∧ sendL n L a b s = L) := Lib.hid ⟨by unfold sendOut; rw [if_neg hr], by unfold sendL; rw [if_neg (fun h => hr h.1)]⟩
    rw [HE.out.1, HE.out.2]
    clear HE hr
    go_enter Try.func12, Try.ntmps12
    go_wp2_with fail
    refine (HRI.out).mono ?_
    rintro e w' ⟨rfl, rfl⟩
    go_wp2_with fail
    go_ret
    exact ⟨rfl, HR.out.more (by omega), Only.refl _ _⟩

end Go.Proofs.Ytbkgnkiimnlbcaa
