/- The walk of the law LanePick: it returns true and writes only blocks of its own. No condition. -/
import Derived.Test.YtbkgnkiimnlbcaaApart
namespace Go.Proofs.Ytbkgnkiimnlbcaa
open Go.RowKit Go.Deep Go.Conc

theorem clamp2 : clamp 2 = 2 := by unfold clamp; omega
theorem r21 : right 2 2 1 := by unfold right; omega

theorem info9 : ∃ i : TypeInfo, Try.prog.info? 9 = some i ∧ i.zero = some (.string ByteArray.empty) ∧ i.size = 1 ∧ i.bytes = 16 := ⟨Try.t9, by kernel_rfl, by kernel_rfl, by kernel_rfl, by kernel_rfl⟩
theorem add_at (b off k : Nat) : (⟨b, off, none⟩ : Addr).add k = ⟨b, off + k, none⟩ := by unfold Addr.add; split <;> simp_all
/-- The texts as values. -/
def vals (T : Nat → ByteArray) (n : Nat) : List Value := (texts T n).map Value.string
theorem vals_length (T : Nat → ByteArray) (n : Nat) : (vals T n).length = n := by simp [vals, texts]
theorem vals_get {T : Nat → ByteArray} {n j : Nat} {u : Value} (h : (vals T n)[j]? = some u) : j < n ∧ u = .string (T j) := by
  have hj : j < n := by
    have := (List.getElem?_eq_some_iff.1 h).1
    rwa [vals_length] at this
  refine ⟨hj, ?_⟩
  simp only [vals, texts, List.map_map, List.getElem?_map, List.getElem?_range hj, Option.map_some, Function.comp, Option.some.injEq] at h
  exact h.symm

theorem On.grown {B : Nat} {w wr w' : World} {p lo hi : Nat} {n : Int} {L : Lanes} {row : Option Nat} (h : On B w wr p lo hi n L) (hg : wr.grownBy w' row) (hrow : ∀ k, row = some k → hi ≤ k) : On B w w' p lo hi n L := by
  have hs := h.nt.low
  have hm := h.mid
  refine ⟨?_, h.below.trans ⟨hg.os, hg.tape, hg.output, hg.size, fun k hk => hg.block k (by have := h.low; omega) (fun e => by have := hrow k e.symm; have := h.low; omega)⟩, h.low, h.mid⟩
  obtain ⟨l, Q, hn, h1, h2⟩ := h.nt
  exact ⟨l, Q, hn.below (fun k hk => hg.block k (by omega) (fun e => by have := hrow k e.symm; omega)) hg.size, h1, h2⟩

/-- The texts with one of them once more. -/
def more (T : Nat → ByteArray) (n k : Nat) (i : Nat) : ByteArray := if i < n then T i else T k
theorem texts_more (T : Nat → ByteArray) (n k : Nat) : texts (more T n k) (n + 1) = texts T n ++ [T k] := by
  rw [texts_succ]
  congr 1
  · unfold texts more
    refine List.map_congr_left fun i hi => ?_
    rw [if_pos (List.mem_range.1 hi)]
  · unfold more; rw [if_neg (Nat.lt_irrefl n)]
theorem twice_texts {L : Lanes} {a b : Int} {T : Nat → ByteArray} {n k : Nat} (h : L a b = texts T n) (hk : k < n) (hn : n < 32) : twiceOut L a b k = true ∧ twiceL L a b k a b = texts (more T n k) (n + 1) := by
  have e : twiceOut L a b k = true := by
    unfold twiceOut takeIs was
    rw [h, texts_length, decide_eq_true (by omega), decide_eq_true hn]; rfl
  refine ⟨e, ?_⟩
  unfold twiceL
  rw [e, if_pos rfl, updL_same, texts_more, h]
  congr 2
  unfold takeText got
  rw [h, texts_length, if_pos (by omega), Int.toNat_natCast]
  simp [texts, hk]
theorem take_texts {L : Lanes} {a b : Int} {T : Nat → ByteArray} {n k : Nat} (h : L a b = texts T n) (hk : k < n) : takeText L a b k = T k ∧ takeIs L a b k = true ∧ takeL L a b k a b = (texts T n).eraseIdx k := by
  refine ⟨?_, ?_, ?_⟩
  · unfold takeText got
    rw [h, texts_length, if_pos (by omega), Int.toNat_natCast]
    simp [texts, hk]
  · unfold takeIs was
    rw [h, texts_length]; exact decide_eq_true (by omega)
  · unfold takeL
    rw [updL_same, h, left_nat]
/-- What is still on the lane at the head of round j. -/
def rest (V : Nat → ByteArray) (n p j : Nat) : List ByteArray := if j ≤ p then ((texts V n).eraseIdx p).drop j else (texts V n).drop j
theorem rest_start {V : Nat → ByteArray} {n p : Nat} : rest V n p 0 = (texts V n).eraseIdx p := by simp [rest]
theorem rest_skip {V : Nat → ByteArray} {n p : Nat} : rest V n p p = rest V n p (p + 1) := by
  unfold rest
  rw [if_pos (Nat.le_refl _), if_neg (by omega), List.eraseIdx_eq_take_drop_succ, List.drop_append]
  by_cases h : p ≤ (texts V n).length
  · rw [List.drop_eq_nil_of_le (by rw [List.length_take]; omega), List.length_take, Nat.min_eq_left h, Nat.sub_self, List.drop_zero, List.nil_append]
  · rw [List.drop_eq_nil_of_le (by rw [List.length_take]; omega), List.drop_eq_nil_of_le (by rw [List.length_drop]; omega), List.drop_eq_nil_of_le (by omega), List.nil_append]
theorem rest_next {V : Nat → ByteArray} {n p j : Nat} (h : j < n) (hne : j ≠ p) (hp : p < n) : rest V n p j = V j :: rest V n p (j + 1) := by
  unfold rest
  by_cases h1 : j < p
  · have hl : j < ((texts V n).eraseIdx p).length := by rw [List.length_eraseIdx]; rw [texts_length]; split <;> omega
    rw [if_pos (by omega), if_pos (by omega), List.drop_eq_getElem_cons hl, List.getElem_eraseIdx_of_lt _ h1]
    simp [texts]
  · rw [if_neg (by omega), if_neg (by omega), texts_drop V h]
theorem rest_end {V : Nat → ByteArray} {n p : Nat} (hp : p < n) : rest V n p n = [] := by
  unfold rest
  rw [if_neg (by omega), List.drop_eq_nil_of_le (by rw [texts_length]; omega)]
/-- A row of texts of the law's own, behind the net. -/
structure Own (w : World) (hi g : Nat) (T : Nat → ByteArray) (n : Nat) : Prop where
  low : hi ≤ g
  cell : ∀ i, i < n → w.cell? ⟨g, i, none⟩ = some (.string (T i))
theorem own_of {w : World} {hi n : Nat} {v : Value} {T : Nat → ByteArray} (h : w.ownsRow hi 9 1 v (n + 1) (vals T (n + 1))) : ∃ g cap, v = .slice (some ⟨g, 0, none⟩) (n + 1) cap ∧ Own w hi g T (n + 1) := by
  obtain ⟨h1, ⟨_, h2⟩ | ⟨g, cap, cur, rfl, hb, hg, rest⟩⟩ := h
  · exact absurd h2 (by omega)
  · refine ⟨g, cap, rfl, hb, fun i hin => ?_⟩
    have hc := World.ownsRow.cells (w := w) (base := hi) (e := 9) (size := 1) (v := .slice (some ⟨g, 0, none⟩) (n + 1) cap) (n := n + 1) (xs := vals T (n + 1)) ⟨h1, .inr ⟨g, cap, cur, rfl, hb, hg, rest⟩⟩ (g := g) rfl i (.string (T i)) (by simp [vals, texts, hin])
    simpa [add_at] using hc
theorem Own.mid {w w' : World} {lo hi g n : Nat} {T : Nat → ByteArray} (h : Own w hi g T n) (hm : Mid lo hi w w') : Own w' hi g T n := by
  refine ⟨h.low, fun i hi => ?_⟩
  have hc := h.cell i hi
  rw [World.cell?_of_block (hm.block g (World.block_lt_of_cell? w _ hc) (.inr h.low))]
  exact hc

/-- The place of a number in a row of n. -/
theorem place (x : Int) (n : Nat) (h0 : 0 < n) (h1 : n ≤ 40) : ∃ k : Nat, k < n ∧ wrap64 ((IntKind.u64.wrap x).tmod n) = k := by
  have hw : 0 ≤ IntKind.u64.wrap x := by simp [IntKind.wrap, IntKind.bits, IntKind.signed]; omega
  rw [Int.tmod_eq_emod_of_nonneg hw]
  have a1 := Int.emod_nonneg (IntKind.u64.wrap x) (b := (n : Int)) (by omega)
  have a2 := Int.emod_lt_of_pos (IntKind.u64.wrap x) (b := (n : Int)) (by omega)
  refine ⟨(IntKind.u64.wrap x % n).toNat, by omega, ?_⟩
  unfold wrap64; omega

set_option maxRecDepth 100000 in
set_option maxHeartbeats 4000000 in
theorem pick_any (a : Option Addr) (bt ot ln cn : Nat) (T : Nat → ByteArray) (at_ tw : Int) (w : World)
    (ha : ln = 0 ∨ a = some ⟨bt, ot, none⟩ ∧ bt < w.heap.size) (hT : ∀ i, i < ln → w.cell? ⟨bt, ot + i, none⟩ = some (.string (T i))) :
    Calls Try.prog 5 #[.slice a ln cn, .int .i64 at_, .int .i64 tw] w fun e w' => e = .returned (.bool true) ∧ Below w.heap.size w w' := by
  have HA := Lib.hid ha
  have HT := Lib.hid hT
  clear ha hT
  go_enter Try.func5, Try.ntmps5
  go_wp2_with fail
  refine (awake_any _).mono ?_
  rintro e w1 ⟨rfl, hb1⟩
  have B1 := Lib.hid hb1
  clear hb1
  by_cases h0 : ln = 0
  · subst h0
    go_wp2_with fail
    go_ret
    exact ⟨rfl, B1.out⟩
  by_cases h31 : 31 < ln
  · go_wp2_with fail
    go_ret
    exact ⟨rfl, B1.out⟩
  have e0 : ((ln : Int) == 0) = false := by simpa using h0
  obtain ⟨rfl, hbt⟩ := HA.out.resolve_left h0
  clear HA
  go_wp2_with fail
  refine (nt_new 2 w1).mono ?_
  rintro e w2 ⟨rfl, hn2, hb2⟩
  rw [clamp2] at hn2
  have R21 : right 2 2 1 := r21
  have O2 := On.start B1.out hn2 hb2
  clear hn2 hb2
  have HLN : Hid (ln ≤ 31) := Lib.hid (by omega)
  have HLP : Hid (0 < ln) := Lib.hid (by omega)
  clear h31 h0
  generalize w1.heap.size + 1 = p at *
  generalize w1.heap.size = lo at *
  generalize w2.heap.size = hi at *
  go_wp2_with fail
  go_loopw [8] (fun i wr => ∃ (k : Nat) (L : Lanes), k ≤ ln ∧ i = .int .i64 k ∧ On w.heap.size w wr p lo hi 2 L ∧ L 2 1 = texts T k) (fun i _ => ln - (intOf i).toNat)
  case atStart => exact ⟨0, _, by omega, rfl, O2, rfl⟩
  case round =>
    obtain ⟨k, L, hk, rfl, hon, hL⟩ := hrel
    have HK := Lib.hid hk
    have HON := Lib.hid hon
    clear hk hon
    by_cases hlt : k < ln
    · have c1 := HT.out k hlt
      rw [← HON.out.below.cell (p := ⟨bt, ot + k, none⟩) hbt] at c1
      have hw1 : IntKind.i64.wrap ((k : Int) + 1) = ((k + 1 : Nat) : Int) := by rw [wrap_small _ (by omega) (by have := HLN.out; omega)]; omega
      by_cases hbig : 4096 < (T k).size
      · go_wp2_with fail
        go_ret
        exact ⟨rfl, HON.out.below⟩
      · have hs := Lib.hid (nt_send HON.out.nt 2 1 (T k))
        obtain ⟨s1, s2⟩ := send_texts R21 hL (by have := HLN.out; omega)
        rw [s1] at hs
        have S2 := Lib.hid s2
        clear s1 s2
        go_wp2_with fail
        refine (hs.out).mono ?_
        rintro e w3 ⟨rfl, hn3, hm3⟩
        have O3 := HON.out.step hn3 hm3
        clear hn3 hm3
        go_wp2_with fail
        go_roundw
        case rel => exact ⟨k + 1, _, hlt, rfl, O3, S2.out⟩
        case measure => simp [intOf]; omega
    · obtain rfl : ln = k := by have := HK.out; omega
      have HL := Lib.hid hL
      clear HK hlt hL
      obtain ⟨kk, hkk, ekk⟩ := place tw ln HLP.out (by have := HLN.out; omega)
      have hlo2 := Lib.hid (Nat.le_trans (Nat.le_refl hi) HON.out.nt.low)
      have hown0 : (wr.alloc (.cells #[] 9)).ownsRow hi 9 1 (.slice (some ⟨wr.heap.size, 0, none⟩) 0 0) 0 [] := World.ownsRow_made wr #[] 0 hlo2.out (by unfold maxLen; omega) rfl
      have hO1 := Lib.hid (HON.out.more ((Below.refl wr.heap.size wr).alloc (Nat.le_refl _) (.cells #[] 9)))
      have hsz0 : Hid (hi ≤ (wr.alloc (.cells #[] 9)).heap.size) := Lib.hid (by rw [World.size_alloc]; exact Nat.le_succ_of_le hlo2.out)
      have HK := Lib.hid hkk
      clear hkk
      obtain ⟨i0, hi0, hz0, hz1, hz2⟩ := info9
      have hnews : ∀ j u, (vals T ln)[j]? = some u → (wr.alloc (.cells #[] 9)).cell? ((⟨bt, ot, none⟩ : Addr).add j) = some u := fun j u hu => by
        obtain ⟨hj, rfl⟩ := vals_get hu
        rw [add_at, hO1.out.below.cell (p := ⟨bt, ot + j, none⟩) hbt]
        exact HT.out j hj
      go_wp2_with (first
        | (at_builtin; refine wpList_append_own _ rfl _ _ 41 rfl hi 9 i0 (.string ByteArray.empty) 1 16 Try.underlying41 hi0 hz0 hz1 hz2 rfl (by decide) _ _ _ rfl hown0 ⟨bt, ot, none⟩ ln cn (vals T ln) rfl (by rw [vals_length, Nat.mul_one]) hnews (fun x hx => by unfold vals at hx; obtain ⟨_, _, rfl⟩ := List.mem_map.1 hx; rfl) (by have := HLN.out; unfold maxLen; omega) (by have := HLN.out; omega) hsz0.out ?_; intro v2 w4 hown2 hgrow2 hnil2
           have hO4 := Lib.hid (hO1.out.grown hgrow2 (fun k hk => (hown0.lt k hk).1))
           have c4 : w4.cell? ⟨bt, ot + kk, none⟩ = some (.string (T kk)) := by rw [hO4.out.below.cell (p := ⟨bt, ot + kk, none⟩) hbt]; exact HT.out kk HK.out
           have hkl : ((kk : Int) < (ln : Int)) := by have := HK.out; omega
           have hlo4 := Lib.hid hO4.out.nt.low
           rw [List.nil_append, Nat.zero_add] at hown2
           clear hgrow2 hnil2)
        | (at_builtin; refine wpList_append_own _ rfl _ _ 41 rfl hi 9 i0 (.string ByteArray.empty) 1 16 Try.underlying41 hi0 hz0 hz1 hz2 rfl (by decide) _ _ _ rfl (hown2.alloc _) ⟨w4.heap.size, 0, none⟩ 1 1 [.string (T kk)] rfl rfl (cell_one_new _ _ _) (fun x hx => by simp at hx; subst hx; rfl) (by have := HLN.out; unfold maxLen; omega) (by have := HLN.out; omega) (by rw [World.size_alloc]; exact Nat.le_succ_of_le hlo4.out) ?_; intro v3 w5 hown3 hgrow3 hnil3
           have hO5 := Lib.hid ((hO4.out.more ((Below.refl w4.heap.size w4).alloc (Nat.le_refl _) (.cells #[.string (T kk)] 9))).grown hgrow3 (fun k hk => (hown2.lt k hk).1))
           clear hgrow3 hnil3
           rw [show vals T ln ++ [Value.string (T kk)] = vals (more T ln kk) (ln + 1) from by unfold vals; rw [texts_more, List.map_append]; rfl] at hown3
           obtain ⟨g, cg, rfl, hW⟩ := own_of hown3
           have HW := Lib.hid hW
           clear hown3 hW))
      case isTrue => (exfalso; have := HLP.out; omega)
      obtain ⟨t1, t2⟩ := twice_texts HL.out HK.out (by have := HLN.out; omega)
      have hs := Lib.hid (nt_twice hO5.out.nt 2 1 kk)
      rw [t1] at hs
      have T2 := Lib.hid t2
      clear t1 t2 hown0 hsz0 hnews hown2 hO4 c4 hlo4 hi0 hz0 hz1 hz2
      refine (hs.out).mono ?_
      rintro e w6 ⟨rfl, hn6, hm6⟩
      have O6 := Lib.hid (hO5.out.step hn6 hm6)
      have W6 := Lib.hid (HW.out.mid hm6)
      have hlen := Lib.hid (nt_len O6.out.nt 2 1)
      rw [T2.out, texts_length] at hlen
      clear hn6 hm6 hO5 HW hs
      go_wp2_with fail
      refine (hlen.out).mono ?_
      rintro e w7 ⟨rfl, rfl⟩
      obtain ⟨pp, hpp, epp⟩ := place at_ (ln + 1) (by omega) (by have := HLN.out; omega)
      rw [show ((ln + 1 : Nat) : Int) = (ln : Int) + 1 from by omega] at epp
      have HPP := Lib.hid hpp
      clear hlen
      have htk := Lib.hid (nt_take O6.out.nt 2 1 pp)
      obtain ⟨t1, t2, t3⟩ := take_texts T2.out hpp
      rw [t1, t2] at htk
      have T3 := Lib.hid t3
      clear t1 t2 t3 hpp
      go_wp2_with fail
      refine (htk.out).mono ?_
      rintro e w7 ⟨rfl, hn7, hm7⟩
      have O7 := Lib.hid (O6.out.step hn7 hm7)
      have W7 := Lib.hid (W6.out.mid hm7)
      have c7 := W7.out.cell pp HPP.out
      have hp7 : (pp : Int) < (ln : Int) + 1 := by have := HPP.out; omega
      clear hn7 hm7 O6 W6 htk
      generalize takeL (twiceL L 2 1 kk) 2 1 pp = M0 at *
      generalize more T ln kk = V at *
      generalize V pp = X at *
      go_wp2_with fail
      clear c7 hp7
      go_loopw [14] (fun i wv => ∃ (j : Nat) (M : Lanes), j ≤ ln + 1 ∧ i = .int .i64 j ∧ On w.heap.size w wv p lo hi 2 M ∧ Own wv hi g V (ln + 1) ∧ M 2 1 = rest V (ln + 1) pp j) (fun i _ => ln + 1 - (intOf i).toNat)
      case atStart => exact ⟨0, M0, by omega, rfl, O7.out, W7.out, by rw [T3.out, rest_start]⟩
      case round =>
        clear O7 W7 T3
        obtain ⟨j, M, hj, rfl, hon, hown, hM⟩ := hrel
        have HJ := Lib.hid hj
        have HON := Lib.hid hon
        have HOWN := Lib.hid hown
        have hw1 : IntKind.i64.wrap ((j : Int) + 1) = ((j + 1 : Nat) : Int) := by rw [wrap_small _ (by omega) (by have := HLN.out; omega)]; omega
        clear hj hon hown
        by_cases hlt : j < ln + 1
        · have hlt' : (j : Int) < (ln : Int) + 1 := by omega
          by_cases hjp : j = pp
          · subst hjp
            have HM := Lib.hid (hM.trans rest_skip)
            clear hM
            go_wp2_with fail
            go_roundw
            case rel => exact ⟨j + 1, M, hlt, rfl, HON.out, HOWN.out, HM.out⟩
            case measure => simp [intOf]; omega
          · have hne : ((j : Int) == (pp : Int)) = false := by simp; omega
            rw [rest_next hlt hjp HPP.out] at hM
            obtain ⟨t1, t2, t3⟩ := take_front hM
            have hs := Lib.hid (nt_take HON.out.nt 2 1 0)
            rw [t1, t2] at hs
            have T3 := Lib.hid t3
            clear t1 t2 t3 hM
            go_wp2_with fail
            refine (hs.out).mono ?_
            rintro e w8 ⟨rfl, hn8, hm8⟩
            have O8 := Lib.hid (HON.out.step hn8 hm8)
            have W8 := Lib.hid (HOWN.out.mid hm8)
            have c8 := W8.out.cell j hlt
            clear hn8 hm8
            generalize V j = X at *
            go_wp2_with fail
            go_roundw
            case rel => exact ⟨j + 1, _, hlt, rfl, O8.out, W8.out, T3.out⟩
            case measure => simp [intOf]; omega
        · obtain rfl : j = ln + 1 := by have := HJ.out; omega
          have hlen := Lib.hid (nt_len HON.out.nt 2 1)
          rw [hM, rest_end HPP.out] at hlen
          clear hM
          go_wp2_with fail
          refine (hlen.out).mono ?_
          rintro e w8 ⟨rfl, rfl⟩
          go_wp2_with fail
          go_ret
          exact ⟨rfl, HON.out.below⟩

end Go.Proofs.Ytbkgnkiimnlbcaa
