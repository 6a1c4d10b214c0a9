/- The walk of the law LaneOrder: it returns true and writes only blocks of its own. No condition. -/
import Derived.Test.YtbkgnkiimnlbcaaPick
namespace Go.Proofs.Ytbkgnkiimnlbcaa
open Go.RowKit Go.Deep Go.Conc

theorem clamp7 : clamp 7 = 7 := by unfold clamp; omega
/-- A number turned to a place among n. -/
theorem place' (x : Int) (n : Int) (h0 : 0 < n) (h1 : n ≤ 40) : ∃ k : Int, 0 ≤ k ∧ k < n ∧ wrap64 ((IntKind.u64.wrap x).tmod n) = k := by
  have hw : 0 ≤ IntKind.u64.wrap x := by simp [IntKind.wrap, IntKind.bits, IntKind.signed]; omega
  rw [Int.tmod_eq_emod_of_nonneg hw]
  have a1 := Int.emod_nonneg (IntKind.u64.wrap x) (b := n) (by omega)
  have a2 := Int.emod_lt_of_pos (IntKind.u64.wrap x) (b := n) (by omega)
  refine ⟨IntKind.u64.wrap x % n, by omega, by omega, ?_⟩
  unfold wrap64; omega

/-- The texts that were sent, in a row of the law's own. -/
def Sent (w : World) (hi : Nat) (T : Nat → ByteArray) (n : Nat) (v : Value) : Prop := ∃ g cap, v = .slice (some ⟨g, 0, none⟩) n cap ∧ w.ownsRow hi 9 1 v n (vals T n)
theorem Sent.own {w : World} {hi n g cap : Nat} {T : Nat → ByteArray} (h : w.ownsRow hi 9 1 (.slice (some ⟨g, 0, none⟩) n cap) n (vals T n)) : Own w hi g T n := by
  have hl : hi ≤ g := (h.lt g rfl).1
  refine ⟨hl, fun i hin => ?_⟩
  have hc := World.ownsRow.cells h (g := g) rfl i (.string (T i)) (by simp [vals, texts, hin])
  simpa [add_at] using hc
theorem row_mid {w w' : World} {lo hi n : Nat} {v : Value} {xs : List Value} (h : w.ownsRow hi 9 1 v n xs) (hm : Mid lo hi w w') : w'.ownsRow hi 9 1 v n xs := by
  obtain ⟨h1, h2 | ⟨g, cap, cur, rfl, hb, hg, rest⟩⟩ := h
  · exact ⟨h1, .inl h2⟩
  · exact ⟨h1, .inr ⟨g, cap, cur, rfl, hb, by rw [hm.block g (Array.getElem?_eq_some_iff.1 hg).1 (.inr hb)]; exact hg, rest⟩⟩
theorem sent_of {w : World} {hi n : Nat} {v : Value} {T : Nat → ByteArray} (h : w.ownsRow hi 9 1 v (n + 1) (vals T (n + 1))) : Sent w hi T (n + 1) v := by
  obtain ⟨g, cap, rfl, _⟩ := own_of h
  exact ⟨g, cap, rfl, h⟩
theorem vals_succ (T : Nat → ByteArray) (n : Nat) : vals T n ++ [Value.string (T n)] = vals T (n + 1) := by unfold vals; rw [texts_succ, List.map_append]; rfl

/-- A text sent to a full lane. -/
theorem send_over {n : Int} {L : Lanes} {a b : Int} {s : ByteArray} (hr : right n a b) (h : (L a b).length = 32) : sendOut n L a b = 11 ∧ sendL n L a b s = L := by
  refine ⟨?_, ?_⟩
  · unfold sendOut; rw [if_pos hr, if_neg (by omega)]
  · unfold sendL; rw [if_neg (by omega)]
/-- All lanes but one are empty. -/
def Alone (L : Lanes) (a b : Int) : Prop := ∀ x y, ¬ (x = a ∧ y = b) → L x y = []
theorem Alone.send {n : Int} {L : Lanes} {a b : Int} (h : Alone L a b) (s : ByteArray) : Alone (sendL n L a b s) a b := fun x y hxy => by rw [send_far n L hxy, h x y hxy]

set_option maxRecDepth 100000 in
set_option maxHeartbeats 4000000 in
theorem order_any (a : Option Addr) (bt ot ln cn : Nat) (T : Nat → ByteArray) (fr tt : Int) (w : World)
    (ha : ln = 0 ∨ a = some ⟨bt, ot, none⟩ ∧ bt < w.heap.size) (hT : ∀ i, i < ln → w.cell? ⟨bt, ot + i, none⟩ = some (.string (T i))) :
    Calls Try.prog 4 #[.slice a ln cn, .int .i64 fr, .int .i64 tt] w fun e w' => e = .returned (.bool true) ∧ Below w.heap.size w w' := by
  have HA := Lib.hid ha
  have HT := Lib.hid hT
  clear ha hT
  obtain ⟨f, hf0, hf7, ef⟩ := place' fr 7 (by omega) (by omega)
  obtain ⟨d, hd0, hd6, ed⟩ := place' tt 6 (by omega) (by omega)
  go_enter Try.func4, Try.ntmps4
  go_wp2_with fail
  refine (awake_any _).mono ?_
  rintro e w1 ⟨rfl, hb1⟩
  have B1 := Lib.hid hb1
  clear hb1
  go_wp2_with fail
  refine (nt_new 7 w1).mono ?_
  rintro e w2 ⟨rfl, hn2, hb2⟩
  rw [clamp7] at hn2
  have O2 := On.start B1.out hn2 hb2
  clear hn2 hb2
  generalize w1.heap.size + 1 = p at *
  generalize w1.heap.size = lo at *
  generalize w2.heap.size = hi at *
  go_wp2_with fail
  have hR : right 7 (1 + f) (1 + (1 + f + d) % 7) := by unfold right; omega
  have hlo2 := Nat.le_trans (Nat.le_refl hi) O2.nt.low
  have hown0 : (w2.alloc (.cells #[] 9)).ownsRow hi 9 1 (.slice (some ⟨w2.heap.size, 0, none⟩) 0 0) 0 [] := World.ownsRow_made w2 #[] 0 hlo2 (by unfold maxLen; omega) rfl
  have hO1 := Lib.hid (O2.more ((Below.refl w2.heap.size w2).alloc (Nat.le_refl _) (.cells #[] 9)))
  clear O2 hlo2 ef ed
  generalize (1 + (1 + f + d) % 7) = t at *
  generalize 1 + f = s at *
  have HR := Lib.hid hR
  clear hR hf0 hf7 hd0 hd6
  generalize hw3 : w2.alloc (.cells #[] 9) = w3 at *
  clear hw3
  go_loopw [9, 8] (fun i v wr => ∃ (k : Nat) (L : Lanes), k ≤ ln ∧ k ≤ 60 ∧ i = .int .i64 k ∧ On w.heap.size w wr p lo hi 7 L ∧ Sent wr hi T (min k 32) v ∧ L s t = texts T (min k 32) ∧ Alone L s t) (fun i _ _ => 60 - (intOf i).toNat)
  case atStart => exact ⟨0, _, by omega, by omega, rfl, hO1.out, ⟨_, _, rfl, hown0⟩, rfl, fun _ _ _ => rfl⟩
  case round =>
    clear hO1 hown0
    obtain ⟨k, L, hk, hk60, rfl, hon, ⟨g, cap, rfl, hown⟩, hL, hA⟩ := hrel
    have HK := Lib.hid hk
    have HK6 := Lib.hid hk60
    have HON := Lib.hid hon
    have HOWN := Lib.hid hown
    have HAL := Lib.hid hA
    clear hk hk60 hon hown hA
    by_cases hlt : k < ln ∧ k < 60
    · obtain ⟨hlt, h60⟩ := hlt
      obtain ⟨rfl, hbt⟩ := HA.out.resolve_left (by omega)
      have c1 := HT.out k hlt
      rw [← HON.out.below.cell (p := ⟨bt, ot + k, none⟩) hbt] at c1
      have hw1 : IntKind.i64.wrap ((k : Int) + 1) = ((k + 1 : Nat) : Int) := by rw [wrap_small _ (by omega) (by omega)]; omega
      by_cases hbig : 4096 < (T k).size
      · go_wp2_with fail
        go_ret
        exact ⟨rfl, HON.out.below⟩
      · have hs := Lib.hid (nt_send HON.out.nt s t (T k))
        have HA2 := Lib.hid (HAL.out.send (n := 7) (T k))
        by_cases h32 : k < 32
        · rw [show min k 32 = k from by omega] at *
          obtain ⟨s1, s2⟩ := send_texts HR.out hL h32
          rw [s1] at hs
          have S2 := Lib.hid s2
          clear s1 s2
          go_wp2_with fail
          refine (hs.out).mono ?_
          rintro e w4 ⟨rfl, hn4, hm4⟩
          have O4 := Lib.hid (HON.out.step hn4 hm4)
          have W4 := Lib.hid (row_mid HOWN.out hm4)
          have c2 : w4.cell? ⟨bt, ot + k, none⟩ = some (.string (T k)) := by rw [O4.out.below.cell (p := ⟨bt, ot + k, none⟩) hbt]; exact HT.out k hlt
          clear hn4 hm4 c1
          have hlo4 := Lib.hid O4.out.nt.low
          obtain ⟨i0, hi0, hz0, hz1, hz2⟩ := info9
          go_wp2_with (first
            | (at_builtin; refine wpList_append_own _ rfl _ _ 41 rfl hi 9 i0 (.string ByteArray.empty) 1 16 Try.underlying41 hi0 hz0 hz1 hz2 rfl (by decide) _ _ _ rfl (W4.out.alloc _) ⟨w4.heap.size, 0, none⟩ 1 1 [.string (T k)] rfl rfl (cell_one_new _ _ _) (fun x hx => by simp at hx; subst hx; rfl) (by unfold maxLen; omega) (by omega) (by rw [World.size_alloc]; exact Nat.le_succ_of_le hlo4.out) ?_; intro v3 w5 hown3 hgrow3 hnil3
               have hO5 := Lib.hid ((O4.out.more ((Below.refl w4.heap.size w4).alloc (Nat.le_refl _) (.cells #[.string (T k)] 9))).grown hgrow3 (fun k hk => (W4.out.lt k hk).1))
               clear hgrow3 hnil3
               rw [vals_succ] at hown3
               have HS5 := Lib.hid (sent_of hown3)
               clear hown3))
          clear hi0 hz0 hz1 hz2
          go_roundw
          case rel => exact ⟨k + 1, _, hlt, h60, rfl, hO5.out, by rw [show min (k + 1) 32 = k + 1 from by omega]; exact HS5.out, by rw [show min (k + 1) 32 = k + 1 from by omega]; exact S2.out, HA2.out⟩
          case measure => simp [intOf]; omega
        · rw [show min k 32 = 32 from by omega] at *
          obtain ⟨s1, s2⟩ := send_over (L := L) (s := T k) HR.out (by rw [hL, texts_length])
          rw [s1] at hs
          have S2 := Lib.hid s2
          clear s1 s2
          go_wp2_with fail
          refine (hs.out).mono ?_
          rintro e w4 ⟨rfl, hn4, hm4⟩
          have O4 := Lib.hid (HON.out.step hn4 hm4)
          have W4 := Lib.hid (row_mid HOWN.out hm4)
          clear hn4 hm4 c1
          go_wp2_with fail
          go_roundw
          case rel => exact ⟨k + 1, _, hlt, h60, rfl, O4.out, by rw [show min (k + 1) 32 = 32 from by omega]; exact ⟨g, cap, rfl, W4.out⟩, by rw [show min (k + 1) 32 = 32 from by omega, S2.out]; exact hL, HA2.out⟩
          case measure => simp [intOf]; omega
    · generalize hm : min k 32 = m at *
      have HM : Hid (m ≤ 32) := Lib.hid (by omega)
      have HL := Lib.hid hL
      clear hm hL
      have hor : (k < ln ∧ ¬ k < 60) ∨ ¬ k < ln := by omega
      clear hlt
      rcases hor with ⟨hx, hy⟩ | hx
      all_goals
        go_wp2_with fail
        go_loop [11] (fun i => ∃ x : Nat, 1 ≤ x ∧ x ≤ 8 ∧ i = .int .i64 x) (fun i => 8 - (intOf i).toNat)
        case atStart => exact ⟨1, by omega, by omega, rfl⟩
        case round =>
          obtain ⟨x, hx1, hx8, rfl⟩ := hrel
          by_cases hlx : x ≤ 7
          · have hw1 : IntKind.i64.wrap ((x : Int) + 1) = ((x + 1 : Nat) : Int) := by rw [wrap_small _ (by omega) (by omega)]; omega
            go_wp2_with fail
            go_loop [12] (fun i => ∃ y : Nat, 1 ≤ y ∧ y ≤ 8 ∧ i = .int .i64 y) (fun i => 8 - (intOf i).toNat)
            case atStart => exact ⟨1, by omega, by omega, rfl⟩
            case round =>
              obtain ⟨y, hy1, hy8, rfl⟩ := hrel
              by_cases hly : y ≤ 7
              · have hw2 : IntKind.i64.wrap ((y : Int) + 1) = ((y + 1 : Nat) : Int) := by rw [wrap_small _ (by omega) (by omega)]; omega
                by_cases hxs : (x : Int) = s
                · by_cases hyt : (y : Int) = t
                  · have e1 : (((x : Int) != s)) = false := by simpa using hxs
                    have e2 : (((y : Int) != t)) = false := by simpa using hyt
                    go_wp2_with fail
                    go_round
                    case rel => exact ⟨y + 1, by omega, by omega, congrArg (Value.int .i64) (by omega)⟩
                    case measure => simp [intOf]; omega
                  · have e1 : (((x : Int) != s)) = false := by simpa using hxs
                    have e2 : (((y : Int) != t)) = true := by simpa using hyt
                    have hlen := Lib.hid (nt_len HON.out.nt x y)
                    rw [HAL.out x y (fun h => hyt h.2)] at hlen
                    have HXS := Lib.hid hxs
                    have HYT := Lib.hid hyt
                    clear hxs hyt
                    go_wp2_with fail
                    refine (hlen.out).mono ?_
                    rintro e w4 ⟨rfl, rfl⟩
                    go_wp2_with fail
                    go_round
                    case rel => exact ⟨y + 1, by omega, by omega, rfl⟩
                    case measure => simp [intOf]; omega
                · have e1 : (((x : Int) != s)) = true := by simpa using hxs
                  have hlen := Lib.hid (nt_len HON.out.nt x y)
                  rw [HAL.out x y (fun h => hxs h.1)] at hlen
                  have HXS := Lib.hid hxs
                  clear hxs
                  go_wp2_with fail
                  refine (hlen.out).mono ?_
                  rintro e w4 ⟨rfl, rfl⟩
                  go_wp2_with fail
                  go_round
                  case rel => exact ⟨y + 1, by omega, by omega, rfl⟩
                  case measure => simp [intOf]; omega
              · go_wp2_with fail
                go_round
                case rel => exact ⟨x + 1, by omega, by omega, rfl⟩
                case measure => simp [intOf]; omega
          · go_wp2_with fail
            clear hx HAL
            have HOW := Lib.hid (Sent.own HOWN.out)
            go_loopw [13] (fun i wv => ∃ (j : Nat) (M : Lanes), j ≤ m ∧ i = .int .i64 j ∧ On w.heap.size w wv p lo hi 7 M ∧ Own wv hi g T m ∧ M s t = (texts T m).drop j) (fun i _ => m - (intOf i).toNat)
            case atStart => exact ⟨0, L, by omega, rfl, HON.out, HOW.out, HL.out⟩
            case round =>
              clear HOWN HON HL HOW HK HK6
              obtain ⟨j, M, hj, rfl, hon, hown, hM⟩ := hrel
              have HJ := Lib.hid hj
              have HON := Lib.hid hon
              have HOWN := Lib.hid hown
              clear hj hon hown
              by_cases hlt : j < m
              · have hw1 : IntKind.i64.wrap ((j : Int) + 1) = ((j + 1 : Nat) : Int) := by rw [wrap_small _ (by omega) (by have := HM.out; omega)]; omega
                have hlt' : (j : Int) < (m : Int) := by omega
                rw [texts_drop T hlt] at hM
                obtain ⟨t1, t2, t3⟩ := take_front hM
                have hs := Lib.hid (nt_take HON.out.nt s t 0)
                rw [t1, t2] at hs
                have T3 := Lib.hid t3
                clear t1 t2 t3 hM
                go_wp2_with fail
                refine (hs.out).mono ?_
                rintro e w8 ⟨rfl, hn8, hm8⟩
                have O8 := Lib.hid (HON.out.step hn8 hm8)
                have W8 := Lib.hid (HOWN.out.mid hm8)
                have c8 := W8.out.cell j hlt
                have hlen := Lib.hid (nt_len O8.out.nt s t)
                rw [T3.out, List.length_drop, texts_length, show ((m - (j + 1) : Nat) : Int) = (m : Int) - 1 - j from by omega] at hlen
                have hm0 : (0 : Int) ≤ (m : Int) - 1 := by omega
                have hm1 : (0 : Int) ≤ (m : Int) - 1 - j := by omega
                have hm2 : (m : Int) ≤ 32 := by have := HM.out; omega
                clear hn8 hm8
                generalize T j = X at *
                go_wp2_with fail
                refine (hlen.out).mono ?_
                rintro e w9 ⟨rfl, rfl⟩
                go_wp2_with fail
                go_roundw
                case rel => exact ⟨j + 1, _, hlt, rfl, O8.out, W8.out, T3.out⟩
                case measure => simp [intOf]; omega
              · obtain rfl : j = m := by have := HJ.out; omega
                rw [List.drop_eq_nil_of_le (by rw [texts_length]; exact Nat.le_refl _)] at hM
                have hs := Lib.hid (nt_take HON.out.nt s t 0)
                rw [show takeText M s t 0 = nul from by unfold takeText got; rw [hM]; rfl, show takeIs M s t 0 = false from by unfold takeIs was; rw [hM]; rfl] at hs
                clear hM
                go_wp2_with fail
                refine (hs.out).mono ?_
                rintro e w8 ⟨rfl, hn8, hm8⟩
                have O8 := Lib.hid (HON.out.step hn8 hm8)
                clear hn8 hm8
                go_wp2_with fail
                refine (nil_take 1 2 0 w8).mono ?_
                rintro e w9 ⟨rfl, hb9⟩
                have O9 := Lib.hid (O8.out.more hb9)
                clear hb9
                go_wp2_with fail
                refine (send_nil 1 2 _ w9).mono ?_
                rintro e w10 ⟨rfl, rfl⟩
                go_wp2_with fail
                refine (nodes_nil w9).mono ?_
                rintro e w10 ⟨rfl, rfl⟩
                go_wp2_with fail
                refine (len_nil 1 2 w9).mono ?_
                rintro e w10 ⟨rfl, rfl⟩
                go_wp2_with fail
                refine (nil_twice 1 2 0 w9).mono ?_
                rintro e w10 ⟨rfl, hb10⟩
                have O10 := Lib.hid (O9.out.more hb10)
                clear hb10
                go_wp2_with fail
                go_ret
                exact ⟨rfl, O10.out.below⟩

end Go.Proofs.Ytbkgnkiimnlbcaa
