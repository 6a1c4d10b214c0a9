/- The walk of the law LaneApart: it returns true and writes only blocks of its own. No condition. -/
import Derived.Test.YtbkgnkiimnlbcaaAwake
namespace Go.Proofs.Ytbkgnkiimnlbcaa
open Go.RowKit Go.Deep Go.Conc

/-- The first k texts. -/
def texts (T : Nat → ByteArray) (k : Nat) : List ByteArray := (List.range k).map T
theorem texts_length (T : Nat → ByteArray) (k : Nat) : (texts T k).length = k := by simp [texts]
theorem texts_succ (T : Nat → ByteArray) (k : Nat) : texts T (k + 1) = texts T k ++ [T k] := by simp [texts, List.range_succ]
/-- A text sent to a lane that held the first k ones. -/
theorem send_texts {n : Int} {L : Lanes} {a b : Int} {T : Nat → ByteArray} {k : Nat} (hr : right n a b) (h : L a b = texts T k) (hk : k < 32) : sendOut n L a b = 0 ∧ sendL n L a b (T k) a b = texts T (k + 1) := by
  have hl : (L a b).length < 32 := by rw [h, texts_length]; exact hk
  refine ⟨?_, ?_⟩
  · unfold sendOut; rw [if_pos hr, if_pos hl]
  · unfold sendL; rw [if_pos ⟨hr, hl⟩, updL_same, h, texts_succ]

theorem kept_erase (q : List ByteArray) (n : Nat) : ∀ i, i ≤ q.length → kept q (fun i => decide ((i : Int) ≠ (n : Int))) i = (q.take i).eraseIdx n
  | 0, _ => rfl
  | i + 1, h => by
    have hx : q.take (i + 1) = q.take i ++ [q.getD i { data := #[] }] := by
      rw [List.take_add_one, List.getElem?_eq_getElem (by omega)]
      simp [show i < q.length from by omega]
    have hl : (q.take i).length = i := by rw [List.length_take]; omega
    rw [kept, kept_erase q n i (by omega), hx]
    by_cases h1 : n < i
    · rw [List.eraseIdx_append_of_lt_length (by rw [hl]; exact h1), if_pos (by simp; omega)]
    · rw [List.eraseIdx_append_of_length_le (by rw [hl]; omega), hl, List.eraseIdx_of_length_le (by rw [hl]; omega)]
      by_cases h2 : i = n
      · subst h2; simp
      · rw [if_pos (by simp; omega), List.eraseIdx_of_length_le (by simp; omega)]
theorem left_nat (q : List ByteArray) (n : Nat) : left q (n : Int) = q.eraseIdx n := by
  unfold left
  rw [kept_erase q n _ (Nat.le_refl _), List.take_length]
/-- What comes out of a lane's front. -/
theorem take_front {L : Lanes} {a b : Int} {x : ByteArray} {q : List ByteArray} (h : L a b = x :: q) : takeText L a b 0 = x ∧ takeIs L a b 0 = true ∧ takeL L a b 0 a b = q := by
  refine ⟨?_, ?_, ?_⟩
  · unfold takeText got; rw [h, if_pos (by simp)]; rfl
  · unfold takeIs was; rw [h]; exact decide_eq_true (by simp)
  · unfold takeL; rw [updL_same, h, show (0 : Int) = ((0 : Nat) : Int) from rfl, left_nat]; rfl
theorem texts_drop (T : Nat → ByteArray) {n i : Nat} (h : i < n) : (texts T n).drop i = T i :: (texts T n).drop (i + 1) := by
  rw [List.drop_eq_getElem_cons (by rw [texts_length]; exact h)]
  simp [texts]

/-- The net stands in blocks of the law's own; nothing else turned. -/
structure On (B : Nat) (w wr : World) (p lo hi : Nat) (n : Int) (L : Lanes) : Prop where
  nt : Nt wr p lo hi n L
  below : Below B w wr
  low : B ≤ lo
  mid : lo ≤ hi
theorem On.step {B : Nat} {w wr w' : World} {p lo hi : Nat} {n : Int} {L L' : Lanes} (h : On B w wr p lo hi n L) (hn : Nt w' p lo hi n L') (hm : Mid lo hi wr w') : On B w w' p lo hi n L' :=
  ⟨hn, h.below.trans ((hm.below (Nat.le_trans h.mid h.nt.low)).mono h.low), h.low, h.mid⟩
theorem On.more {B : Nat} {w wr w' : World} {p lo hi : Nat} {n : Int} {L : Lanes} (h : On B w wr p lo hi n L) (hb : Below wr.heap.size wr w') : On B w w' p lo hi n L :=
  ⟨h.nt.mid hb, h.below.trans (hb.mono (Nat.le_trans h.low (Nat.le_trans h.mid h.nt.low))), h.low, h.mid⟩
theorem On.start {w w1 w2 : World} {n : Int} {L : Lanes} (hb1 : Below w.heap.size w w1) (hn : Nt w2 (w1.heap.size + 1) w1.heap.size w2.heap.size n L) (hb2 : Below w1.heap.size w1 w2) : On w.heap.size w w2 (w1.heap.size + 1) w1.heap.size w2.heap.size n L :=
  ⟨hn, hb1.trans (hb2.mono hb1.size), hb1.size, hb2.size⟩

theorem send_far (n : Int) (L : Lanes) {a b x y : Int} (h : ¬ (x = a ∧ y = b)) (s : ByteArray) : sendL n L a b s x y = L x y := by
  unfold sendL
  split
  · exact updL_other L _ h
  · rfl
theorem take_far (L : Lanes) {a b x y : Int} (h : ¬ (x = a ∧ y = b)) (at_ : Int) : takeL L a b at_ x y = L x y := updL_other L _ h
theorem twice_far (L : Lanes) {a b x y : Int} (h : ¬ (x = a ∧ y = b)) (at_ : Int) : twiceL L a b at_ x y = L x y := by
  unfold twiceL
  split
  · exact updL_other L _ h
  · rfl

set_option maxRecDepth 100000 in
set_option maxHeartbeats 4000000 in
theorem apart_any (a : Option Addr) (bt ot ln cn : Nat) (T : Nat → ByteArray) (c : Option Addr) (bx ox lc cc : Nat) (K F O P : Nat → Int) (S : Nat → ByteArray) (w : World)
    (ha : ln = 0 ∨ a = some ⟨bt, ot, none⟩ ∧ bt < w.heap.size) (hT : ∀ i, i < ln → w.cell? ⟨bt, ot + i, none⟩ = some (.string (T i)))
    (hc : lc = 0 ∨ c = some ⟨bx, ox, none⟩ ∧ bx < w.heap.size) (hX : ∀ i, i < lc → w.cell? ⟨bx, ox + i * 5, none⟩ = some (.int .i64 (K i)) ∧ w.cell? ⟨bx, ox + i * 5 + 1, none⟩ = some (.int .i64 (F i)) ∧ w.cell? ⟨bx, ox + i * 5 + 2, none⟩ = some (.int .i64 (O i)) ∧ w.cell? ⟨bx, ox + i * 5 + 3, none⟩ = some (.int .i64 (P i)) ∧ w.cell? ⟨bx, ox + i * 5 + 4, none⟩ = some (.string (S i))) :
    Calls Try.prog 6 #[.slice a ln cn, .slice c lc cc] w fun e w' => e = .returned (.bool true) ∧ Below w.heap.size w w' := by
  have HA := Lib.hid ha
  have HT := Lib.hid hT
  have HC := Lib.hid hc
  have HX := Lib.hid hX
  clear ha hT hc hX
  go_enter Try.func6, Try.ntmps6
  go_wp2_with fail
  refine (awake_any _).mono ?_
  rintro e w1 ⟨rfl, hb1⟩
  have B1 := Lib.hid hb1
  clear hb1
  by_cases h20 : 20 < ln
  · go_wp2_with fail
    go_ret
    exact ⟨rfl, B1.out⟩
  by_cases h60 : 60 < lc
  · go_wp2_with fail
    go_ret
    exact ⟨rfl, B1.out⟩
  go_wp2_with fail
  refine (nt_new 3 w1).mono ?_
  rintro e w2 ⟨rfl, hn2, hb2⟩
  rw [clamp3] at hn2
  have R12 : right 3 1 2 := r12
  have O2 := On.start B1.out hn2 hb2
  clear hn2 hb2
  have HLN : Hid (ln ≤ 20) := Lib.hid (by omega)
  have H60 := Lib.hid h60
  clear h20 h60
  generalize w1.heap.size + 1 = p at *
  generalize w1.heap.size = lo at *
  generalize w2.heap.size = hi at *
  go_wp2_with fail
  go_loopw [6] (fun i wr => ∃ (k : Nat) (L : Lanes), k ≤ ln ∧ i = .int .i64 k ∧ On w.heap.size w wr p lo hi 3 L ∧ L 1 2 = texts T k) (fun i _ => ln - (intOf i).toNat)
  case atStart => exact ⟨0, _, by omega, rfl, O2, rfl⟩
  case round =>
    obtain ⟨k, L, hk, rfl, hon, hL⟩ := hrel
    have HK := Lib.hid hk
    have HON := Lib.hid hon
    clear hk hon
    by_cases hlt : k < ln
    · obtain ⟨rfl, hbt⟩ := HA.out.resolve_left (by omega)
      have c1 := HT.out k hlt
      rw [← HON.out.below.cell (p := ⟨bt, ot + k, none⟩) hbt] at c1
      have hw1 : IntKind.i64.wrap ((k : Int) + 1) = ((k + 1 : Nat) : Int) := by rw [wrap_small _ (by omega) (by have := HLN.out; omega)]; omega
      by_cases hbig : 4096 < (T k).size
      · go_wp2_with fail
        go_ret
        exact ⟨rfl, HON.out.below⟩
      · have hs := Lib.hid (nt_send HON.out.nt 1 2 (T k))
        obtain ⟨s1, s2⟩ := send_texts R12 hL (by have := HLN.out; omega)
        rw [s1] at hs
        have S2 := Lib.hid s2
        clear s1 s2
        go_wp2_with fail
        refine (hs.out).mono ?_
        rintro e w3 ⟨rfl, hn3, hm3⟩
        have O3 := HON.out.step hn3 hm3
        clear hn3 hm3
        go_wp2_with fail
        go_roundw
        case rel => exact ⟨k + 1, _, hlt, rfl, O3, S2.out⟩
        case measure => simp [intOf]; omega
    · obtain rfl : ln = k := by have := HK.out; omega
      have HL := Lib.hid hL
      clear HK hlt hL
      have HLC : Hid (lc ≤ 60) := Lib.hid (by have := H60.out; omega)
      go_wp2_with fail
      go_loopw [7] (fun i wv => ∃ (j : Nat) (M : Lanes), j ≤ lc ∧ i = .int .i64 j ∧ On w.heap.size w wv p lo hi 3 M ∧ M 1 2 = texts T ln) (fun i _ => lc - (intOf i).toNat)
      case atStart => exact ⟨0, L, by omega, rfl, HON.out, HL.out⟩
      case round =>
        clear HL HON
        obtain ⟨j, M, hj, rfl, hon, hM⟩ := hrel
        have HJ := Lib.hid hj
        have HON := Lib.hid hon
        have HM := Lib.hid hM
        clear hj hon hM
        by_cases hlt : j < lc
        · obtain ⟨rfl, hbx⟩ := HC.out.resolve_left (by omega)
          obtain ⟨x0, x1, x2, x3, x4⟩ := HX.out j hlt
          rw [← HON.out.below.cell (p := ⟨bx, ox + j * 5, none⟩) hbx] at x0
          rw [← HON.out.below.cell (p := ⟨bx, ox + j * 5 + 1, none⟩) hbx] at x1
          rw [← HON.out.below.cell (p := ⟨bx, ox + j * 5 + 2, none⟩) hbx] at x2
          rw [← HON.out.below.cell (p := ⟨bx, ox + j * 5 + 3, none⟩) hbx] at x3
          rw [← HON.out.below.cell (p := ⟨bx, ox + j * 5 + 4, none⟩) hbx] at x4
          have hw1 : IntKind.i64.wrap ((j : Int) + 1) = ((j + 1 : Nat) : Int) := by rw [wrap_small _ (by omega) (by have := HLC.out; omega)]; omega
          generalize K j = xk at *
          generalize F j = xf at *
          generalize O j = xo at *
          generalize P j = xp at *
          generalize S j = xs at *
          by_cases h1 : xf = 1
          · subst h1
            by_cases h2 : xo = 2
            · subst h2
              have O3 := HON.out.more ((Below.refl wr.heap.size wr).alloc (Nat.le_refl _) (.cells #[.int .i64 xk, .int .i64 1, .int .i64 2, .int .i64 xp, .string xs] 33))
              go_wp2_with fail
              go_roundw
              case rel => exact ⟨j + 1, M, hlt, rfl, O3, HM.out⟩
              case measure => simp [intOf]; omega
            by_cases hk1 : xk = 1
            · subst hk1
              have OW := HON.out.more ((Below.refl wr.heap.size wr).alloc (Nat.le_refl _) (.cells #[.int .i64 1, .int .i64 1, .int .i64 xo, .int .i64 xp, .string xs] 33))
              have hs := Lib.hid (nt_send OW.nt 1 xo xs)
              have HF := Lib.hid (send_far 3 M (a := 1) (b := xo) (x := 1) (y := 2) (fun h => h2 h.2.symm) xs)
              have OWH := Lib.hid OW
              clear OW
              go_wp2_with fail
              refine (hs.out).mono ?_
              rintro e w3 ⟨rfl, hn3, hm3⟩
              have O3 := OWH.out.step hn3 hm3
              clear hn3 hm3
              go_wp2_with fail
              go_roundw
              case rel => exact ⟨j + 1, _, hlt, rfl, O3, HF.out.trans HM.out⟩
              case measure => simp [intOf]; omega
            by_cases hk2 : xk = 2
            · subst hk2
              have OW := HON.out.more ((Below.refl wr.heap.size wr).alloc (Nat.le_refl _) (.cells #[.int .i64 2, .int .i64 1, .int .i64 xo, .int .i64 xp, .string xs] 33))
              have hs := Lib.hid (nt_take OW.nt 1 xo xp)
              have HF := Lib.hid (take_far M (a := 1) (b := xo) (x := 1) (y := 2) (fun h => h2 h.2.symm) xp)
              have OWH := Lib.hid OW
              clear OW
              go_wp2_with fail
              refine (hs.out).mono ?_
              rintro e w3 ⟨rfl, hn3, hm3⟩
              have O3 := OWH.out.step hn3 hm3
              clear hn3 hm3
              go_wp2_with fail
              go_roundw
              case rel => exact ⟨j + 1, _, hlt, rfl, O3, HF.out.trans HM.out⟩
              case measure => simp [intOf]; omega
            by_cases hk3 : xk = 3
            · subst hk3
              have OW := HON.out.more ((Below.refl wr.heap.size wr).alloc (Nat.le_refl _) (.cells #[.int .i64 3, .int .i64 1, .int .i64 xo, .int .i64 xp, .string xs] 33))
              have hs := Lib.hid (nt_twice OW.nt 1 xo xp)
              have HF := Lib.hid (twice_far M (a := 1) (b := xo) (x := 1) (y := 2) (fun h => h2 h.2.symm) xp)
              have OWH := Lib.hid OW
              clear OW
              go_wp2_with fail
              refine (hs.out).mono ?_
              rintro e w3 ⟨rfl, hn3, hm3⟩
              have O3 := OWH.out.step hn3 hm3
              clear hn3 hm3
              go_wp2_with fail
              go_roundw
              case rel => exact ⟨j + 1, _, hlt, rfl, O3, HF.out.trans HM.out⟩
              case measure => simp [intOf]; omega
            have O3 := HON.out.more ((Below.refl wr.heap.size wr).alloc (Nat.le_refl _) (.cells #[.int .i64 xk, .int .i64 1, .int .i64 xo, .int .i64 xp, .string xs] 33))
            go_wp2_with fail
            go_roundw
            case rel => exact ⟨j + 1, M, hlt, rfl, O3, HM.out⟩
            case measure => simp [intOf]; omega
          ·
            by_cases hk1 : xk = 1
            · subst hk1
              have OW := HON.out.more ((Below.refl wr.heap.size wr).alloc (Nat.le_refl _) (.cells #[.int .i64 1, .int .i64 xf, .int .i64 xo, .int .i64 xp, .string xs] 33))
              have hs := Lib.hid (nt_send OW.nt xf xo xs)
              have HF := Lib.hid (send_far 3 M (a := xf) (b := xo) (x := 1) (y := 2) (fun h => h1 h.1.symm) xs)
              have OWH := Lib.hid OW
              clear OW
              go_wp2_with fail
              refine (hs.out).mono ?_
              rintro e w3 ⟨rfl, hn3, hm3⟩
              have O3 := OWH.out.step hn3 hm3
              clear hn3 hm3
              go_wp2_with fail
              go_roundw
              case rel => exact ⟨j + 1, _, hlt, rfl, O3, HF.out.trans HM.out⟩
              case measure => simp [intOf]; omega
            by_cases hk2 : xk = 2
            · subst hk2
              have OW := HON.out.more ((Below.refl wr.heap.size wr).alloc (Nat.le_refl _) (.cells #[.int .i64 2, .int .i64 xf, .int .i64 xo, .int .i64 xp, .string xs] 33))
              have hs := Lib.hid (nt_take OW.nt xf xo xp)
              have HF := Lib.hid (take_far M (a := xf) (b := xo) (x := 1) (y := 2) (fun h => h1 h.1.symm) xp)
              have OWH := Lib.hid OW
              clear OW
              go_wp2_with fail
              refine (hs.out).mono ?_
              rintro e w3 ⟨rfl, hn3, hm3⟩
              have O3 := OWH.out.step hn3 hm3
              clear hn3 hm3
              go_wp2_with fail
              go_roundw
              case rel => exact ⟨j + 1, _, hlt, rfl, O3, HF.out.trans HM.out⟩
              case measure => simp [intOf]; omega
            by_cases hk3 : xk = 3
            · subst hk3
              have OW := HON.out.more ((Below.refl wr.heap.size wr).alloc (Nat.le_refl _) (.cells #[.int .i64 3, .int .i64 xf, .int .i64 xo, .int .i64 xp, .string xs] 33))
              have hs := Lib.hid (nt_twice OW.nt xf xo xp)
              have HF := Lib.hid (twice_far M (a := xf) (b := xo) (x := 1) (y := 2) (fun h => h1 h.1.symm) xp)
              have OWH := Lib.hid OW
              clear OW
              go_wp2_with fail
              refine (hs.out).mono ?_
              rintro e w3 ⟨rfl, hn3, hm3⟩
              have O3 := OWH.out.step hn3 hm3
              clear hn3 hm3
              go_wp2_with fail
              go_roundw
              case rel => exact ⟨j + 1, _, hlt, rfl, O3, HF.out.trans HM.out⟩
              case measure => simp [intOf]; omega
            have O3 := HON.out.more ((Below.refl wr.heap.size wr).alloc (Nat.le_refl _) (.cells #[.int .i64 xk, .int .i64 xf, .int .i64 xo, .int .i64 xp, .string xs] 33))
            go_wp2_with fail
            go_roundw
            case rel => exact ⟨j + 1, M, hlt, rfl, O3, HM.out⟩
            case measure => simp [intOf]; omega
        · obtain rfl : lc = j := by have := HJ.out; omega
          clear HJ hlt HC HX
          have hlen := Lib.hid (nt_len HON.out.nt 1 2)
          rw [HM.out, texts_length] at hlen
          go_wp2_with fail
          refine (hlen.out).mono ?_
          rintro e w3 ⟨rfl, rfl⟩
          clear hlen
          go_wp2_with fail
          go_loopw [9] (fun i wv => ∃ (j : Nat) (M : Lanes), j ≤ ln ∧ i = .int .i64 j ∧ On w.heap.size w wv p lo hi 3 M ∧ M 1 2 = (texts T ln).drop j) (fun i _ => ln - (intOf i).toNat)
          case atStart => exact ⟨0, M, by omega, rfl, HON.out, HM.out⟩
          case round =>
            clear HON HM
            obtain ⟨j, M, hj, rfl, hon, hM⟩ := hrel
            have HJ := Lib.hid hj
            have HON := Lib.hid hon
            clear hj hon
            by_cases hlt : j < ln
            · obtain ⟨rfl, hbt⟩ := HA.out.resolve_left (by omega)
              have c1 : ∀ w', On w.heap.size w w' p lo hi 3 (takeL M 1 2 0) → w'.cell? ⟨bt, ot + j, none⟩ = some (.string (T j)) := fun w' h => by
                rw [h.below.cell (p := ⟨bt, ot + j, none⟩) hbt]; exact HT.out j hlt
              have C1 := Lib.hid c1
              have hw1 : IntKind.i64.wrap ((j : Int) + 1) = ((j + 1 : Nat) : Int) := by rw [wrap_small _ (by omega) (by have := HLN.out; omega)]; omega
              rw [texts_drop T hlt] at hM
              obtain ⟨t1, t2, t3⟩ := take_front hM
              have hs := Lib.hid (nt_take HON.out.nt 1 2 0)
              rw [t1, t2] at hs
              have T3 := Lib.hid t3
              clear t1 t2 t3 hM c1
              go_wp2_with fail
              refine (hs.out).mono ?_
              rintro e w3 ⟨rfl, hn3, hm3⟩
              have O3 := HON.out.step hn3 hm3
              have c1 := C1.out w3 O3
              clear hn3 hm3
              generalize T j = X at *
              go_wp2_with fail
              go_roundw
              case rel => exact ⟨j + 1, _, hlt, rfl, O3, T3.out⟩
              case measure => simp [intOf]; omega
            · obtain rfl : ln = j := by have := HJ.out; omega
              go_wp2_with fail
              go_ret
              exact ⟨rfl, HON.out.below⟩

end Go.Proofs.Ytbkgnkiimnlbcaa
