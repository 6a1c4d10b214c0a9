/- The contracts of the readers' Num and Text, of the program and of the reference: the same answer, the same reader behind it. Conditions: the limit is an int; the bytes lie within the form's reach. -/
import Derived.Test.YtlbhibilhbhidaaTake
import Derived.Laws.IdiomStrings
namespace Go.Proofs.Ytlbhibilhbhidaa
open Go.RowKit Go.Deep

section
variable {P : Program}

/-- '[]byte(s)'. -/
theorem wpList_bytes_of {ops : Array Oper} {rest : List Oper} {o : Oper} {a : Act} {w : World} {Q : Exit → Act → World → Prop} (hgd : o.guard = none) (src dst e : TypeId) (x : Operand) (ho : o.op = .convert src dst x)
    (s : ByteArray) (hx : a.eval x = .string s) (hs : P.underlying src = some .string) (hd : P.underlying dst = some (.slice e)) (he : P.underlying e = some (.int .u8))
    (h : ∀ (cap : Nat) (W : World), s.size ≤ cap → Below w.heap.size w W → W.heap.size = w.heap.size + 1 → (∀ j (hj : j < s.data.size), W.cell? ⟨w.heap.size, j, none⟩ = some (.int .u8 (s.data[j].toNat : Int))) →
      wpList P ops Q rest (a.put o.dst (.slice (some ⟨w.heap.size, 0, none⟩) s.size cap)) W) : wpList P ops Q (o :: rest) a w := by
  refine wpList_plain hgd fun K hK => ?_
  have hr := run_bytes_of_string w src dst e s hs hd he
  unfold Oper.wp execOp
  simp only [ho, hx, Sem.run_bind, Sem.run_pure, hr, Result.andThen_ok]
  refine hK _ _ (h _ _ (grownCap_ge _ _ _ _) ?_ ?_ ?_)
  · exact ((Below.refl _ _).drew).alloc (Nat.le_refl _) _
  · simp
  · intro j hj
    have := World.cell?_alloc_mark w.drew (bytesRow s (grownCap w s.size 0 e)) e ((bytesRow s (grownCap w s.size 0 e)).size, (bytesRow s (grownCap w s.size 0 e)).size + 1) j
    rw [bytesRow_at s _ j hj] at this
    exact this
end

/-- The number of the first k bytes. -/
def acc (s : ByteArray) : Nat → Nat
  | 0 => 0
  | k + 1 => acc s k + 2 ^ (8 * k) * (s.data.getD k 0).toNat
theorem acc_lt (s : ByteArray) (k : Nat) : acc s k < 2 ^ (8 * k) := by
  induction k with
  | zero => simp [acc]
  | succ k ih =>
    unfold acc
    have hb := (s.data.getD k 0).toNat_lt
    have h2 : 2 ^ (8 * (k + 1)) = 2 ^ (8 * k) * 256 := by rw [show 8 * (k + 1) = 8 * k + 8 from by omega, Nat.pow_add]
    rw [h2]
    have : 2 ^ (8 * k) * (s.data.getD k 0).toNat ≤ 2 ^ (8 * k) * 255 := Nat.mul_le_mul_left _ (by omega)
    omega
theorem acc_four (s : ByteArray) : acc s 4 = num4 s := by
  unfold num4
  simp only [acc]
  omega

theorem getD_at (a : ByteArray) (j : Nat) (h : j < a.data.size) : a.data.getD j 0 = a.data[j] := by
  unfold Array.getD
  rw [dif_pos h]
  rfl
theorem or_step (t : ByteArray) (k : Nat) (hk : k < 4) (h : k < t.data.size) : bits .or .u32 (acc t k : Int) ((t.data[k].toNat : Int) % 4294967296 * 2 ^ (8 * k) % 4294967296) = ((acc t (k + 1) : Nat) : Int) := by
  have hb := t.data[k].toNat_lt
  have ha := acc_lt t k
  have hp : 2 ^ (8 * k) ≤ 2 ^ 24 := Nat.pow_le_pow_right (by omega) (by omega)
  have hm : 2 ^ (8 * k) * t.data[k].toNat ≤ 2 ^ 24 * 255 := Nat.mul_le_mul hp (by omega)
  have e : ((t.data[k].toNat : Int) % 4294967296 * 2 ^ (8 * k) % 4294967296) = ((2 ^ (8 * k) * t.data[k].toNat : Nat) : Int) := by
    rw [show (t.data[k].toNat : Int) % 4294967296 = (t.data[k].toNat : Int) from by omega]
    rw [show (t.data[k].toNat : Int) * 2 ^ (8 * k) = ((2 ^ (8 * k) * t.data[k].toNat : Nat) : Int) from by rw [Int.natCast_mul, Int.natCast_pow, Int.mul_comm]; rfl]
    omega
  rw [e, u32_or_nat _ _ (by omega) (by omega), Nat.or_comm, ← Nat.two_pow_add_eq_or_of_lt ha]
  rw [show acc t (k + 1) = acc t k + 2 ^ (8 * k) * (t.data.getD k 0).toNat from rfl, getD_at t k h, Nat.add_comm]
theorem num4_head (r : ByteArray) (h : ¬ r.size < 4) : num4 (r.extract 0 4) = num4 r := by
  have h' : 4 ≤ r.data.size := by have : ¬ r.data.size < 4 := h; omega
  have hg : ∀ j, j < 4 → (r.extract 0 4).data.getD j 0 = r.data.getD j 0 := by
    intro j hj
    rw [getD_at r j (by omega), getD_at _ j (by rw [ByteArray.data_extract, Array.size_extract]; omega)]
    simp
  unfold num4
  rw [hg 0 (by omega), hg 1 (by omega), hg 2 (by omega), hg 3 (by omega)]
theorem take_four (st : St) : (takeOut st 4).size ≤ 4 ∧ acc (takeOut st 4) (takeOut st 4).size = numOut st := by
  cases st with
  | none => exact ⟨show nul.size ≤ 4 by decide, rfl⟩
  | some r =>
    by_cases h : r.size < 4
    · have e : takeOut (some r) 4 = nul := if_pos (by omega)
      have e2 : numOut (some r) = 0 := if_pos h
      rw [e, e2]
      exact ⟨by decide, rfl⟩
    · have e : takeOut (some r) 4 = r.extract 0 4 := if_neg (by omega)
      have e2 : numOut (some r) = num4 r := if_neg h
      have hs : (r.extract 0 4).size = 4 := by rw [ByteArray.size_extract]; omega
      rw [e, e2, hs, acc_four, num4_head r h]
      exact ⟨Nat.le_refl _, rfl⟩

set_option maxHeartbeats 400000 in
theorem rnum_any (b : Nat) (st : St) (w : World) (h : Rd w b st) : Calls Try.prog 15 #[.pointer (some ⟨b, 0, none⟩)] w fun e w' => e = .returned (.int .u32 (numOut st)) ∧ Rd w' b (numSt st) ∧ Only b w w' := by
  have H := Lib.hid h
  clear h
  go_enter Try.func15, Try.ntmps15
  go_wp2_with fail
  refine (take_any b st 4 _ H.out).mono ?_
  rintro e w1 ⟨rfl, hr1, ho1⟩
  have H1 := Lib.hid hr1
  clear hr1
  have HT := Lib.hid (take_four st)
  generalize takeOut st 4 = t at HT
  go_wp2_with ((with_reducible show wpList _ _ _ (⟨some 8, .convert 9 48 (.tmp 7), _, _, _, _⟩ :: _) _ _); go_must (refine wpList_bytes_of rfl 9 48 5 _ rfl t rfl Try.underlying9 Try.underlying48 Try.underlying5 ?_; intro cap W hcap hbW hsz hcells; have HW := Lib.hid hcells; clear hcells hsz))
  go_loop [3, 10] (fun c i => ∃ k : Nat, k ≤ t.size ∧ i = .int .i64 k ∧ c = .int .u32 ((acc t k : Nat) : Int)) (fun _ i => t.size - (intOf i).toNat)
  case atStart => exact ⟨0, by omega, rfl, rfl⟩
  case round =>
    obtain ⟨k, hk, rfl, rfl⟩ := hrel
    by_cases hlt : k < t.size
    · have hc := HW.out k hlt
      have hk4 : k < 4 := by have := HT.out.1; omega
      have eo := or_step t k hk4 hlt
      go_wp2
      go_round
      case rel => exact ⟨k + 1, by omega, by go_num, rfl⟩
      case measure => simp [intOf]; omega
    · have hk2 : k = t.size := by omega
      have Hk := Lib.hid hk2
      clear hk2
      go_wp2
      go_ret
      refine ⟨?_, H1.out.below hbW H1.out.lt, ho1.trans (Only.of_below hbW)⟩
      show Ending.returned (.int .u32 _) = Ending.returned (.int .u32 ((numOut st : Nat) : Int))
      rw [← HT.out.2, ← Hk.out]

theorem num4_at (t : ByteArray) (h0 : 0 < t.size) (h1 : 1 < t.size) (h2 : 2 < t.size) (h3 : 3 < t.size) : num4 t = t[0].toNat + 256 * t[1].toNat + 65536 * t[2].toNat + 16777216 * t[3].toNat := by
  unfold num4
  rw [getD_at t 0 h0, getD_at t 1 h1, getD_at t 2 h2, getD_at t 3 h3]
  rfl
theorem four_sum (a b c d : Nat) (ha : a < 256) (hb : b < 256) (hc : c < 256) (hd : d < 256) :
    (((a : Int) + (b : Int) % 4294967296 * 256 + (c : Int) % 4294967296 * 65536) % 4294967296 + (d : Int) % 4294967296 * 16777216 % 4294967296) % 4294967296 = ((a + 256 * b + 65536 * c + 16777216 * d : Nat) : Int) := by
  omega
theorem Rf.drewN {w : World} {b : Nat} {s : ByteArray} {st : St} (h : Rf w b s st) (n : Nat) : Rf (w.drewN n) b s st := by
  cases st with
  | none => exact h
  | some r => exact h

set_option maxHeartbeats 400000 in
theorem ref_rnum_any (b : Nat) (s : ByteArray) (st : St) (w : World) (hs : s.size ≤ 140737488351232) (h : Rf w b s st) : Calls Try.prog 16 #[.pointer (some ⟨b, 0, none⟩)] w fun e w' => e = .returned (.int .u32 (numOut st)) ∧ Rf w' b s (numSt st) ∧ Only b w w' := by
  have H := Lib.hid h
  have Hs := Lib.hid hs
  have HT := Lib.hid (ref_take_any b s st 4 w hs h)
  clear h hs
  by_cases hb : numSt st = none
  · have e0 : numOut st = 0 := by
      cases st with
      | none => rfl
      | some r => exact if_pos (by
          by_cases c : r.size < 4
          · exact c
          · have : numSt (some r) = some (r.extract (4 : Int).toNat r.size) := if_neg (by omega)
            rw [this] at hb; cases hb)
    rw [e0]
    have Hb := Lib.hid hb
    clear hb e0
    go_enter Try.func16, Try.ntmps16
    go_wp2_with fail
    refine HT.out.mono ?_
    rintro e w1 ⟨rfl, hr1, ho1⟩
    have hr2 : Rf w1 b s none := by rw [← Hb.out]; exact hr1
    obtain ⟨a, ha, hh⟩ := hr2
    obtain ⟨c0, c1, c2, f0, f1, f2⟩ := three_cells hh
    have H1 := Lib.hid hr1
    clear hr1 hh c0 c1 f0 f1 f2
    go_wp2
    go_ret
    exact ⟨rfl, H1.out, ho1⟩
  · cases st with
    | none => exact absurd rfl hb
    | some r =>
      have hr4 : ¬ r.size < 4 := fun c => hb (if_pos (by omega))
      have e0 : numOut (some r) = num4 r := if_neg hr4
      have e1 : numSt (some r) = some (r.extract 4 r.size) := if_neg (by omega)
      have e2 : takeOut (some r) 4 = r.extract 0 4 := if_neg (by omega)
      rw [e0]
      have e3 := num4_head r hr4
      have e4 : (r.extract 0 4).size = 4 := by rw [ByteArray.size_extract]; omega
      have HE := Lib.hid e3
      have HT2 : Hid (Calls Try.prog 20 #[.pointer (some ⟨b, 0, none⟩), .int .i64 4] w fun e w' => e = .returned (.string (r.extract 0 4)) ∧ Rf w' b s (some (r.extract 4 r.size)) ∧ Only b w w') := by
        have := HT.out
        rw [e2] at this
        exact (show takeSt (some r) 4 = some (r.extract 4 r.size) from e1) ▸ this
      rw [e1]
      clear HT hb e0 e1 e2 e3 H hr4
      generalize r.extract 0 4 = t at *
      have hl0 : 0 < t.size := by omega
      have hl1 : 1 < t.size := by omega
      have hl2 : 2 < t.size := by omega
      have hl3 : 3 < t.size := by omega
      go_enter Try.func16, Try.ntmps16
      go_wp2_with fail
      refine HT2.out.mono ?_
      rintro e w1 ⟨rfl, hr1, ho1⟩
      obtain ⟨a, ha, he, hh⟩ := id hr1
      obtain ⟨c0, c1, c2, f0, f1, f2⟩ := three_cells hh
      have H1 := Lib.hid hr1
      clear hr1 hh c0 c1 f0 f1 f2 he
      go_wp2
      go_quiet (fail)
      go_wp2
      go_ret
      refine ⟨congrArg (fun z : Int => Ending.returned (.int .u32 z)) ?_, H1.out.drewN _, ho1.trans (only_drewN b w1 _)⟩
      rw [← HE.out, num4_at t hl0 hl1 hl2 hl3]
      exact four_sum _ _ _ _ (t[0].toNat_lt) (t[1].toNat_lt) (t[2].toNat_lt) (t[3].toNat_lt)

set_option maxHeartbeats 400000 in
/-- Text, of the program's reader. -/
theorem rtext_any (b : Nat) (st : St) (most : Int) (w : World) (h : Rd w b st) : Calls Try.prog 17 #[.pointer (some ⟨b, 0, none⟩), .int .i64 most] w fun e w' => e = .returned (.string (textOut st most)) ∧ Rd w' b (textSt st most) ∧ Only b w w' := by
  have HN := Lib.hid (rnum_any b st w h)
  clear h
  have hn := numOut_lt st
  unfold textOut textSt textMid
  generalize numOut st = n at *
  by_cases hm : most < (n : Int)
  · rw [if_pos hm]
    go_enter Try.func17, Try.ntmps17
    go_wp2_with fail
    refine HN.out.mono ?_
    rintro e w1 ⟨rfl, hr1, ho1⟩
    have H1 := Lib.hid hr1
    clear hr1
    go_wp2_with fail
    refine (spoil_any b _ _ H1.out).mono ?_
    rintro e w2 ⟨rfl, hr2, ho2⟩
    have H2 := Lib.hid hr2
    clear hr2
    go_wp2_with fail
    refine (take_any b _ _ _ H2.out).mono ?_
    rintro e w3 ⟨rfl, hr3, ho3⟩
    go_wp2_with fail
    go_ret
    exact ⟨rfl, hr3, (ho1.trans ho2).trans ho3⟩
  · rw [if_neg hm]
    go_enter Try.func17, Try.ntmps17
    go_wp2_with fail
    refine HN.out.mono ?_
    rintro e w1 ⟨rfl, hr1, ho1⟩
    have H1 := Lib.hid hr1
    clear hr1
    go_wp2_with fail
    refine (take_any b _ _ _ H1.out).mono ?_
    rintro e w3 ⟨rfl, hr3, ho3⟩
    go_wp2_with fail
    go_ret
    exact ⟨rfl, hr3, ho1.trans ho3⟩
theorem ref_flag {w : World} {b : Nat} {s : ByteArray} {st : St} (h : Rf w b s st) : Rf (w.setCell ⟨b, 2, none⟩ (.bool true)) b s none := by
  cases st with
  | none => obtain ⟨a, ha, hh⟩ := h; exact ⟨a, ha, ref_world2 _ hh⟩
  | some r => obtain ⟨a, ha, _, hh⟩ := h; exact ⟨a, ha, ref_world2 _ hh⟩
theorem Rf.cell2 {w : World} {b : Nat} {s : ByteArray} {st : St} (h : Rf w b s st) : w.cell? ⟨b, 2, none⟩ = some (.bool (badOut st)) ∧ w.frozen? ⟨b, 2, none⟩ = false := by
  cases st with
  | none => obtain ⟨a, ha, hh⟩ := h; have := three_cells hh; exact ⟨this.2.2.1, this.2.2.2.2.2⟩
  | some r => obtain ⟨a, ha, _, hh⟩ := h; have := three_cells hh; exact ⟨this.2.2.1, this.2.2.2.2.2⟩
set_option maxHeartbeats 400000 in
/-- Text, of the reference's reader. -/
theorem ref_rtext_any (b : Nat) (s : ByteArray) (st : St) (most : Int) (w : World) (hs : s.size ≤ 140737488351232) (h : Rf w b s st) : Calls Try.prog 18 #[.pointer (some ⟨b, 0, none⟩), .int .i64 most] w fun e w' => e = .returned (.string (textOut st most)) ∧ Rf w' b s (textSt st most) ∧ Only b w w' := by
  have HN := Lib.hid (ref_rnum_any b s st w hs h)
  have Hs := Lib.hid hs
  clear h hs
  have hn := numOut_lt st
  unfold textOut textSt textMid
  generalize numOut st = n at *
  by_cases hm : most < (n : Int)
  · rw [if_pos hm]
    go_enter Try.func18, Try.ntmps18
    go_wp2_with fail
    refine HN.out.mono ?_
    rintro e w1 ⟨rfl, hr1, ho1⟩
    obtain ⟨c2, f2⟩ := hr1.cell2
    have H1 := Lib.hid hr1
    clear hr1
    go_wp2_with fail
    refine (ref_take_any b s _ _ _ Hs.out (ref_flag H1.out)).mono ?_
    rintro e w3 ⟨rfl, hr3, ho3⟩
    go_wp2_with fail
    go_ret
    exact ⟨rfl, hr3, (ho1.trans ((Only.refl b w1).setCell _)).trans ho3⟩
  · rw [if_neg hm]
    go_enter Try.func18, Try.ntmps18
    go_wp2_with fail
    refine HN.out.mono ?_
    rintro e w1 ⟨rfl, hr1, ho1⟩
    have H1 := Lib.hid hr1
    clear hr1
    go_wp2_with fail
    refine (ref_take_any b s _ _ _ Hs.out H1.out).mono ?_
    rintro e w3 ⟨rfl, hr3, ho3⟩
    go_wp2_with fail
    go_ret
    exact ⟨rfl, hr3, ho1.trans ho3⟩
end Go.Proofs.Ytlbhibilhbhidaa
