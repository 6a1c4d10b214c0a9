/- The walk of the law OctetReads: it returns true and writes only blocks of its own. Conditions: the text and the calls lie within the form's reach. -/
import Derived.Test.YtlbhibilhbhidaaAwake
namespace Go.Proofs.Ytlbhibilhbhidaa
open Go.RowKit Go.Deep

theorem Rd.drewN {w : World} {b : Nat} {st : St} (h : Rd w b st) (n : Nat) : Rd (w.drewN n) b st := by
  cases st with
  | none => exact h
  | some r => exact h
/-- Both readers, in blocks b and c. -/
structure Both (w : World) (b c : Nat) (s : ByteArray) (st : St) : Prop where
  rd : Rd w b st
  rf : Rf w c s st
theorem Both.step {w1 w2 : World} {b c : Nat} {s : ByteArray} {st' : St} (hne : b ≠ c) (r1 : Rd w1 b st') (r2 : Rf w2 c s st') (o2 : Only c w1 w2) : Both w2 b c s st' :=
  ⟨r1.other o2 hne, r2⟩
theorem both_below {w w0 w1 w2 : World} {b c : Nat} (hb : Below w0.heap.size w0 w) (o1 : Only b w w1) (o2 : Only c w1 w2) (hB : w0.heap.size ≤ b) (hC : w0.heap.size ≤ c) : Below w0.heap.size w0 w2 :=
  (hb.trans (o1.below hb.size hB)).trans (o2.below (Nat.le_trans hb.size o1.size) hC)
theorem quiet_left {P : Program} {f : FuncId} {args : Array Value} {w : World} {n : Nat} {v : Value}
    (h : Calls P f args (w.drewN n) fun e w' => e = .returned v ∧ w.drewN n = w') : Calls P f args (w.drewN n) fun e w'' => e = .returned v ∧ ∃ m, w'' = w.drewN m :=
  h.mono fun _ _ ⟨he, hm⟩ => ⟨he, n, hm.symm⟩
/-- The five questions behind each call. -/
theorem asks {w : World} {b c : Nat} {s : ByteArray} {st : St} (hs : s.size ≤ 140737488351232) (h : Both w b c s st) :
    (∀ n, Calls Try.prog 22 #[.pointer (some ⟨b, 0, none⟩)] (w.drewN n) fun e w'' => e = .returned (.bool (badOut st)) ∧ ∃ m, w'' = w.drewN m) ∧
    (∀ n, Calls Try.prog 23 #[.pointer (some ⟨b, 0, none⟩)] (w.drewN n) fun e w'' => e = .returned (.int .i64 (leftOut st)) ∧ ∃ m, w'' = w.drewN m) ∧
    (∀ n, Calls Try.prog 24 #[.pointer (some ⟨c, 0, none⟩)] (w.drewN n) fun e w'' => e = .returned (.int .i64 (leftOut st)) ∧ ∃ m, w'' = w.drewN m) ∧
    (∀ n, Calls Try.prog 25 #[.pointer (some ⟨b, 0, none⟩)] (w.drewN n) fun e w'' => e = .returned (.bool (wholeOut st)) ∧ ∃ m, w'' = w.drewN m) ∧
    (∀ n, Calls Try.prog 26 #[.pointer (some ⟨c, 0, none⟩)] (w.drewN n) fun e w'' => e = .returned (.bool (wholeOut st)) ∧ ∃ m, w'' = w.drewN m) ∧
    w.cell? ⟨c, 2, none⟩ = some (.bool (badOut st)) :=
  ⟨fun n => quiet_left (bad_any b st _ (h.rd.drewN n)), fun n => quiet_left (left_any b st _ (h.rd.drewN n)), fun n => Calls.quiet_of (ref_left_any c s st _ hs (h.rf.drewN n)),
    fun n => quiet_left (whole_any b st _ (h.rd.drewN n)), fun n => Calls.quiet_of (ref_whole_any c s st _ (h.rf.drewN n)), h.rf.cell2.1⟩
theorem Both.drewN {w : World} {b c : Nat} {s : ByteArray} {st : St} (h : Both w b c s st) (n : Nat) : Both (w.drewN n) b c s st := ⟨h.rd.drewN n, h.rf.drewN n⟩
theorem below_drewN {w w1 : World} (h : Below w.heap.size w w1) (n : Nat) : Below w.heap.size w (w1.drewN n) := h.trans ⟨rfl, rfl, rfl, Nat.le_refl _, fun _ _ => rfl⟩

theorem five (x : Int) : x = 1 ∨ x = 2 ∨ x = 3 ∨ x = 4 ∨ ((x == 1) = false ∧ (x == 2) = false ∧ (x == 3) = false ∧ (x == 4) = false) := by
  by_cases h1 : x = 1
  · exact .inl h1
  · by_cases h2 : x = 2
    · exact .inr (.inl h2)
    · by_cases h3 : x = 3
      · exact .inr (.inr (.inl h3))
      · by_cases h4 : x = 4
        · exact .inr (.inr (.inr (.inl h4)))
        · exact .inr (.inr (.inr (.inr ⟨beq_eq_false_iff_ne.2 h1, beq_eq_false_iff_ne.2 h2, beq_eq_false_iff_ne.2 h3, beq_eq_false_iff_ne.2 h4⟩)))

set_option maxRecDepth 100000 in
set_option maxHeartbeats 4000000 in
theorem reads_walk (s : ByteArray) (b off len cap : Nat) (K M : Nat → Int) (w : World) (hs : s.size ≤ 140737488351232) (hlen : len ≤ 9223372036854775807) (hb : b < w.heap.size)
    (hc : ∀ i, i < len → w.cell? ⟨b, off + i * 2, none⟩ = some (.int .i64 (K i)) ∧ w.cell? ⟨b, off + i * 2 + 1, none⟩ = some (.int .i64 (M i))) :
    Calls Try.prog 4 #[.string s, .slice (some ⟨b, off, none⟩) len cap] w fun e w' => e = .returned (.bool true) ∧ Below w.heap.size w w' := by
  have HS := Lib.hid hs
  have HC := Lib.hid hc
  clear hs hc
  go_enter Try.func4, Try.ntmps4
  go_wp2_with fail
  refine (awake_any _).mono ?_
  rintro e w1 ⟨rfl, hb1⟩
  go_wp2_with fail
  refine (new_any _ _).mono ?_
  rintro e w2 ⟨rfl, hr2, hb2, hl2⟩
  have R2 := Lib.hid hr2
  clear hr2
  go_wp2_with fail
  refine (ref_new_any _ _).mono ?_
  rintro e w3 ⟨rfl, hf3, hb3, hl3⟩
  have B3 := Lib.hid (Both.mk (R2.out.below hb3 hl2) hf3)
  have W3 := Lib.hid (below_step (below_step hb1 hb2) hb3)
  have HB : Hid (w.heap.size ≤ w1.heap.size) := hb1.size
  have HC2 : Hid (w.heap.size ≤ w2.heap.size) := Lib.hid (by have := hb1.size; omega)
  have HNE : Hid (w1.heap.size ≠ w2.heap.size) := Lib.hid (by omega)
  clear hf3 hb1 hb2 hb3 hl2 hl3 R2
  go_wp2_with fail
  generalize w1.heap.size = p at *
  generalize w2.heap.size = q at *
  go_loopw [7] (fun i wr => ∃ (k : Nat) (st : St), k ≤ len ∧ i = .int .i64 k ∧ Both wr p q s st ∧ Below w.heap.size w wr) (fun i _ => len - (intOf i).toNat)
  case atStart => exact ⟨0, some s, by omega, rfl, B3.out, W3.out⟩
  case round =>
    obtain ⟨k, st, hk, rfl, hB2, hbel⟩ := hrel
    by_cases hlt : k < len
    · by_cases h100 : k < 100
      · have h1 := (HC.out k hlt).1
        have h2 := (HC.out k hlt).2
        rw [← hbel.cell (p := ⟨b, off + k * 2, none⟩) hb] at h1
        rw [← hbel.cell (p := ⟨b, off + k * 2 + 1, none⟩) hb] at h2
        have BB := Lib.hid hB2
        have WW := Lib.hid hbel
        have HM : ∀ (b' : Nat) (w' : World), Only b' wr w' → w.heap.size ≤ b' → w'.cell? ⟨b, off + k * 2 + 1, none⟩ = some (.int .i64 (M k)) := fun b' w' ho hb' => by
          rw [(ho.below (B := w.heap.size) hbel.size hb').cell (p := ⟨b, off + k * 2 + 1, none⟩) hb]; exact h2
        have HMM := Lib.hid HM
        clear hB2 hbel HM
        generalize K k = x at *
        generalize M k = y at *
        rcases five x with hx | hx | hx | hx | ⟨hx1, hx2, hx3, hx4⟩
        · subst hx
          go_wp2_with fail
          refine (rnum_any p st _ BB.out.rd).mono ?_
          rintro e v1 ⟨rfl, hr1, ho1⟩
          have R1 := Lib.hid hr1
          have O1 := Lib.hid ho1
          clear hr1 ho1
          go_wp2_with fail
          refine (ref_rnum_any q s st _ HS.out (BB.out.rf.other O1.out (Ne.symm HNE.out))).mono ?_
          rintro e v2 ⟨rfl, hr2, ho2⟩
          have BB2 := Lib.hid (Both.step HNE.out R1.out hr2 ho2)
          have WW2 := Lib.hid (both_below WW.out O1.out ho2 HB.out HC2.out)
          clear hr2 ho2
          have AA := Lib.hid (asks HS.out BB2.out)
          have c2 := AA.out.2.2.2.2.2
          go_wp2
          go_quiet ((first | (with_reducible exact AA.out.1 _) | (with_reducible exact AA.out.2.1 _) | (with_reducible exact AA.out.2.2.1 _) | (with_reducible exact AA.out.2.2.2.1 _) | (with_reducible exact AA.out.2.2.2.2.1 _)))
          go_wp2
          go_roundw
          case rel => exact ⟨k + 1, numSt st, by omega, by go_num, BB2.out.drewN _, below_drewN WW2.out _⟩
          case measure => simp [intOf]; omega
        · subst hx
          go_wp2_with fail
          refine (rtext_any p st y _ BB.out.rd).mono ?_
          rintro e v1 ⟨rfl, hr1, ho1⟩
          have R1 := Lib.hid hr1
          have O1 := Lib.hid ho1
          have h3 := HMM.out _ _ ho1 HB.out
          clear hr1 ho1
          go_wp2_with fail
          refine (ref_rtext_any q s st y _ HS.out (BB.out.rf.other O1.out (Ne.symm HNE.out))).mono ?_
          rintro e v2 ⟨rfl, hr2, ho2⟩
          have BB2 := Lib.hid (Both.step HNE.out R1.out hr2 ho2)
          have WW2 := Lib.hid (both_below WW.out O1.out ho2 HB.out HC2.out)
          clear hr2 ho2
          have AA := Lib.hid (asks HS.out BB2.out)
          have c2 := AA.out.2.2.2.2.2
          go_wp2
          go_quiet ((first | (with_reducible exact AA.out.1 _) | (with_reducible exact AA.out.2.1 _) | (with_reducible exact AA.out.2.2.1 _) | (with_reducible exact AA.out.2.2.2.1 _) | (with_reducible exact AA.out.2.2.2.2.1 _)))
          go_wp2
          go_roundw
          case rel => exact ⟨k + 1, textSt st y, by omega, by go_num, BB2.out.drewN _, below_drewN WW2.out _⟩
          case measure => simp [intOf]; omega
        · subst hx
          go_wp2_with fail
          refine (take_any p st y _ BB.out.rd).mono ?_
          rintro e v1 ⟨rfl, hr1, ho1⟩
          have R1 := Lib.hid hr1
          have O1 := Lib.hid ho1
          have h3 := HMM.out _ _ ho1 HB.out
          clear hr1 ho1
          go_wp2_with fail
          refine (ref_take_any q s st y _ HS.out (BB.out.rf.other O1.out (Ne.symm HNE.out))).mono ?_
          rintro e v2 ⟨rfl, hr2, ho2⟩
          have BB2 := Lib.hid (Both.step HNE.out R1.out hr2 ho2)
          have WW2 := Lib.hid (both_below WW.out O1.out ho2 HB.out HC2.out)
          clear hr2 ho2
          have AA := Lib.hid (asks HS.out BB2.out)
          have c2 := AA.out.2.2.2.2.2
          go_wp2
          go_quiet ((first | (with_reducible exact AA.out.1 _) | (with_reducible exact AA.out.2.1 _) | (with_reducible exact AA.out.2.2.1 _) | (with_reducible exact AA.out.2.2.2.1 _) | (with_reducible exact AA.out.2.2.2.2.1 _)))
          go_wp2
          go_roundw
          case rel => exact ⟨k + 1, takeSt st y, by omega, by go_num, BB2.out.drewN _, below_drewN WW2.out _⟩
          case measure => simp [intOf]; omega
        · subst hx
          go_wp2_with fail
          refine (spoil_any p st _ BB.out.rd).mono ?_
          rintro e v1 ⟨rfl, hr1, ho1⟩
          have F1 := Lib.hid (BB.out.rf.other ho1 (Ne.symm HNE.out))
          have ⟨c0, f0⟩ := F1.out.cell2
          have O2 : Only q v1 (v1.setCell ⟨q, 2, none⟩ (.bool true)) := (Only.refl q v1).setCell _
          have BB2 := Lib.hid (Both.step HNE.out hr1 (ref_flag F1.out) O2)
          have WW2 := Lib.hid (both_below WW.out ho1 O2 HB.out HC2.out)
          clear hr1 ho1 O2
          have AA := Lib.hid (asks HS.out BB2.out)
          have c2 := AA.out.2.2.2.2.2
          go_wp2
          go_quiet ((first | (with_reducible exact AA.out.1 _) | (with_reducible exact AA.out.2.1 _) | (with_reducible exact AA.out.2.2.1 _) | (with_reducible exact AA.out.2.2.2.1 _) | (with_reducible exact AA.out.2.2.2.2.1 _)))
          go_wp2
          go_roundw
          case rel => exact ⟨k + 1, none, by omega, by go_num, BB2.out.drewN _, below_drewN WW2.out _⟩
          case measure => simp [intOf]; omega
        · have BB2 := BB
          have WW2 := WW
          have AA := Lib.hid (asks HS.out BB2.out)
          have c2 := AA.out.2.2.2.2.2
          go_wp2
          go_quiet ((first | (with_reducible exact AA.out.1 _) | (with_reducible exact AA.out.2.1 _) | (with_reducible exact AA.out.2.2.1 _) | (with_reducible exact AA.out.2.2.2.1 _) | (with_reducible exact AA.out.2.2.2.2.1 _)))
          go_wp2
          go_roundw
          case rel => exact ⟨k + 1, st, by omega, by go_num, BB2.out.drewN _, below_drewN WW2.out _⟩
          case measure => simp [intOf]; omega
      · go_wp2_with fail
        go_ret
        exact ⟨rfl, hbel⟩
    · go_wp2_with fail
      go_ret
      exact ⟨rfl, hbel⟩

set_option maxRecDepth 100000 in
set_option maxHeartbeats 1000000 in
theorem reads_walk0 (s : ByteArray) (a : Option Addr) (cap : Nat) (w : World) :
    Calls Try.prog 4 #[.string s, .slice a 0 cap] w fun e w' => e = .returned (.bool true) ∧ Below w.heap.size w w' := by
  go_enter Try.func4, Try.ntmps4
  go_wp2_with fail
  refine (awake_any _).mono ?_
  rintro e w1 ⟨rfl, hb1⟩
  go_wp2_with fail
  refine (new_any _ _).mono ?_
  rintro e w2 ⟨rfl, hr2, hb2, hl2⟩
  go_wp2_with fail
  refine (ref_new_any _ _).mono ?_
  rintro e w3 ⟨rfl, hf3, hb3, hl3⟩
  go_wp2_with fail
  refine wp_loop_rounds 1 ?_
  rw [rounds_succ]
  go_wp2
  go_ret
  exact ⟨rfl, below_step (below_step hb1 hb2) hb3⟩
end Go.Proofs.Ytlbhibilhbhidaa
