/- The contracts of the reference's Take and Twice over the abstract lanes. No condition. -/
import Derived.Test.YtbkgnkiimnlbcaaRefCalls
namespace Go.Proofs.Ytbkgnkiimnlbcaa
open Go.RowKit Go.Deep Go.Conc

theorem left_out {q : List ByteArray} {x : Int} (h : ¬ (0 ≤ x ∧ x < q.length)) : left q x = q := by
  by_cases h0 : 0 ≤ x
  · obtain ⟨n, rfl⟩ : ∃ n : Nat, x = n := ⟨x.toNat, by omega⟩
    rw [left_nat, List.eraseIdx_of_length_le (by omega)]
  · unfold left
    have : (fun i : Nat => decide ((i : Int) ≠ x)) = fun _ => true := by funext i; exact decide_eq_true (by omega)
    rw [this, kept_all _ _ (Nat.le_refl _), List.take_length]
theorem reads_cap {w : World} {base g n c : Nat} {q : List ByteArray} (h : Reads w base (.slice (some ⟨g, 0, none⟩) n c) q) : n ≤ c ∧ c ≤ maxLen := by
  obtain ⟨h1, ⟨h2, h3⟩ | ⟨g', cap, cur, he, hb, hg, r1, r2, rest⟩⟩ := h
  · cases h2
  · cases he
    exact ⟨r1, r2⟩
theorem txt_take (q : List ByteArray) (m : Nat) : txt (q.take m) = (txt q).take m := by simp [txt]
theorem txt_drop (q : List ByteArray) (m : Nat) : txt (q.drop m) = (txt q).drop m := by simp [txt]

set_option maxHeartbeats 2000000 in
theorem rl_take {w : World} {r hi k : Nat} {n : Int} {L : Lanes} (h : Rl w r hi n L k) (hk : k ≤ 999) (a b at_ : Int) :
    Calls Try.prog 14 #[at0 r, .int .i64 a, .int .i64 b, .int .i64 at_] w fun e w' => e = .returned (.tuple #[.string (takeText L a b at_), .bool (takeIs L a b at_)]) ∧ Rl w' r hi n (takeL L a b at_) (k + 1) ∧ Only r w w' := by
  have HR := Lib.hid h
  obtain ⟨v, hv, hv32, hri, hon⟩ := rl_on h (by omega) a b
  have HV := Lib.hid hv
  have HV32 := Lib.hid hv32
  have HON := Lib.hid hon
  have HK := Lib.hid hk
  have HLT := Lib.hid h.lt
  clear h hv hv32 hon hk
  by_cases hin : 0 ≤ at_ ∧ at_ < (L a b).length
  · obtain ⟨m, rfl⟩ : ∃ n : Nat, at_ = n := ⟨at_.toNat, by omega⟩
    have hml : m < (L a b).length := by omega
    have HE : Hid (takeText L a b m = (L a b).getD m nul ∧ takeIs L a b m = true ∧ takeL L a b m = updL L a b ((L a b).take m ++ (L a b).drop (m + 1))) := Lib.hid ⟨by unfold takeText got; rw [if_pos hin]; simp, by unfold takeIs was; exact decide_eq_true hin, by unfold takeL; rw [left_nat, List.eraseIdx_eq_take_drop_succ]⟩
    rw [HE.out.1, HE.out.2.1, HE.out.2.2]
    have HRI := Lib.hid (hri (by intro h0; rw [h0] at hml; simp at hml))
    clear HE hri hin
    generalize L a b = q at *
    obtain ⟨_, h0⟩ | ⟨g, cap, rfl, hg, hcs⟩ := reads_len HV.out
    · rw [h0] at hml; simp at hml
    have HML := Lib.hid hml
    have HCP := Lib.hid (reads_cap HV.out)
    have HCS := Lib.hid hcs
    have hx1 : (m : Int) < (q.length : Int) := by omega
    have hx2 : (m : Int) ≤ (cap : Int) := by have := HCP.out.1; omega
    have hx3 : (m : Int) + 1 ≤ (q.length : Int) := by omega
    have hx4 : (q.length : Int) ≤ 32 := by have := HV32.out; omega
    obtain ⟨i0, hi0, hz0, hz1, hz2⟩ := info9
    have hown0 : (w.alloc (.cells #[] 9)).ownsRow w.heap.size 9 1 (.slice (some ⟨w.heap.size, 0, none⟩) 0 0) 0 [] := World.ownsRow_made w #[] 0 (Nat.le_refl _) (by unfold maxLen; omega) rfl
    have HB0 : Hid (Below w.heap.size w (w.alloc (.cells #[] 9))) := Lib.hid ((Below.refl _ _).alloc (Nat.le_refl _) _)
    have HC0 := Lib.hid (World.ownsRow.cells HV.out (g := g) rfl)
    have HNEW : Hid (∀ j u, (txt (q.take m))[j]? = some u → (w.alloc (.cells #[] 9)).cell? ((⟨g, 0, none⟩ : Addr).add j) = some u) := Lib.hid fun j u hu =>
      World.ownsRow.cells (row_below HV.out HB0.out) rfl j u (by rw [txt_take] at hu; rw [List.getElem?_take] at hu; split at hu <;> simp_all)
    clear hcs hml
    go_enter Try.func14, Try.ntmps14
    go_wp2_with fail
    refine (HON.out).mono ?_
    rintro e w' ⟨rfl, rfl⟩
    by_cases hcap : cap = m + 1
    · subst hcap
      go_wp2_with (first
        | (at_builtin; refine wpList_append_own _ rfl _ _ 41 rfl w.heap.size 9 i0 (.string ByteArray.empty) 1 16 Try.underlying41 hi0 hz0 hz1 hz2 rfl (by decide) _ _ _ rfl hown0 ⟨g, 0, none⟩ m _ (txt (q.take m)) rfl (by rw [txt_length, List.length_take, Nat.mul_one]; have := HML.out; omega) HNEW.out (fun x hx => txt_one hx) (by have := HML.out; have := HV32.out; unfold maxLen; omega) (by have := HML.out; have := HV32.out; omega) HB0.out.size ?_; intro v2 w4 hown2 hgrow2 hnil2
           have HB4 := Lib.hid (below_grown HB0.out HB0.out.size hgrow2 (fun k hk => (hown0.lt k hk).1))
           have HN2 : Hid (v2 ≠ .slice none 0 0) := Lib.hid (by intro hh; cases (hnil2.1 hh).1)
           rw [List.nil_append, Nat.zero_add] at hown2
           have HO2 := Lib.hid hown2
           have c4 : w4.cell? ⟨g, m, none⟩ = some (.string (q.getD m nul)) := by rw [HB4.out.cell (p := ⟨g, m, none⟩) (World.block_lt_of_cell? w _ (HCS.out m HML.out))]; exact HCS.out m HML.out
           clear hgrow2 hnil2 hown2)
        | (at_builtin; refine wpList_append_own _ rfl _ _ 41 rfl w.heap.size 9 i0 (.string ByteArray.empty) 1 16 Try.underlying41 hi0 hz0 hz1 hz2 rfl (by decide) _ _ _ rfl HO2.out _ _ _ (txt (q.drop (m + 1))) rfl (by rw [txt_length, List.length_drop, Nat.mul_one]) (fun j u hu => by rw [List.drop_eq_nil_of_le (by have := HCP.out.1; omega)] at hu; simp [txt] at hu) (fun x hx => txt_one hx) (by have := HML.out; have := HV32.out; unfold maxLen; omega) (by have := HML.out; have := HV32.out; omega) HB4.out.size ?_; intro v3 w5 hown3 hgrow3 hnil3
           have HB5 := Lib.hid (below_grown HB4.out HB4.out.size hgrow3 (fun k hk => (HO2.out.lt k hk).1))
           obtain ⟨g3, c3, rfl⟩ := slice_of hown3 (fun hh => HN2.out (hnil3.1 hh).1)
           rw [← txt_append] at hown3
           have HO3 := Lib.hid hown3
           clear hgrow3 hnil3 hown3))
      refine (rl_set (HR.out.below HB5.out) HK.out a b HRI.out g3 c3 (m + (q.length - (m + 1))) (q.take m ++ q.drop (m + 1)) (by have := HML.out; rw [List.length_append, List.length_take, List.length_drop]; omega) (by have := HML.out; have := HV32.out; omega) (row_low HO3.out (by have := HLT.out; omega))).mono ?_
      rintro e w' ⟨rfl, h6, ho6⟩
      have H6 := Lib.hid h6
      have HO6 := Lib.hid ((Only.of_below HB5.out).trans ho6)
      clear h6 ho6
      go_wp2_with fail
      go_ret2
      exact ⟨rfl, H6.out, HO6.out⟩
    · have HNEW2 : Hid (∀ w4, Below w.heap.size w w4 → ∀ j u, (txt (q.drop (m + 1)))[j]? = some u → w4.cell? ((⟨g, m + 1, none⟩ : Addr).add j) = some u) := Lib.hid fun w4 hb j u hu => by
        have := World.ownsRow.cells (row_below HV.out hb) (g := g) rfl (m + 1 + j) u (by rw [txt_drop, List.getElem?_drop] at hu; exact hu)
        rw [add_at] at this ⊢
        rwa [Nat.zero_add] at this
      go_wp2_with (first
        | (at_builtin; refine wpList_append_own _ rfl _ _ 41 rfl w.heap.size 9 i0 (.string ByteArray.empty) 1 16 Try.underlying41 hi0 hz0 hz1 hz2 rfl (by decide) _ _ _ rfl hown0 ⟨g, 0, none⟩ m cap (txt (q.take m)) rfl (by rw [txt_length, List.length_take, Nat.mul_one]; have := HML.out; omega) HNEW.out (fun x hx => txt_one hx) (by have := HML.out; have := HV32.out; unfold maxLen; omega) (by have := HML.out; have := HV32.out; omega) HB0.out.size ?_; intro v2 w4 hown2 hgrow2 hnil2
           have HB4 := Lib.hid (below_grown HB0.out HB0.out.size hgrow2 (fun k hk => (hown0.lt k hk).1))
           have HN2 : Hid (v2 ≠ .slice none 0 0) := Lib.hid (by intro hh; cases (hnil2.1 hh).1)
           rw [List.nil_append, Nat.zero_add] at hown2
           have HO2 := Lib.hid hown2
           have c4 : w4.cell? ⟨g, m, none⟩ = some (.string (q.getD m nul)) := by rw [HB4.out.cell (p := ⟨g, m, none⟩) (World.block_lt_of_cell? w _ (HCS.out m HML.out))]; exact HCS.out m HML.out
           clear hgrow2 hnil2 hown2)
        | (at_builtin; refine wpList_append_own _ rfl _ _ 41 rfl w.heap.size 9 i0 (.string ByteArray.empty) 1 16 Try.underlying41 hi0 hz0 hz1 hz2 rfl (by decide) _ _ _ rfl HO2.out ⟨g, m + 1, none⟩ (q.length - (m + 1)) (cap - (m + 1)) (txt (q.drop (m + 1))) rfl (by rw [txt_length, List.length_drop, Nat.mul_one]) (HNEW2.out w4 HB4.out) (fun x hx => txt_one hx) (by have := HML.out; have := HV32.out; unfold maxLen; omega) (by have := HML.out; have := HV32.out; omega) HB4.out.size ?_; intro v3 w5 hown3 hgrow3 hnil3
           have HB5 := Lib.hid (below_grown HB4.out HB4.out.size hgrow3 (fun k hk => (HO2.out.lt k hk).1))
           obtain ⟨g3, c3, rfl⟩ := slice_of hown3 (fun hh => HN2.out (hnil3.1 hh).1)
           rw [← txt_append] at hown3
           have HO3 := Lib.hid hown3
           clear hgrow3 hnil3 hown3))
      refine (rl_set (HR.out.below HB5.out) HK.out a b HRI.out g3 c3 (m + (q.length - (m + 1))) (q.take m ++ q.drop (m + 1)) (by have := HML.out; rw [List.length_append, List.length_take, List.length_drop]; omega) (by have := HML.out; have := HV32.out; omega) (row_low HO3.out (by have := HLT.out; omega))).mono ?_
      rintro e w' ⟨rfl, h6, ho6⟩
      have H6 := Lib.hid h6
      have HO6 := Lib.hid ((Only.of_below HB5.out).trans ho6)
      clear h6 ho6
      go_wp2_with fail
      go_ret2
      exact ⟨rfl, H6.out, HO6.out⟩
  · have HE : Hid (takeText L a b at_ = nul ∧ takeIs L a b at_ = false ∧ takeL L a b at_ = L) := Lib.hid ⟨by unfold takeText got; rw [if_neg hin], by unfold takeIs was; exact decide_eq_false hin, by unfold takeL; rw [left_out hin, updL_self]⟩
    rw [HE.out.1, HE.out.2.1, HE.out.2.2]
    clear HE hri
    generalize L a b = q at *
    have hor : at_ < 0 ∨ 0 ≤ at_ ∧ (q.length : Int) ≤ at_ := by omega
    clear hin
    obtain ⟨rfl, rfl⟩ | ⟨g, cap, rfl, hg, hcs⟩ := reads_len HV.out
    · unfold nilV at HON
      go_enter Try.func14, Try.ntmps14
      go_wp2_with fail
      refine (HON.out).mono ?_
      rintro e w' ⟨rfl, rfl⟩
      have hor2 : at_ < 0 ∨ 0 ≤ at_ := by omega
      clear hor
      rcases hor2 with h0 | h0
      all_goals
        go_wp2_with fail
        go_ret2
        exact ⟨rfl, HR.out.more (by omega), Only.refl _ _⟩
    · clear hcs
      go_enter Try.func14, Try.ntmps14
      go_wp2_with fail
      refine (HON.out).mono ?_
      rintro e w' ⟨rfl, rfl⟩
      rcases hor with h0 | ⟨h0, h1⟩
      all_goals
        go_wp2_with fail
        go_ret2
        exact ⟨rfl, HR.out.more (by omega), Only.refl _ _⟩

theorem twice_ref {n : Int} {L : Lanes} {a b at_ : Int} (hri : L a b ≠ [] → right n a b) (hin : 0 ≤ at_ ∧ at_ < (L a b).length) : twiceOut L a b at_ = (sendOut n L a b == 0) ∧ twiceL L a b at_ = sendL n L a b ((L a b).getD at_.toNat nul) := by
  have hr : right n a b := hri (by intro h0; rw [h0] at hin; simp at hin; omega)
  have h1 : takeIs L a b at_ = true := by unfold takeIs was; exact decide_eq_true hin
  have h2 : takeText L a b at_ = (L a b).getD at_.toNat nul := by unfold takeText got; rw [if_pos hin]
  unfold twiceL twiceOut sendOut sendL
  rw [h1, h2, if_pos hr]
  by_cases hlt : (L a b).length < 32
  · simp [hlt, hr]
  · simp [hlt]

set_option maxHeartbeats 2000000 in
theorem rl_twice {w : World} {r hi k : Nat} {n : Int} {L : Lanes} (h : Rl w r hi n L k) (hk : k ≤ 999) (a b at_ : Int) :
    Calls Try.prog 16 #[at0 r, .int .i64 a, .int .i64 b, .int .i64 at_] w fun e w' => e = .returned (.bool (twiceOut L a b at_)) ∧ Rl w' r hi n (twiceL L a b at_) (k + 1) ∧ Only r w w' := by
  have HR := Lib.hid h
  obtain ⟨v, hv, hv32, hri, hon⟩ := rl_on h (by omega) a b
  have HV := Lib.hid hv
  have HON := Lib.hid hon
  by_cases hin : 0 ≤ at_ ∧ at_ < (L a b).length
  · obtain ⟨t1, t2⟩ := twice_ref hri hin
    rw [t1, t2]
    have HS := Lib.hid (rl_send h hk a b ((L a b).getD at_.toNat nul))
    clear t1 t2 h hv hon hri
    generalize sendOut n L a b = so at *
    generalize sendL n L a b ((L a b).getD at_.toNat nul) = sl at *
    generalize L a b = q at *
    obtain ⟨m, rfl⟩ : ∃ n : Nat, at_ = n := ⟨at_.toNat, by omega⟩
    rw [Int.toNat_natCast] at HS
    have hml : m < q.length := by omega
    obtain ⟨_, h0⟩ | ⟨g, cap, rfl, hg, hcs⟩ := reads_len HV.out
    · rw [h0] at hml; simp at hml
    have hx1 : (m : Int) < (q.length : Int) := by omega
    have c4 := hcs m hml
    generalize q.getD m nul = X at *
    clear hcs hin hml hv32 hk
    go_enter Try.func16, Try.ntmps16
    go_wp2_with fail
    refine (HON.out).mono ?_
    rintro e w' ⟨rfl, rfl⟩
    go_wp2_with fail
    refine (HS.out).mono ?_
    rintro e w' ⟨rfl, h6, ho6⟩
    have H6 := Lib.hid h6
    have HO6 := Lib.hid ho6
    clear h6 ho6
    go_wp2_with fail
    go_ret
    exact ⟨rfl, H6.out, HO6.out⟩
  · have HE : Hid (twiceOut L a b at_ = false ∧ twiceL L a b at_ = L) := Lib.hid (by
      have h1 : twiceOut L a b at_ = false := by unfold twiceOut takeIs was; rw [decide_eq_false hin]; rfl
      exact ⟨h1, by unfold twiceL; rw [h1]; rfl⟩)
    rw [HE.out.1, HE.out.2]
    clear HE h hv hon hri
    generalize L a b = q at *
    have hor : at_ < 0 ∨ 0 ≤ at_ ∧ (q.length : Int) ≤ at_ := by omega
    clear hin hv32 hk
    obtain ⟨rfl, rfl⟩ | ⟨g, cap, rfl, hg, hcs⟩ := reads_len HV.out
    · unfold nilV at HON
      go_enter Try.func16, Try.ntmps16
      go_wp2_with fail
      refine (HON.out).mono ?_
      rintro e w' ⟨rfl, rfl⟩
      have hor2 : at_ < 0 ∨ 0 ≤ at_ := by omega
      clear hor
      rcases hor2 with h0 | h0
      all_goals
        go_wp2_with fail
        go_ret
        exact ⟨rfl, HR.out.more (by omega), Only.refl _ _⟩
    · clear hcs
      go_enter Try.func16, Try.ntmps16
      go_wp2_with fail
      refine (HON.out).mono ?_
      rintro e w' ⟨rfl, rfl⟩
      rcases hor with h0 | ⟨h0, h1⟩
      all_goals
        go_wp2_with fail
        go_ret
        exact ⟨rfl, HR.out.more (by omega), Only.refl _ _⟩

end Go.Proofs.Ytbkgnkiimnlbcaa
