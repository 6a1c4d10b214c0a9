/- The walk of the law OctetBack where the numbers are empty and the texts are not empty: it returns true and writes only blocks of its own. Conditions: what was read lies within the form's reach. -/
import Derived.Test.YtlbhibilhbhidaaBack
import Derived.Deep.RegionHeld3
import Derived.Deep.DeepMust
namespace Go.Proofs.Ytlbhibilhbhidaa
open Go.RowKit Go.Deep

set_option maxRecDepth 100000 in
set_option maxHeartbeats 4000000 in
theorem back_en (an : Option Addr) (cn : Nat) (bt ot lt ct : Nat) (Z : Nat → Nat) (T : Nat → ByteArray) (behind : ByteArray) (w : World) (hs : behind.size ≤ 140737488351232)  (hbt : bt < w.heap.size) (hT : ∀ i, i < lt → w.cell? ⟨bt, ot + i, none⟩ = some (.string (T i)) ∧ (T i).size ≤ 140737488351232) :
    Calls Try.prog 5 #[.slice an 0 cn, .slice (some ⟨bt, ot, none⟩) lt ct, .string behind] w fun e w' => e = .returned (.bool true) ∧ Below w.heap.size w w' := by
  obtain ⟨m, em, eM, hml, hm50⟩ := mins1 lt
  have hor : ∀ k, k < m → k < 0 ∨ k < m := fun k h => .inr h
  have HT := Lib.hid hT
  clear hT
  have HS := Lib.hid hs
  have HOR := Lib.hid hor
  clear hs hor
  go_enter Try.func5, Try.ntmps5
  go_wp2_with fail
  refine (awake_any _).mono ?_
  rintro e w1 ⟨rfl, hb1⟩
  go_wp2_with fail
  clear em
  go_loopw [7, 10] (fun c i wr => ∃ k : Nat, k ≤ m ∧ i = .int .i64 k ∧ c = .string (built 0 m Z T k) ∧ (built 0 m Z T k).size ≤ 1048576 ∧ Below w.heap.size w wr) (fun _ i _ => m - (intOf i).toNat)
  case atStart => exact ⟨0, by omega, rfl, rfl, Nat.zero_le _, hb1⟩
  case round =>
    obtain ⟨k, hk, rfl, rfl, hsz, hbel⟩ := hrel
    by_cases hlt : k < m
    · have h1 : ¬ k < 0 := by omega
      have h2 : k < m := (HOR.out k hlt).resolve_left h1
      have c2 := (HT.out k (by omega)).1
      rw [← hbel.cell (p := ⟨bt, ot + k, none⟩) hbt] at c2
      obtain ⟨X, b, Y, eX, eY, C2, cat1⟩ := wr_ft (Z := Z) h1 h2 hsz (HT.out k (by omega)).2
      have HY := Lib.hid eY
      rw [eX]
      have HC2 := Lib.hid C2
      have Hbel := Lib.hid hbel
      clear eX eY C2 hsz hbel
      generalize T k = t at *
      go_wp2_with fail
      refine (HC2.out _).mono ?_
      rintro e v1 ⟨rfl, hv1⟩
      have WB := Lib.hid (below_step Hbel.out hv1)
      clear hv1 c2
      by_cases hbig : 1048576 < Y.size
      · go_wp2_with fail
        go_ret
        exact ⟨rfl, WB.out⟩
      · go_wp2_with fail
        go_roundw
        case rel => exact ⟨k + 1, by omega, by go_num, by rw [HY.out], by rw [HY.out]; omega, WB.out⟩
        case measure => simp [intOf]; omega
    · obtain rfl : m = k := by omega
      have hcat := w_cat (built 0 m Z T m) behind (by have := HS.out; omega)
      rw [← at_start] at hcat
      have HSZ := Lib.hid hsz
      have Hbel := Lib.hid hbel
      clear hsz hbel hb1
      generalize built 0 m Z T m = X at hcat ⊢
      go_wp2_with fail
      refine (new_any _ _).mono ?_
      rintro e w3 ⟨rfl, hr3, hb3, hl3⟩
      have HP : Hid (w.heap.size ≤ wr.heap.size) := Hbel.out.size
      have R3 := Lib.hid hr3
      have W3 := Lib.hid (below_step Hbel.out hb3)
      clear hr3 hb3 hl3 Hbel
      generalize wr.heap.size = p at *
      go_wp2_with fail
      go_loopw [12] (fun i wv => ∃ k : Nat, k ≤ m ∧ i = .int .i64 k ∧ Rd wv p (some (at_ 0 m Z T m behind k)) ∧ Below w.heap.size w wv) (fun i _ => m - (intOf i).toNat)
      case atStart => exact ⟨0, by omega, rfl, R3.out, W3.out⟩
      case round =>
        obtain ⟨k, hk, rfl, hrd, hbel⟩ := hrel
        by_cases hlt : k < m
        · have h1 : ¬ k < 0 := by omega
          have h2 : k < m := (HOR.out k hlt).resolve_left h1
          have c2 := (HT.out k (by omega)).1
          rw [← hbel.cell (p := ⟨bt, ot + k, none⟩) hbt] at c2
          rw [at_step Z T behind hlt, part_ft Z T h1 h2] at hrd
          have HTS : Hid ((T k).size ≤ 1048576) := Lib.hid (by have := built_mono 0 m Z T m k hlt h2; have := HSZ.out; omega)
          have HRD := Lib.hid hrd
          have Hbel := Lib.hid hbel
          have hd1 : decide ((k : Int) < (0 : Int)) = false := by simp <;> omega
          have hd3 : decide (k < 0) = false := by simp <;> omega
          have hd2 : decide ((k : Int) < (m : Int)) = true := by simp; omega
          have hi2 : (k : Int) < (lt : Int) := by omega
          clear hrd hbel
          obtain ⟨x, hx⟩ : ∃ x, at_ 0 m Z T m behind (k + 1) = x := ⟨_, rfl⟩
          rw [hx] at HRD
          have HX := Lib.hid hx
          clear hx
          generalize T k = t at *
          go_wp2
          refine wp_region_held_drew (S := fun W' => W'.cell? ⟨bt, ot + k, none⟩ = some (.string t)) (by kernel_rfl) c2 (fun hHeld => ?_)
          refine wpAnyH_take (i := 0) (oi := ⟨some 62, .move (.tmp 12), _, _, _, _⟩) (v := ?_) rfl (by kernel_rfl) (by kernel_rfl) (by kernel_rfl) (fun _ _ _ h => h) (Or.inl ⟨by rfl, ?_⟩) (by assumption) ?_
          rotate_left
          · intro w' hSw
            try dsimp only at hSw
            go_simp
            try with_reducible rfl
          simp only [Act.put, List.setIfInBounds_toArray, List.set_cons_zero, List.set_cons_succ]
          refine wpAnyH_take (i := 1) (oi := ⟨some 63, .move (.tmp 8), _, _, _, _⟩) (v := ?_) rfl (by kernel_rfl) (by kernel_rfl) (by kernel_rfl) (fun _ _ _ h => h) (Or.inl ⟨by rfl, ?_⟩) (by assumption) ?_
          rotate_left
          · intro w' hSw
            try dsimp only at hSw
            go_simp
            try with_reducible rfl
          simp only [Act.put, List.setIfInBounds_toArray, List.set_cons_zero, List.set_cons_succ]
          refine wpAnyH_take (i := 2) (oi := ⟨some 64, .binOp .lss 3 (.tmp 62) (.tmp 63) 3, _, _, _, _⟩) (v := ?_) rfl (by kernel_rfl) (by kernel_rfl) (by kernel_rfl) (fun _ _ _ h => h) (Or.inl ⟨by rfl, ?_⟩) (by assumption) ?_
          rotate_left
          · intro w' hSw
            try dsimp only at hSw
            go_simp
            try with_reducible rfl
          simp only [Act.put, List.setIfInBounds_toArray, List.set_cons_zero, List.set_cons_succ]
          refine wpAnyH_take (i := 3) (oi := ⟨some 65, .move (.tmp 64), _, _, _, _⟩) (v := ?_) rfl (by kernel_rfl) (by kernel_rfl) (by kernel_rfl) (fun _ _ _ h => h) (Or.inl ⟨by rfl, ?_⟩) (by assumption) ?_
          rotate_left
          · intro w' hSw
            try dsimp only at hSw
            go_simp
            try with_reducible rfl
          simp only [Act.put, List.setIfInBounds_toArray, List.set_cons_zero, List.set_cons_succ]
          refine wpAnyH_take (i := 4) (oi := ⟨some 66, .move (.tmp 11), _, _, _, _⟩) (v := undef) rfl (by kernel_rfl) (by kernel_rfl) (by kernel_rfl) (fun _ _ _ h => h) (Or.inr ⟨by rfl, rfl⟩) (by assumption) ?_
          simp only [Act.put, List.setIfInBounds_toArray, List.set_cons_zero, List.set_cons_succ]
          refine wpAnyH_take (i := 6) (oi := ⟨some 68, .move (.tmp 0), _, _, _, _⟩) (v := undef) rfl (by kernel_rfl) (by kernel_rfl) (by kernel_rfl) (fun _ _ _ h => h) (Or.inr ⟨by rfl, rfl⟩) (by assumption) ?_
          simp only [Act.put, List.setIfInBounds_toArray, List.set_cons_zero, List.set_cons_succ]
          refine wpAnyH_take (i := 7) (oi := ⟨some 69, .move (.tmp 12), _, _, _, _⟩) (v := undef) rfl (by kernel_rfl) (by kernel_rfl) (by kernel_rfl) (fun _ _ _ h => h) (Or.inr ⟨by rfl, rfl⟩) (by assumption) ?_
          simp only [Act.put, List.setIfInBounds_toArray, List.set_cons_zero, List.set_cons_succ]
          refine wpAnyH_take (i := 8) (oi := ⟨some 70, .indexAddr 40 (.tmp 68) (.tmp 69), _, _, _, _⟩) (v := undef) rfl (by kernel_rfl) (by kernel_rfl) (by kernel_rfl) (fun _ _ _ h => h) (Or.inr ⟨by rfl, rfl⟩) (by assumption) ?_
          simp only [Act.put, List.setIfInBounds_toArray, List.set_cons_zero, List.set_cons_succ]
          refine wpAnyH_take (i := 9) (oi := ⟨some 71, .load 22 (.tmp 70), _, _, _, _⟩) (v := undef) rfl (by kernel_rfl) (by kernel_rfl) (by kernel_rfl) (fun _ _ _ h => h) (Or.inr ⟨by rfl, rfl⟩) (by assumption) ?_
          simp only [Act.put, List.setIfInBounds_toArray, List.set_cons_zero, List.set_cons_succ]
          refine wpAnyH_ready (rs := [5]) (by kernel_rfl) (by simp) ?_
          refine AllReadyH.cons (o := ⟨some 67, _, _, _, _, _⟩) rfl (fun K hK => ?_) AllReadyH.nil
          rw [if_neg (by intro h; cases h)]
          refine hK.out _ _ (by assumption) (fun hHeld2 => ?_)
          clear hK K
          simp only [Act.put, List.setIfInBounds_toArray, List.set_cons_zero, List.set_cons_succ]
          refine wpAnyH_take (i := 10) (oi := ⟨some 72, .binOp .neq 22 (.tmp 67) (.tmp 71) 22, _, _, _, _⟩) (v := undef) rfl (by kernel_rfl) (by kernel_rfl) (by kernel_rfl) (fun _ _ _ h => h) (Or.inr ⟨by rfl, rfl⟩) (by assumption) ?_
          simp only [Act.put, List.setIfInBounds_toArray, List.set_cons_zero, List.set_cons_succ]
          refine wpAnyH_take (i := 11) (oi := ⟨some 73, .pick (.tmp 65) (.tmp 72) (.const (.bool false)), _, _, _, _⟩) (v := ?_) rfl (by kernel_rfl) (by kernel_rfl) (by kernel_rfl) (fun _ _ _ h => h) (Or.inl ⟨by rfl, ?_⟩) (by assumption) ?_
          rotate_left
          · intro w' hSw
            try dsimp only at hSw
            go_simp
            try with_reducible rfl
          simp only [Act.put, List.setIfInBounds_toArray, List.set_cons_zero, List.set_cons_succ]
          refine wpAnyH_take (i := 12) (oi := ⟨some 74, .move (.tmp 73), _, _, _, _⟩) (v := ?_) rfl (by kernel_rfl) (by kernel_rfl) (by kernel_rfl) (fun _ _ _ h => h) (Or.inl ⟨by rfl, ?_⟩) (by assumption) ?_
          rotate_left
          · intro w' hSw
            try dsimp only at hSw
            go_simp
            try with_reducible rfl
          simp only [Act.put, List.setIfInBounds_toArray, List.set_cons_zero, List.set_cons_succ]
          refine wpAnyH_take (i := 13) (oi := ⟨some 75, .move (.tmp 12), _, _, _, _⟩) (v := ?_) rfl (by kernel_rfl) (by kernel_rfl) (by kernel_rfl) (fun _ _ _ h => h) (Or.inl ⟨by rfl, ?_⟩) (by assumption) ?_
          rotate_left
          · intro w' hSw
            try dsimp only at hSw
            go_simp
            try with_reducible rfl
          simp only [Act.put, List.setIfInBounds_toArray, List.set_cons_zero, List.set_cons_succ]
          refine wpAnyH_take (i := 14) (oi := ⟨some 76, .move (.tmp 9), _, _, _, _⟩) (v := ?_) rfl (by kernel_rfl) (by kernel_rfl) (by kernel_rfl) (fun _ _ _ h => h) (Or.inl ⟨by rfl, ?_⟩) (by assumption) ?_
          rotate_left
          · intro w' hSw
            try dsimp only at hSw
            go_simp
            try with_reducible rfl
          simp only [Act.put, List.setIfInBounds_toArray, List.set_cons_zero, List.set_cons_succ]
          refine wpAnyH_take (i := 15) (oi := ⟨some 77, .binOp .lss 3 (.tmp 75) (.tmp 76) 3, _, _, _, _⟩) (v := ?_) rfl (by kernel_rfl) (by kernel_rfl) (by kernel_rfl) (fun _ _ _ h => h) (Or.inl ⟨by rfl, ?_⟩) (by assumption) ?_
          rotate_left
          · intro w' hSw
            try dsimp only at hSw
            go_simp
            try with_reducible rfl
          simp only [Act.put, List.setIfInBounds_toArray, List.set_cons_zero, List.set_cons_succ]
          refine wpAnyH_take (i := 16) (oi := ⟨some 78, .move (.tmp 77), _, _, _, _⟩) (v := ?_) rfl (by kernel_rfl) (by kernel_rfl) (by kernel_rfl) (fun _ _ _ h => h) (Or.inl ⟨by rfl, ?_⟩) (by assumption) ?_
          rotate_left
          · intro w' hSw
            try dsimp only at hSw
            go_simp
            try with_reducible rfl
          simp only [Act.put, List.setIfInBounds_toArray, List.set_cons_zero, List.set_cons_succ]
          refine wpAnyH_take (i := 17) (oi := ⟨some 79, .move (.tmp 11), _, _, _, _⟩) (v := ?_) rfl (by kernel_rfl) (by kernel_rfl) (by kernel_rfl) (fun _ _ _ h => h) (Or.inl ⟨by rfl, ?_⟩) (by assumption) ?_
          rotate_left
          · intro w' hSw
            try dsimp only at hSw
            go_simp
            try with_reducible rfl
          simp only [Act.put, List.setIfInBounds_toArray, List.set_cons_zero, List.set_cons_succ]
          refine wpAnyH_take (i := 19) (oi := ⟨some 81, .move (.tmp 1), _, _, _, _⟩) (v := ?_) rfl (by kernel_rfl) (by kernel_rfl) (by kernel_rfl) (fun _ _ _ h => h) (Or.inl ⟨by rfl, ?_⟩) (by assumption) ?_
          rotate_left
          · intro w' hSw
            try dsimp only at hSw
            go_simp
            try with_reducible rfl
          simp only [Act.put, List.setIfInBounds_toArray, List.set_cons_zero, List.set_cons_succ]
          refine wpAnyH_take (i := 20) (oi := ⟨some 82, .move (.tmp 12), _, _, _, _⟩) (v := ?_) rfl (by kernel_rfl) (by kernel_rfl) (by kernel_rfl) (fun _ _ _ h => h) (Or.inl ⟨by rfl, ?_⟩) (by assumption) ?_
          rotate_left
          · intro w' hSw
            try dsimp only at hSw
            go_simp
            try with_reducible rfl
          simp only [Act.put, List.setIfInBounds_toArray, List.set_cons_zero, List.set_cons_succ]
          refine wpAnyH_take (i := 21) (oi := ⟨some 83, .indexAddr 41 (.tmp 81) (.tmp 82), _, _, _, _⟩) (v := ?_) rfl (by kernel_rfl) (by kernel_rfl) (by kernel_rfl) (fun _ _ _ h => h) (Or.inl ⟨by rfl, ?_⟩) (by assumption) ?_
          rotate_left
          · intro w' hSw
            try dsimp only at hSw
            go_simp
            try with_reducible rfl
          simp only [Act.put, List.setIfInBounds_toArray, List.set_cons_zero, List.set_cons_succ]
          refine wpAnyH_take (i := 22) (oi := ⟨some 84, .load 9 (.tmp 83), _, _, _, _⟩) (v := ?_) rfl (by kernel_rfl) (by kernel_rfl) (by kernel_rfl) (fun _ _ _ h => h) (Or.inl ⟨by rfl, ?_⟩) (by assumption) ?_
          rotate_left
          · intro w' hSw
            try dsimp only at hSw
            go_simp
            try with_reducible rfl
          simp only [Act.put, List.setIfInBounds_toArray, List.set_cons_zero, List.set_cons_succ]
          refine wpAnyH_ready (rs := [18]) (by kernel_rfl) (by simp) ?_
          refine AllReadyH.cons (o := ⟨some 80, _, _, _, _, _⟩) rfl (fun K hK => ?_) AllReadyH.nil
          go_simp
          refine (r_text p t x HTS.out _ (by exact HRD.out)).mono ?_
          rintro e v1 ⟨rfl, hr1, ho0⟩
          have ho1 := ((Only.refl p wr).drew).trans ho0
          have R1 := Lib.hid hr1
          have O1 := Lib.hid ho1
          have c21 := only_cell Hbel.out ho1 HP.out hbt c2
          clear hr1 ho1 ho0
          go_wp2_with fail
          refine hK.out _ _ c21 (fun hHeld18 => ?_)
          clear hK K
          refine wpAnyH_take (i := 23) (oi := ⟨some 85, .binOp .neq 9 (.tmp 80) (.tmp 84) 9, _, _, _, _⟩) (v := ?_) rfl (by kernel_rfl) (by kernel_rfl) (by kernel_rfl) (fun _ _ _ h => h) (Or.inl ⟨by rfl, ?_⟩) (by assumption) ?_
          rotate_left
          · intro w' hSw
            try dsimp only at hSw
            go_simp
            try with_reducible rfl
          simp only [Act.put, List.setIfInBounds_toArray, List.set_cons_zero, List.set_cons_succ]
          refine wpAnyH_take (i := 24) (oi := ⟨some 86, .pick (.tmp 78) (.tmp 85) (.const (.bool false)), _, _, _, _⟩) (v := ?_) rfl (by kernel_rfl) (by kernel_rfl) (by kernel_rfl) (fun _ _ _ h => h) (Or.inl ⟨by rfl, ?_⟩) (by assumption) ?_
          rotate_left
          · intro w' hSw
            try dsimp only at hSw
            go_simp
            try with_reducible rfl
          simp only [Act.put, List.setIfInBounds_toArray, List.set_cons_zero, List.set_cons_succ]
          refine wpAnyH_take (i := 25) (oi := ⟨some 87, .pick (.tmp 74) (.const (.bool true)) (.tmp 86), _, _, _, _⟩) (v := ?_) rfl (by kernel_rfl) (by kernel_rfl) (by kernel_rfl) (fun _ _ _ h => h) (Or.inl ⟨by rfl, ?_⟩) (by assumption) ?_
          rotate_left
          · intro w' hSw
            try dsimp only at hSw
            go_simp
            try with_reducible rfl
          simp only [Act.put, List.setIfInBounds_toArray, List.set_cons_zero, List.set_cons_succ]
          refine wpAnyH_take (i := 26) (oi := ⟨some 88, .move (.tmp 87), _, _, _, _⟩) (v := ?_) rfl (by kernel_rfl) (by kernel_rfl) (by kernel_rfl) (fun _ _ _ h => h) (Or.inl ⟨by rfl, ?_⟩) (by assumption) ?_
          rotate_left
          · intro w' hSw
            try dsimp only at hSw
            go_simp
            try with_reducible rfl
          simp only [Act.put, List.setIfInBounds_toArray, List.set_cons_zero, List.set_cons_succ]
          refine wpAnyH_take (i := 27) (oi := ⟨some 89, .move (.tmp 11), _, _, _, _⟩) (v := ?_) rfl (by kernel_rfl) (by kernel_rfl) (by kernel_rfl) (fun _ _ _ h => h) (Or.inl ⟨by rfl, ?_⟩) (by assumption) ?_
          rotate_left
          · intro w' hSw
            try dsimp only at hSw
            go_simp
            try with_reducible rfl
          simp only [Act.put, List.setIfInBounds_toArray, List.set_cons_zero, List.set_cons_succ]
          refine wpAnyH_ready (rs := [28]) (by kernel_rfl) (by simp) ?_
          refine AllReadyH.cons (o := ⟨some 90, _, _, _, _, _⟩) rfl (fun K hK => ?_) AllReadyH.nil
          go_simp
          refine (r_bad p x _ (by exact R1.out)).mono ?_
          rintro e v3 ⟨rfl, rfl⟩
          go_wp2_with fail
          refine hK.out _ _ c21 (fun hHeld28 => ?_)
          clear hK K
          refine wpAnyH_take (i := 29) (oi := ⟨some 91, .pick (.tmp 88) (.const (.bool true)) (.tmp 90), _, _, _, _⟩) (v := ?_) rfl (by kernel_rfl) (by kernel_rfl) (by kernel_rfl) (fun _ _ _ h => h) (Or.inl ⟨by rfl, ?_⟩) (by assumption) ?_
          rotate_left
          · intro w' hSw
            try dsimp only at hSw
            go_simp
            try with_reducible rfl
          simp only [Act.put, List.setIfInBounds_toArray, List.set_cons_zero, List.set_cons_succ]
          refine wpAnyH_done (by kernel_rfl) ?_ _
          all_goals
            go_wp2
            go_roundw
          case rel => exact ⟨k + 1, by omega, by go_num, by rw [HX.out]; exact R1.out, only_step' Hbel.out O1.out HP.out⟩
          case measure => simp [intOf]; omega
        · obtain rfl : m = k := by omega
          rw [at_end] at hrd
          have HRD := Lib.hid hrd
          have Hbel := Lib.hid hbel
          clear hrd hbel
          go_wp2_with fail
          refine (r_left p behind _ HRD.out).mono ?_
          rintro e v1 ⟨rfl, rfl⟩
          go_wp2_with fail
          refine (r_whole p behind _ HRD.out).mono ?_
          rintro e v1 ⟨rfl, rfl⟩
          go_wp2_with fail
          go_ret
          exact ⟨rfl, Hbel.out⟩
end Go.Proofs.Ytlbhibilhbhidaa
