/- The walk of the law OctetBack where the numbers are not empty and the texts are empty: it returns true and writes only blocks of its own. Conditions: what was read lies within the form's reach. -/
import Derived.Test.YtlbhibilhbhidaaBack
import Derived.Deep.RegionHeld3
import Derived.Deep.DeepMust
namespace Go.Proofs.Ytlbhibilhbhidaa
open Go.RowKit Go.Deep

set_option maxRecDepth 100000 in
set_option maxHeartbeats 4000000 in
theorem back_ne (bn on ln cn : Nat) (at0 : Option Addr) (ct : Nat) (Z : Nat → Nat) (T : Nat → ByteArray) (behind : ByteArray) (w : World) (hs : behind.size ≤ 140737488351232) (hbn : bn < w.heap.size) (hN : ∀ i, i < ln → w.cell? ⟨bn, on + i, none⟩ = some (.int .u32 (Z i : Nat)) ∧ Z i < 4294967296)  :
    Calls Try.prog 5 #[.slice (some ⟨bn, on, none⟩) ln cn, .slice at0 0 ct, .string behind] w fun e w' => e = .returned (.bool true) ∧ Below w.heap.size w w' := by
  obtain ⟨n, en, eM, hnl, hn50⟩ := mins1 ln
  have hor : ∀ k, k < n → k < n ∨ k < 0 := fun k h => .inl h
  clear eM
  have HN := Lib.hid hN
  clear hN
  have HS := Lib.hid hs
  have HOR := Lib.hid hor
  clear hs hor
  go_enter Try.func5, Try.ntmps5
  go_wp2_with fail
  refine (awake_any _).mono ?_
  rintro e w1 ⟨rfl, hb1⟩
  go_wp2_with fail
  clear en
  go_loopw [7, 10] (fun c i wr => ∃ k : Nat, k ≤ n ∧ i = .int .i64 k ∧ c = .string (built n 0 Z T k) ∧ (built n 0 Z T k).size ≤ 1048576 ∧ Below w.heap.size w wr) (fun _ i _ => n - (intOf i).toNat)
  case atStart => exact ⟨0, by omega, rfl, rfl, Nat.zero_le _, hb1⟩
  case round =>
    obtain ⟨k, hk, rfl, rfl, hsz, hbel⟩ := hrel
    by_cases hlt : k < n
    · by_cases h1 : k < n
      · have h2 : ¬ k < 0 := by omega
        have c1 := (HN.out k (by omega)).1
        rw [← hbel.cell (p := ⟨bn, on + k, none⟩) hbn] at c1
        obtain ⟨X, a, Y, eX, eY, C1, cat1⟩ := wr_tf (T := T) h1 h2 hsz (HN.out k (by omega)).2
        have HY := Lib.hid eY
        rw [eX]
        have HC1 := Lib.hid C1
        have Hbel := Lib.hid hbel
        clear eX eY C1 hsz hbel
        generalize Z k = z at *
        go_wp2_with fail
        refine (HC1.out _).mono ?_
        rintro e v1 ⟨rfl, hv1⟩
        have WB := Lib.hid (below_step Hbel.out hv1)
        clear hv1 c1
        by_cases hbig : 1048576 < Y.size
        · go_wp2_with fail
          go_ret
          exact ⟨rfl, WB.out⟩
        · go_wp2_with fail
          go_roundw
          case rel => exact ⟨k + 1, by omega, by go_num, by rw [HY.out], by rw [HY.out]; omega, WB.out⟩
          case measure => simp [intOf]; omega
      · exact absurd ((HOR.out k hlt).resolve_left h1) (by omega)
    · obtain rfl : n = k := by omega
      have hcat := w_cat (built n 0 Z T n) behind (by have := HS.out; omega)
      rw [← at_start] at hcat
      have HSZ := Lib.hid hsz
      have Hbel := Lib.hid hbel
      clear hsz hbel hb1
      generalize built n 0 Z T n = X at hcat ⊢
      go_wp2_with fail
      refine (new_any _ _).mono ?_
      rintro e w3 ⟨rfl, hr3, hb3, hl3⟩
      have HP : Hid (w.heap.size ≤ wr.heap.size) := Hbel.out.size
      have R3 := Lib.hid hr3
      have W3 := Lib.hid (below_step Hbel.out hb3)
      clear hr3 hb3 hl3 Hbel
      generalize wr.heap.size = p at *
      go_wp2_with fail
      go_loopw [12] (fun i wv => ∃ k : Nat, k ≤ n ∧ i = .int .i64 k ∧ Rd wv p (some (at_ n 0 Z T n behind k)) ∧ Below w.heap.size w wv) (fun i _ => n - (intOf i).toNat)
      case atStart => exact ⟨0, by omega, rfl, R3.out, W3.out⟩
      case round =>
        obtain ⟨k, hk, rfl, hrd, hbel⟩ := hrel
        by_cases hlt : k < n
        · by_cases h1 : k < n
          · have h2 : ¬ k < 0 := by omega
            have c1 := (HN.out k (by omega)).1
            rw [← hbel.cell (p := ⟨bn, on + k, none⟩) hbn] at c1
            rw [at_step Z T behind hlt, part_tf Z T h1 h2] at hrd
            have HZ := Lib.hid (HN.out k (by omega)).2
            have HRD := Lib.hid hrd
            have Hbel := Lib.hid hbel
            have hd1 : decide ((k : Int) < (n : Int)) = true := by simp; omega
            have hd2 : decide ((k : Int) < (0 : Int)) = false := by simp <;> omega
            have hd3 : decide (k < 0) = false := by simp <;> omega
            have hi1 : (k : Int) < (ln : Int) := by omega
            clear hrd hbel
            obtain ⟨x, hx⟩ : ∃ x, at_ n 0 Z T n behind (k + 1) = x := ⟨_, rfl⟩
            rw [hx] at HRD
            have HX := Lib.hid hx
            clear hx
            generalize Z k = z at *
            go_wp2
            refine wp_region_held_drew (S := fun W' => W'.cell? ⟨bn, on + k, none⟩ = some (.int .u32 (z : Int))) (by kernel_rfl) c1 (fun hHeld => ?_)
            refine wpAnyH_take (i := 0) (oi := ⟨some 62, .move (.tmp 12), _, _, _, _⟩) (v := ?_) rfl (by kernel_rfl) (by kernel_rfl) (by kernel_rfl) (fun _ _ _ h => h) (Or.inl ⟨by rfl, ?_⟩) (by assumption) ?_
            rotate_left
            · intro w' hSw
              try dsimp only at hSw
              go_simp
              try with_reducible rfl
            simp only [Act.put, List.setIfInBounds_toArray, List.set_cons_zero, List.set_cons_succ]
            refine wpAnyH_take (i := 1) (oi := ⟨some 63, .move (.tmp 8), _, _, _, _⟩) (v := ?_) rfl (by kernel_rfl) (by kernel_rfl) (by kernel_rfl) (fun _ _ _ h => h) (Or.inl ⟨by rfl, ?_⟩) (by assumption) ?_
            rotate_left
            · intro w' hSw
              try dsimp only at hSw
              go_simp
              try with_reducible rfl
            simp only [Act.put, List.setIfInBounds_toArray, List.set_cons_zero, List.set_cons_succ]
            refine wpAnyH_take (i := 2) (oi := ⟨some 64, .binOp .lss 3 (.tmp 62) (.tmp 63) 3, _, _, _, _⟩) (v := ?_) rfl (by kernel_rfl) (by kernel_rfl) (by kernel_rfl) (fun _ _ _ h => h) (Or.inl ⟨by rfl, ?_⟩) (by assumption) ?_
            rotate_left
            · intro w' hSw
              try dsimp only at hSw
              go_simp
              try with_reducible rfl
            simp only [Act.put, List.setIfInBounds_toArray, List.set_cons_zero, List.set_cons_succ]
            refine wpAnyH_take (i := 3) (oi := ⟨some 65, .move (.tmp 64), _, _, _, _⟩) (v := ?_) rfl (by kernel_rfl) (by kernel_rfl) (by kernel_rfl) (fun _ _ _ h => h) (Or.inl ⟨by rfl, ?_⟩) (by assumption) ?_
            rotate_left
            · intro w' hSw
              try dsimp only at hSw
              go_simp
              try with_reducible rfl
            simp only [Act.put, List.setIfInBounds_toArray, List.set_cons_zero, List.set_cons_succ]
            refine wpAnyH_take (i := 4) (oi := ⟨some 66, .move (.tmp 11), _, _, _, _⟩) (v := ?_) rfl (by kernel_rfl) (by kernel_rfl) (by kernel_rfl) (fun _ _ _ h => h) (Or.inl ⟨by rfl, ?_⟩) (by assumption) ?_
            rotate_left
            · intro w' hSw
              try dsimp only at hSw
              go_simp
              try with_reducible rfl
            simp only [Act.put, List.setIfInBounds_toArray, List.set_cons_zero, List.set_cons_succ]
            refine wpAnyH_take (i := 6) (oi := ⟨some 68, .move (.tmp 0), _, _, _, _⟩) (v := ?_) rfl (by kernel_rfl) (by kernel_rfl) (by kernel_rfl) (fun _ _ _ h => h) (Or.inl ⟨by rfl, ?_⟩) (by assumption) ?_
            rotate_left
            · intro w' hSw
              try dsimp only at hSw
              go_simp
              try with_reducible rfl
            simp only [Act.put, List.setIfInBounds_toArray, List.set_cons_zero, List.set_cons_succ]
            refine wpAnyH_take (i := 7) (oi := ⟨some 69, .move (.tmp 12), _, _, _, _⟩) (v := ?_) rfl (by kernel_rfl) (by kernel_rfl) (by kernel_rfl) (fun _ _ _ h => h) (Or.inl ⟨by rfl, ?_⟩) (by assumption) ?_
            rotate_left
            · intro w' hSw
              try dsimp only at hSw
              go_simp
              try with_reducible rfl
            simp only [Act.put, List.setIfInBounds_toArray, List.set_cons_zero, List.set_cons_succ]
            refine wpAnyH_take (i := 8) (oi := ⟨some 70, .indexAddr 40 (.tmp 68) (.tmp 69), _, _, _, _⟩) (v := ?_) rfl (by kernel_rfl) (by kernel_rfl) (by kernel_rfl) (fun _ _ _ h => h) (Or.inl ⟨by rfl, ?_⟩) (by assumption) ?_
            rotate_left
            · intro w' hSw
              try dsimp only at hSw
              go_simp
              try with_reducible rfl
            simp only [Act.put, List.setIfInBounds_toArray, List.set_cons_zero, List.set_cons_succ]
            refine wpAnyH_take (i := 9) (oi := ⟨some 71, .load 22 (.tmp 70), _, _, _, _⟩) (v := ?_) rfl (by kernel_rfl) (by kernel_rfl) (by kernel_rfl) (fun _ _ _ h => h) (Or.inl ⟨by rfl, ?_⟩) (by assumption) ?_
            rotate_left
            · intro w' hSw
              try dsimp only at hSw
              go_simp
              try with_reducible rfl
            simp only [Act.put, List.setIfInBounds_toArray, List.set_cons_zero, List.set_cons_succ]
            refine wpAnyH_ready (rs := [5]) (by kernel_rfl) (by simp) ?_
            refine AllReadyH.cons (o := ⟨some 67, _, _, _, _, _⟩) rfl (fun K hK => ?_) AllReadyH.nil
            go_simp
            refine (r_num p z x HZ.out _ (by exact HRD.out)).mono ?_
            rintro e v1 ⟨rfl, hr1, ho0⟩
            have ho1 := ((Only.refl p wr).drew).trans ho0
            have R1 := Lib.hid hr1
            have O1 := Lib.hid ho1
            have c11 := only_cell Hbel.out ho1 HP.out hbn c1
            clear hr1 ho1 ho0
            go_wp2_with fail
            refine hK.out _ _ c11 (fun hHeld5 => ?_)
            clear hK K
            refine wpAnyH_take (i := 10) (oi := ⟨some 72, .binOp .neq 22 (.tmp 67) (.tmp 71) 22, _, _, _, _⟩) (v := ?_) rfl (by kernel_rfl) (by kernel_rfl) (by kernel_rfl) (fun _ _ _ h => h) (Or.inl ⟨by rfl, ?_⟩) (by assumption) ?_
            rotate_left
            · intro w' hSw
              try dsimp only at hSw
              go_simp
              try with_reducible rfl
            simp only [Act.put, List.setIfInBounds_toArray, List.set_cons_zero, List.set_cons_succ]
            refine wpAnyH_take (i := 11) (oi := ⟨some 73, .pick (.tmp 65) (.tmp 72) (.const (.bool false)), _, _, _, _⟩) (v := ?_) rfl (by kernel_rfl) (by kernel_rfl) (by kernel_rfl) (fun _ _ _ h => h) (Or.inl ⟨by rfl, ?_⟩) (by assumption) ?_
            rotate_left
            · intro w' hSw
              try dsimp only at hSw
              go_simp
              try with_reducible rfl
            simp only [Act.put, List.setIfInBounds_toArray, List.set_cons_zero, List.set_cons_succ]
            refine wpAnyH_take (i := 12) (oi := ⟨some 74, .move (.tmp 73), _, _, _, _⟩) (v := ?_) rfl (by kernel_rfl) (by kernel_rfl) (by kernel_rfl) (fun _ _ _ h => h) (Or.inl ⟨by rfl, ?_⟩) (by assumption) ?_
            rotate_left
            · intro w' hSw
              try dsimp only at hSw
              go_simp
              try with_reducible rfl
            simp only [Act.put, List.setIfInBounds_toArray, List.set_cons_zero, List.set_cons_succ]
            refine wpAnyH_take (i := 13) (oi := ⟨some 75, .move (.tmp 12), _, _, _, _⟩) (v := ?_) rfl (by kernel_rfl) (by kernel_rfl) (by kernel_rfl) (fun _ _ _ h => h) (Or.inl ⟨by rfl, ?_⟩) (by assumption) ?_
            rotate_left
            · intro w' hSw
              try dsimp only at hSw
              go_simp
              try with_reducible rfl
            simp only [Act.put, List.setIfInBounds_toArray, List.set_cons_zero, List.set_cons_succ]
            refine wpAnyH_take (i := 14) (oi := ⟨some 76, .move (.tmp 9), _, _, _, _⟩) (v := ?_) rfl (by kernel_rfl) (by kernel_rfl) (by kernel_rfl) (fun _ _ _ h => h) (Or.inl ⟨by rfl, ?_⟩) (by assumption) ?_
            rotate_left
            · intro w' hSw
              try dsimp only at hSw
              go_simp
              try with_reducible rfl
            simp only [Act.put, List.setIfInBounds_toArray, List.set_cons_zero, List.set_cons_succ]
            refine wpAnyH_take (i := 15) (oi := ⟨some 77, .binOp .lss 3 (.tmp 75) (.tmp 76) 3, _, _, _, _⟩) (v := ?_) rfl (by kernel_rfl) (by kernel_rfl) (by kernel_rfl) (fun _ _ _ h => h) (Or.inl ⟨by rfl, ?_⟩) (by assumption) ?_
            rotate_left
            · intro w' hSw
              try dsimp only at hSw
              go_simp
              try with_reducible rfl
            simp only [Act.put, List.setIfInBounds_toArray, List.set_cons_zero, List.set_cons_succ]
            refine wpAnyH_take (i := 16) (oi := ⟨some 78, .move (.tmp 77), _, _, _, _⟩) (v := ?_) rfl (by kernel_rfl) (by kernel_rfl) (by kernel_rfl) (fun _ _ _ h => h) (Or.inl ⟨by rfl, ?_⟩) (by assumption) ?_
            rotate_left
            · intro w' hSw
              try dsimp only at hSw
              go_simp
              try with_reducible rfl
            simp only [Act.put, List.setIfInBounds_toArray, List.set_cons_zero, List.set_cons_succ]
            refine wpAnyH_take (i := 17) (oi := ⟨some 79, .move (.tmp 11), _, _, _, _⟩) (v := undef) rfl (by kernel_rfl) (by kernel_rfl) (by kernel_rfl) (fun _ _ _ h => h) (Or.inr ⟨by rfl, rfl⟩) (by assumption) ?_
            simp only [Act.put, List.setIfInBounds_toArray, List.set_cons_zero, List.set_cons_succ]
            refine wpAnyH_take (i := 19) (oi := ⟨some 81, .move (.tmp 1), _, _, _, _⟩) (v := undef) rfl (by kernel_rfl) (by kernel_rfl) (by kernel_rfl) (fun _ _ _ h => h) (Or.inr ⟨by rfl, rfl⟩) (by assumption) ?_
            simp only [Act.put, List.setIfInBounds_toArray, List.set_cons_zero, List.set_cons_succ]
            refine wpAnyH_take (i := 20) (oi := ⟨some 82, .move (.tmp 12), _, _, _, _⟩) (v := undef) rfl (by kernel_rfl) (by kernel_rfl) (by kernel_rfl) (fun _ _ _ h => h) (Or.inr ⟨by rfl, rfl⟩) (by assumption) ?_
            simp only [Act.put, List.setIfInBounds_toArray, List.set_cons_zero, List.set_cons_succ]
            refine wpAnyH_take (i := 21) (oi := ⟨some 83, .indexAddr 41 (.tmp 81) (.tmp 82), _, _, _, _⟩) (v := undef) rfl (by kernel_rfl) (by kernel_rfl) (by kernel_rfl) (fun _ _ _ h => h) (Or.inr ⟨by rfl, rfl⟩) (by assumption) ?_
            simp only [Act.put, List.setIfInBounds_toArray, List.set_cons_zero, List.set_cons_succ]
            refine wpAnyH_take (i := 22) (oi := ⟨some 84, .load 9 (.tmp 83), _, _, _, _⟩) (v := undef) rfl (by kernel_rfl) (by kernel_rfl) (by kernel_rfl) (fun _ _ _ h => h) (Or.inr ⟨by rfl, rfl⟩) (by assumption) ?_
            simp only [Act.put, List.setIfInBounds_toArray, List.set_cons_zero, List.set_cons_succ]
            refine wpAnyH_ready (rs := [18]) (by kernel_rfl) (by simp) ?_
            refine AllReadyH.cons (o := ⟨some 80, _, _, _, _, _⟩) rfl (fun K hK => ?_) AllReadyH.nil
            rw [if_neg (by intro h; cases h)]
            refine hK.out _ _ (by assumption) (fun hHeld2 => ?_)
            clear hK K
            simp only [Act.put, List.setIfInBounds_toArray, List.set_cons_zero, List.set_cons_succ]
            refine wpAnyH_take (i := 23) (oi := ⟨some 85, .binOp .neq 9 (.tmp 80) (.tmp 84) 9, _, _, _, _⟩) (v := undef) rfl (by kernel_rfl) (by kernel_rfl) (by kernel_rfl) (fun _ _ _ h => h) (Or.inr ⟨by rfl, rfl⟩) (by assumption) ?_
            simp only [Act.put, List.setIfInBounds_toArray, List.set_cons_zero, List.set_cons_succ]
            refine wpAnyH_take (i := 24) (oi := ⟨some 86, .pick (.tmp 78) (.tmp 85) (.const (.bool false)), _, _, _, _⟩) (v := ?_) rfl (by kernel_rfl) (by kernel_rfl) (by kernel_rfl) (fun _ _ _ h => h) (Or.inl ⟨by rfl, ?_⟩) (by assumption) ?_
            rotate_left
            · intro w' hSw
              try dsimp only at hSw
              go_simp
              try with_reducible rfl
            simp only [Act.put, List.setIfInBounds_toArray, List.set_cons_zero, List.set_cons_succ]
            refine wpAnyH_take (i := 25) (oi := ⟨some 87, .pick (.tmp 74) (.const (.bool true)) (.tmp 86), _, _, _, _⟩) (v := ?_) rfl (by kernel_rfl) (by kernel_rfl) (by kernel_rfl) (fun _ _ _ h => h) (Or.inl ⟨by rfl, ?_⟩) (by assumption) ?_
            rotate_left
            · intro w' hSw
              try dsimp only at hSw
              go_simp
              try with_reducible rfl
            simp only [Act.put, List.setIfInBounds_toArray, List.set_cons_zero, List.set_cons_succ]
            refine wpAnyH_take (i := 26) (oi := ⟨some 88, .move (.tmp 87), _, _, _, _⟩) (v := ?_) rfl (by kernel_rfl) (by kernel_rfl) (by kernel_rfl) (fun _ _ _ h => h) (Or.inl ⟨by rfl, ?_⟩) (by assumption) ?_
            rotate_left
            · intro w' hSw
              try dsimp only at hSw
              go_simp
              try with_reducible rfl
            simp only [Act.put, List.setIfInBounds_toArray, List.set_cons_zero, List.set_cons_succ]
            refine wpAnyH_take (i := 27) (oi := ⟨some 89, .move (.tmp 11), _, _, _, _⟩) (v := ?_) rfl (by kernel_rfl) (by kernel_rfl) (by kernel_rfl) (fun _ _ _ h => h) (Or.inl ⟨by rfl, ?_⟩) (by assumption) ?_
            rotate_left
            · intro w' hSw
              try dsimp only at hSw
              go_simp
              try with_reducible rfl
            simp only [Act.put, List.setIfInBounds_toArray, List.set_cons_zero, List.set_cons_succ]
            refine wpAnyH_ready (rs := [28]) (by kernel_rfl) (by simp) ?_
            refine AllReadyH.cons (o := ⟨some 90, _, _, _, _, _⟩) rfl (fun K hK => ?_) AllReadyH.nil
            go_simp
            refine (r_bad p x _ (by exact R1.out)).mono ?_
            rintro e v3 ⟨rfl, rfl⟩
            go_wp2_with fail
            refine hK.out _ _ c11 (fun hHeld28 => ?_)
            clear hK K
            refine wpAnyH_take (i := 29) (oi := ⟨some 91, .pick (.tmp 88) (.const (.bool true)) (.tmp 90), _, _, _, _⟩) (v := ?_) rfl (by kernel_rfl) (by kernel_rfl) (by kernel_rfl) (fun _ _ _ h => h) (Or.inl ⟨by rfl, ?_⟩) (by assumption) ?_
            rotate_left
            · intro w' hSw
              try dsimp only at hSw
              go_simp
              try with_reducible rfl
            simp only [Act.put, List.setIfInBounds_toArray, List.set_cons_zero, List.set_cons_succ]
            refine wpAnyH_done (by kernel_rfl) ?_ _
            all_goals
              go_wp2
              go_roundw
            case rel => exact ⟨k + 1, by omega, by go_num, by rw [HX.out]; exact R1.out, only_step' Hbel.out O1.out HP.out⟩
            case measure => simp [intOf]; omega
          · exact absurd ((HOR.out k hlt).resolve_left h1) (by omega)
        · obtain rfl : n = k := by omega
          rw [at_end] at hrd
          have HRD := Lib.hid hrd
          have Hbel := Lib.hid hbel
          clear hrd hbel
          go_wp2_with fail
          refine (r_left p behind _ HRD.out).mono ?_
          rintro e v1 ⟨rfl, rfl⟩
          go_wp2_with fail
          refine (r_whole p behind _ HRD.out).mono ?_
          rintro e v1 ⟨rfl, rfl⟩
          go_wp2_with fail
          go_ret
          exact ⟨rfl, Hbel.out⟩
end Go.Proofs.Ytlbhibilhbhidaa
