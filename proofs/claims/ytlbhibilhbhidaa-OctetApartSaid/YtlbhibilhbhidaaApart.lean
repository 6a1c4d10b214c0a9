/- The walk of the law OctetApart: it returns true and writes only blocks of its own. Conditions: the numbers are of 32 bits; the texts lie within the form's reach. -/
import Derived.Test.YtlbhibilhbhidaaAwake
import Derived.Test.YtlbhibilhbhidaaTexts
namespace Go.Proofs.Ytlbhibilhbhidaa
open Go.RowKit Go.Deep Go.Sort

theorem ba_toList {a b : ByteArray} (h : a.toList = b.toList) : a = b := by
  rw [ByteArray.toList_eq, ByteArray.toList_eq] at h
  exact ba_ext h
/-- The last statement's tests, as the walk shows them. -/
theorem apart_tests (n m : Nat) (s t : ByteArray) (hn : n < 4294967296) (hm : m < 4294967296) (hs : s.size ≤ 65536) (ht : t.size ≤ 65536) :
    ∃ x y X Y u v : ByteArray, ∃ k : Nat, le4 n = x ∧ le4 m = y ∧ wr4 s = X ∧ wr4 t = Y ∧ x.size = 4 ∧ (if Y.size < X.size then (Y.size : Int) else (X.size : Int)) = (k : Int) ∧ k ≤ X.size ∧ k ≤ Y.size ∧ X.extract 0 k = u ∧ Y.extract 0 k = v ∧
      (((x.toList == y.toList) = true ∧ ((n : Int) == (m : Int)) = true) ∨ ((x.toList == y.toList) = false ∧ ((n : Int) == (m : Int)) = false)) ∧
      (((u.toList == v.toList) = true ∧ (s.toList == t.toList) = true) ∨ ((u.toList == v.toList) = false ∧ (s.toList == t.toList) = false)) := by
  refine ⟨_, _, _, _, _, _, min (4 + s.size) (4 + t.size), rfl, rfl, rfl, rfl, rfl, ?_, ?_, ?_, rfl, rfl, ?_, ?_⟩
  · rw [wr4_size, wr4_size]; split <;> omega
  · rw [wr4_size]; omega
  · rw [wr4_size]; omega
  · by_cases h : n = m
    · subst h; left; simp
    · right
      have : ¬ le4 n = le4 m := fun e => h (le4_inj hn hm e)
      have h3 : ¬ (n : Int) = (m : Int) := by omega
      refine ⟨beq_eq_false_iff_ne.2 (fun e => this (ba_toList e)), beq_eq_false_iff_ne.2 h3⟩
  · have h := apart s t _ (by omega) (by omega) rfl
    by_cases e : s = t
    · left; rw [h.2 e, e]; simp
    · right
      exact ⟨beq_eq_false_iff_ne.2 (fun c => e (h.1 (ba_toList c))), beq_eq_false_iff_ne.2 (fun c => e (ba_toList c))⟩

theorem apart_world {w w1 : World} {s0 s1 : ByteArray} (h : Below (w.alloc (.cells #[.string s0, .string s1] 45)).heap.size (w.alloc (.cells #[.string s0, .string s1] 45)) w1) :
    Below w.heap.size w w1 ∧ w1.cell? ⟨w.heap.size, 0, none⟩ = some (.string s0) ∧ w1.cell? ⟨w.heap.size, 1, none⟩ = some (.string s1) := by
  have hh := below_other h (heap_alloc_new w _) (by simp)
  have := two_cells hh
  exact ⟨((Below.refl _ _).alloc (Nat.le_refl _) _).trans (h.mono (by simp)), this.1, this.2.1⟩
theorem apart_next {w w1 w2 : World} {b : Nat} {x y : Value} (hB : Below b w w1) (h0 : w1.cell? ⟨b, 0, none⟩ = some x) (h1 : w1.cell? ⟨b, 1, none⟩ = some y) (h : Below w1.heap.size w1 w2) :
    Below b w w2 ∧ w2.cell? ⟨b, 0, none⟩ = some x ∧ w2.cell? ⟨b, 1, none⟩ = some y := by
  have hlt : b < w1.heap.size := block_lt_of_cell h0
  exact ⟨hB.trans (h.mono (Nat.le_of_lt hlt)), (h.cell (p := ⟨b, 0, none⟩) hlt).trans h0, (h.cell (p := ⟨b, 1, none⟩) hlt).trans h1⟩

set_option maxHeartbeats 400000 in
theorem apart_walk (a0 a1 : Int) (s0 s1 : ByteArray) (w0 : (Lit.int .u32 a0).wf = true) (w1 : (Lit.int .u32 a1).wf = true) (w : World) :
    Calls Try.prog 7 #[.int .u32 a0, .int .u32 a1, .agg #[.string s0, .string s1]] w fun e w' => e = .returned (.bool true) ∧ Below w.heap.size w w' := by
  have hx : 0 ≤ a0 ∧ a0 ≤ 4294967295 := by simpa [Lit.wf, IntKind.min, IntKind.max, IntKind.signed, IntKind.bits] using w0
  have hy : 0 ≤ a1 ∧ a1 ≤ 4294967295 := by simpa [Lit.wf, IntKind.min, IntKind.max, IntKind.signed, IntKind.bits] using w1
  obtain ⟨n, rfl⟩ := Int.eq_ofNat_of_zero_le hx.1
  obtain ⟨m, rfl⟩ := Int.eq_ofNat_of_zero_le hy.1
  have HN := Lib.hid (And.intro (show n < 4294967296 by omega) (show m < 4294967296 by omega))
  clear hx hy w0 w1
  by_cases hbig : s0.size ≤ 65536 ∧ s1.size ≤ 65536
  · obtain ⟨hs0, hs1⟩ := hbig
    obtain ⟨x, y, X, Y, u, v, k, ex, ey, eX, eY, hx4, hk, hkX, hkY, eu, ev, ht1, ht2⟩ := apart_tests n m s0 s1 HN.out.1 HN.out.2 hs0 hs1
    have CX := Lib.hid (fun w => text_any s0 w (by omega))
    have CY := Lib.hid (fun w => text_any s1 w (by omega))
    have Cx := Lib.hid (fun w => num_any (n : Int) w (by omega) (by have := HN.out.1; omega))
    have Cy := Lib.hid (fun w => num_any (m : Int) w (by omega) (by have := HN.out.2; omega))
    simp only [Int.toNat_natCast] at Cx Cy
    rw [eX] at CX
    rw [eY] at CY
    rw [ex] at Cx
    rw [ey] at Cy
    clear ex ey eX eY HN
    go_enter Try.func7, Try.ntmps7
    go_wp2_with fail
    refine (awake_any _).mono ?_
    rintro e w1 ⟨rfl, hb1⟩
    obtain ⟨hB, hc0, hc1⟩ := apart_world hb1
    clear hb1
    go_wp2_with fail
    refine (CX.out _).mono ?_
    rintro e w2 ⟨rfl, hb2⟩
    obtain ⟨hB2, hc02, hc12⟩ := apart_next hB hc0 hc1 hb2
    clear hB hc0 hc1 hb2
    go_wp2_with fail
    refine (CY.out _).mono ?_
    rintro e w3 ⟨rfl, hb3⟩
    obtain ⟨hB3, hc03, hc13⟩ := apart_next hB2 hc02 hc12 hb3
    clear hB2 hc02 hc12 hb3
    have HB := Lib.hid hB3
    clear hB3
    have K0 := cell_regrown hc03
    have K1 := cell_regrown hc13
    have L1 := Lib.hid (fun d os => Calls.regrown_of (Cx.out (grow (redrawn w3 d) os)))
    have L2 := Lib.hid (fun d os => Calls.regrown_of (Cy.out (grow (redrawn w3 d) os)))
    clear Cx Cy CX CY hc03 hc13
    rcases ht1 with ⟨t1, t2⟩ | ⟨t1, t2⟩ <;> rcases ht2 with ⟨t3, t4⟩ | ⟨t3, t4⟩
    all_goals
      go_wp2
      refine wp_region_quiet_below (by kernel_rfl) (by kernel_rfl) ?_
      repeat (first | go_big_quiet_step (first | (with_reducible exact L1.out _ _) | (with_reducible exact L2.out _ _)) | quiet_step (first | (with_reducible exact L1.out _ _) | (with_reducible exact L2.out _ _)))
      refine wpQuiet_nil ?_
      intro _ hw'
      obtain ⟨⟨dq, osq⟩, hw''⟩ := hw'
      subst hw''
      go_wp2
      go_ret
      exact ⟨rfl, below_step HB.out (below_regrown w3 dq osq)⟩
  · by_cases h0 : 65536 < s0.size
    · clear hbig
      go_enter Try.func7, Try.ntmps7
      go_wp2_with fail
      refine (awake_any _).mono ?_
      rintro e w1 ⟨rfl, hb1⟩
      obtain ⟨hB, hc0, hc1⟩ := apart_world hb1
      clear hb1
      go_wp2_with fail
      go_ret
      exact ⟨rfl, hB⟩
    · have h1 : 65536 < s1.size := by omega
      clear hbig
      go_enter Try.func7, Try.ntmps7
      go_wp2_with fail
      refine (awake_any _).mono ?_
      rintro e w1 ⟨rfl, hb1⟩
      obtain ⟨hB, hc0, hc1⟩ := apart_world hb1
      clear hb1
      go_wp2_with fail
      go_ret
      exact ⟨rfl, hB⟩
end Go.Proofs.Ytlbhibilhbhidaa
