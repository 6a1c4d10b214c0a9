/- The contract of Twice. No condition but that the lane holds 32 texts at most. -/
import Derived.Test.YtbkgnkiimnlbcaaTake
namespace Go.Proofs.Ytbkgnkiimnlbcaa
open Go.RowKit Go.Deep Go.Conc

set_option maxHeartbeats 1000000 in
theorem twice_none {w : World} {pv : Value} (a b at_ : Int) (h : ∀ w', Below w.heap.size w w' → Calls Try.prog 19 #[pv, .int .i64 a, .int .i64 b] w' fun e w'' => e = .returned (.chan none) ∧ w' = w'') :
    Calls Try.prog 15 #[pv, .int .i64 a, .int .i64 b, .int .i64 at_] w
      fun e w' => e = .returned (.bool false) ∧ Below w.heap.size w w' := by
  have HL := Lib.hid h
  clear h
  go_enter Try.func15, Try.ntmps15
  go_wp2_with fail
  have hF := w3_found w at_
  have hB := w3_below w at_
  change Calls _ _ _ (w3of w at_) _
  generalize w3of w at_ = w3 at *
  refine (HL.out w3 hB).mono ?_
  rintro e w4 ⟨rfl, rfl⟩
  go_wp2_with fail
  refine (turn_none _).mono ?_
  rintro e w4 ⟨rfl, rfl⟩
  obtain ⟨n1, n2, n3⟩ := hF.apart
  obtain ⟨ct, ft⟩ := one_cell hF.ct
  obtain ⟨cs, fs⟩ := one_cell hF.cs
  go_wp2_with fail
  go_ret
  exact ⟨rfl, hB⟩

set_option maxHeartbeats 1000000 in
/-- The place is not there. -/
theorem twice_miss {w : World} {p c : Nat} (a b at_ : Int) (q : List ByteArray) (hq : q.length ≤ 32) (h : ∀ w', Only c w w' → Calls Try.prog 19 #[.pointer (some ⟨p, 0, none⟩), .int .i64 a, .int .i64 b] w' fun e w'' => e = .returned (.chan (some c)) ∧ w' = w'')
    (hl : Lane w c q) (hn : was at_ q.length = false) : Calls Try.prog 15 #[.pointer (some ⟨p, 0, none⟩), .int .i64 a, .int .i64 b, .int .i64 at_] w
      fun e w' => e = .returned (.bool false) ∧ Only c w w' ∧ Lane w' c q := by
  have HL := Lib.hid h
  clear h
  go_enter Try.func15, Try.ntmps15
  go_wp2_with fail
  have hF := w3_found w at_
  have hB := w3_below w at_
  have hc := hl.lt
  have hl3 : Lane (w3of w at_) c q := by
    obtain ⟨s, r, h⟩ := hl
    exact ⟨s, r, below_other hB h hc⟩
  change Calls _ _ _ (w3of w at_) _
  generalize w3of w at_ = w3 at *
  refine (HL.out w3 (Only.of_below hB)).mono ?_
  rintro e w4 ⟨rfl, rfl⟩
  have HT := Lib.hid (turn_twice hq hF (Nat.le_refl _) (by omega) (by omega) hc (Only.of_below hB) hl3)
  clear hF hl3
  go_wp2_with fail
  refine (HT.out).mono ?_
  rintro e w4 ⟨rfl, ⟨ho, hF⟩, hl4⟩
  obtain ⟨n1, n2, n3⟩ := hF.apart
  rw [hn] at hF
  obtain ⟨ct, ft⟩ := one_cell hF.ct
  obtain ⟨cs, fs⟩ := one_cell hF.cs
  go_wp2_with fail
  go_ret
  exact ⟨rfl, ho, hl4⟩

set_option maxHeartbeats 1000000 in
/-- The place is there. -/
theorem twice_room {w : World} {p c : Nat} (a b at_ : Int) (q : List ByteArray) (hq : q.length ≤ 32) (h : ∀ w', Only c w w' → Calls Try.prog 19 #[.pointer (some ⟨p, 0, none⟩), .int .i64 a, .int .i64 b] w' fun e w'' => e = .returned (.chan (some c)) ∧ w' = w'')
    (hl : Lane w c q) (hn : was at_ q.length = true) (hr : q.length < 32) : Calls Try.prog 15 #[.pointer (some ⟨p, 0, none⟩), .int .i64 a, .int .i64 b, .int .i64 at_] w
      fun e w' => e = .returned (.bool true) ∧ Only c w w' ∧ Lane w' c (q ++ [got q at_ q.length]) := by
  have HL := Lib.hid h
  clear h
  go_enter Try.func15, Try.ntmps15
  go_wp2_with fail
  have hF := w3_found w at_
  have hB := w3_below w at_
  have hc := hl.lt
  have hl3 : Lane (w3of w at_) c q := by
    obtain ⟨s, r, h⟩ := hl
    exact ⟨s, r, below_other hB h hc⟩
  change Calls _ _ _ (w3of w at_) _
  generalize w3of w at_ = w3 at *
  refine (HL.out w3 (Only.of_below hB)).mono ?_
  rintro e w4 ⟨rfl, rfl⟩
  have HT := Lib.hid (turn_twice hq hF (Nat.le_refl _) (by omega) (by omega) hc (Only.of_below hB) hl3)
  clear hF hl3
  go_wp2_with fail
  refine (HT.out).mono ?_
  rintro e w4 ⟨rfl, ⟨ho, hF⟩, hl4⟩
  obtain ⟨n1, n2, n3⟩ := hF.apart
  rw [hn] at hF
  obtain ⟨ct, ft⟩ := one_cell hF.ct
  obtain ⟨cs, fs⟩ := one_cell hF.cs
  obtain ⟨s4, r4, hc4⟩ := hl4
  have HS := Lib.hid (send_room a b (got q at_ q.length) (bufOf q) s4 r4 (HL.out w4 ho) hc4 (by rw [bufOf_size]; exact hr))
  clear hr
  go_wp2_with fail
  refine (HS.out).mono ?_
  rintro e w5 ⟨rfl, rfl⟩
  go_wp2_with fail
  go_ret
  refine ⟨rfl, ho.setChan _ _ _ _ _ _, ?_⟩
  rw [bufOf_push]
  exact ⟨_, _, heap_setChan _ _ _ _ _ _ _ _ (Array.getElem?_eq_some_iff.1 hc4).1⟩

set_option maxHeartbeats 1000000 in
/-- The place is there. -/
theorem twice_full {w : World} {p c : Nat} (a b at_ : Int) (q : List ByteArray) (hq : q.length ≤ 32) (h : ∀ w', Only c w w' → Calls Try.prog 19 #[.pointer (some ⟨p, 0, none⟩), .int .i64 a, .int .i64 b] w' fun e w'' => e = .returned (.chan (some c)) ∧ w' = w'')
    (hl : Lane w c q) (hn : was at_ q.length = true) (hr : 32 ≤ q.length) : Calls Try.prog 15 #[.pointer (some ⟨p, 0, none⟩), .int .i64 a, .int .i64 b, .int .i64 at_] w
      fun e w' => e = .returned (.bool false) ∧ Only c w w' ∧ Lane w' c q := by
  have HL := Lib.hid h
  clear h
  go_enter Try.func15, Try.ntmps15
  go_wp2_with fail
  have hF := w3_found w at_
  have hB := w3_below w at_
  have hc := hl.lt
  have hl3 : Lane (w3of w at_) c q := by
    obtain ⟨s, r, h⟩ := hl
    exact ⟨s, r, below_other hB h hc⟩
  change Calls _ _ _ (w3of w at_) _
  generalize w3of w at_ = w3 at *
  refine (HL.out w3 (Only.of_below hB)).mono ?_
  rintro e w4 ⟨rfl, rfl⟩
  have HT := Lib.hid (turn_twice hq hF (Nat.le_refl _) (by omega) (by omega) hc (Only.of_below hB) hl3)
  clear hF hl3
  go_wp2_with fail
  refine (HT.out).mono ?_
  rintro e w4 ⟨rfl, ⟨ho, hF⟩, hl4⟩
  obtain ⟨n1, n2, n3⟩ := hF.apart
  rw [hn] at hF
  obtain ⟨ct, ft⟩ := one_cell hF.ct
  obtain ⟨cs, fs⟩ := one_cell hF.cs
  obtain ⟨s4, r4, hc4⟩ := hl4
  have HS := Lib.hid (send_full a b (got q at_ q.length) (bufOf q) s4 r4 (HL.out w4 ho) hc4 (by rw [bufOf_size]; exact hr))
  clear hr
  go_wp2_with fail
  refine (HS.out).mono ?_
  rintro e w5 ⟨rfl, rfl⟩
  go_wp2_with fail
  go_ret
  exact ⟨rfl, ho, s4, r4, hc4⟩

end Go.Proofs.Ytbkgnkiimnlbcaa
