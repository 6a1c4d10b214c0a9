/- The contract of awake. No condition. -/
import Derived.Test.YtbkgnkiimnlbcaaCalls
namespace Go.Proofs.Ytbkgnkiimnlbcaa
open Go.RowKit Go.Deep Go.Conc

def sa : ByteArray := { data := #[97] }
def sb : ByteArray := { data := #[98] }
def sc : ByteArray := { data := #[99] }
def A0 : Lanes := fun _ _ => []
def A1 : Lanes := updL A0 1 2 [sa]
def A2 : Lanes := updL A1 1 2 [sa, sb]
def A3 : Lanes := updL A2 1 2 [sa]
def A4 : Lanes := updL A3 1 2 [sa, sa]
theorem r12 : right 3 1 2 := by unfold right; omega
theorem a1 : sendOut 3 A0 1 2 = 0 ∧ sendL 3 A0 1 2 sa = A1 := by
  simp [sendOut, sendL, r12, A0, A1]
theorem a2 : sendOut 3 A1 1 2 = 0 ∧ sendL 3 A1 1 2 sb = A2 := by
  simp [sendOut, sendL, r12, A1, A2, updL_same]
theorem a3 : sendOut 3 A2 1 1 = 1 ∧ sendL 3 A2 1 1 sc = A2 := by
  have : ¬ right 3 1 1 := by unfold right; omega
  simp [sendOut, sendL, this]
theorem a4 : takeText A2 1 2 1 = sb ∧ takeIs A2 1 2 1 = true ∧ takeL A2 1 2 1 = A3 := by
  refine ⟨?_, ?_, ?_⟩
  · simp [takeText, A2, updL_same, got]
  · simp [takeIs, A2, updL_same, was]
  · simp [takeL, A2, A3, updL_same, left, kept]
theorem a5 : twiceOut A3 1 2 0 = true ∧ twiceL A3 1 2 0 = A4 := by
  have e : twiceOut A3 1 2 0 = true := by simp [twiceOut, takeIs, A3, updL_same, was]
  refine ⟨e, ?_⟩
  unfold twiceL
  rw [e]
  simp [takeText, A3, A4, updL_same, got]
theorem a6 : (A4 1 2).length = 2 ∧ (A4 2 1).length = 0 := by
  simp [A4, A3, A2, A1, A0, updL]
theorem clamp3 : clamp 3 = 3 := by unfold clamp; omega

set_option maxHeartbeats 1000000 in
theorem awake_any (w : World) : Calls Try.prog 7 #[] w fun e w' => e = .returned (.bool true) ∧ Below w.heap.size w w' := by
  have HN := Lib.hid (nt_new 3 w)
  rw [clamp3] at HN
  go_enter Try.func7, Try.ntmps7
  go_wp2_with fail
  refine (HN.out).mono ?_
  rintro e w1 ⟨rfl, h1, hb⟩
  have hlo := Lib.hid hb.size
  generalize w.heap.size + 1 = p at *
  generalize hhi : w1.heap.size = hi at *
  have hn := Lib.hid (nt_nodes h1)
  have hs := Lib.hid (nt_send h1 1 2 sa)
  change Hid (Calls _ _ _ _ fun e w' => _ = Ending.returned (.int .i64 (sendOut 3 A0 1 2)) ∧ Nt _ _ _ _ _ (sendL 3 A0 1 2 sa) ∧ _) at hs
  rw [a1.1, a1.2] at hs
  go_wp2_with fail
  refine (hn.out).mono ?_
  rintro e w2 ⟨rfl, rfl⟩
  go_wp2_with fail
  refine (hs.out).mono ?_
  rintro e w2 ⟨rfl, h2, m2⟩
  have hs := Lib.hid (nt_send h2 1 2 sb)
  rw [a2.1, a2.2] at hs
  go_wp2_with fail
  refine (hs.out).mono ?_
  rintro e w3 ⟨rfl, h3, m3⟩
  have hs := Lib.hid (nt_send h3 1 1 sc)
  rw [a3.1, a3.2] at hs
  go_wp2_with fail
  refine (hs.out).mono ?_
  rintro e w4 ⟨rfl, h4, m4⟩
  have hs := Lib.hid (nt_take h4 1 2 1)
  rw [a4.1, a4.2.1, a4.2.2] at hs
  go_wp2_with fail
  refine (hs.out).mono ?_
  rintro e w5 ⟨rfl, h5, m5⟩
  have hs := Lib.hid (nt_twice h5 1 2 0)
  rw [a5.1, a5.2] at hs
  go_wp2_with fail
  refine (hs.out).mono ?_
  rintro e w6 ⟨rfl, h6, m6⟩
  have l1 := Lib.hid (nt_len h6 1 2)
  have l2 := Lib.hid (nt_len h6 2 1)
  rw [a6.1] at l1
  rw [a6.2] at l2
  unfold sb
  go_wp2_with fail
  refine (l1.out).mono ?_
  rintro e w7 ⟨rfl, rfl⟩
  go_wp2_with fail
  refine (l2.out).mono ?_
  rintro e w7 ⟨rfl, rfl⟩
  go_wp2_with fail
  go_ret
  exact ⟨rfl, hb.trans ((((m2.trans m3).trans m4).trans m5).trans m6 |>.below (by rw [hhi]; exact hlo.out))⟩

end Go.Proofs.Ytbkgnkiimnlbcaa
