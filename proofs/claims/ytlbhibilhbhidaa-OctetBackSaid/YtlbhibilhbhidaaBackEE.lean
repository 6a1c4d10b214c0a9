/- The walk of the law OctetBack where there are neither numbers nor texts: it returns true and writes only blocks of its own. Conditions: what was read lies within the form's reach. -/
import Derived.Test.YtlbhibilhbhidaaBack
namespace Go.Proofs.Ytlbhibilhbhidaa
open Go.RowKit Go.Deep

theorem cat_nul (x : ByteArray) (h : x.size ≤ 140737488351232) : ∀ w, (Op.stringOp .add { data := #[] } x).run Try.prog w = .ok (.string x) w := fun w => by
  have := w_cat { data := #[] } x (by show 0 + _ ≤ _; omega) w
  rwa [show ({ data := #[] } : ByteArray) ++ x = x from nul_app x] at this

set_option maxRecDepth 100000 in
set_option maxHeartbeats 1000000 in
theorem back_ee (an : Option Addr) (cn : Nat) (at0 : Option Addr) (ct : Nat) (behind : ByteArray) (w : World) (hs : behind.size ≤ 140737488351232) :
    Calls Try.prog 5 #[.slice an 0 cn, .slice at0 0 ct, .string behind] w fun e w' => e = .returned (.bool true) ∧ Below w.heap.size w w' := by
  have hcat := cat_nul behind hs
  clear hs
  go_enter Try.func5, Try.ntmps5
  go_wp2_with fail
  refine (awake_any _).mono ?_
  rintro e w1 ⟨rfl, hb1⟩
  go_wp2_with fail
  refine wp_loop_rounds 1 ?_
  rw [rounds_succ]
  go_wp2_with fail
  refine (new_any _ _).mono ?_
  rintro e w3 ⟨rfl, hr3, hb3, hl3⟩
  have R3 := Lib.hid hr3
  have W3 := Lib.hid (below_step hb1 hb3)
  clear hr3 hb3 hl3 hb1
  go_wp2_with fail
  refine wp_loop_rounds 1 ?_
  rw [rounds_succ]
  go_wp2_with fail
  refine (r_left _ behind _ R3.out).mono ?_
  rintro e v1 ⟨rfl, rfl⟩
  go_wp2_with fail
  refine (r_whole _ behind _ R3.out).mono ?_
  rintro e v1 ⟨rfl, rfl⟩
  go_wp2_with fail
  go_ret
  exact ⟨rfl, W3.out⟩
end Go.Proofs.Ytlbhibilhbhidaa
