/- The contract of Send over a lane that is there. No condition. -/
import Derived.Test.YtbkgnkiimnlbcaaSend
namespace Go.Proofs.Ytbkgnkiimnlbcaa
open Go.RowKit Go.Deep Go.Conc

set_option maxRecDepth 100000 in
set_option maxHeartbeats 1000000 in
theorem send_room {w : World} {p c : Nat} (a b : Int) (s : ByteArray) (buf : Array Value) (sn r : Nat) (h : Calls Try.prog 19 #[.pointer (some ⟨p, 0, none⟩), .int .i64 a, .int .i64 b] w fun e w' => e = .returned (.chan (some c)) ∧ w = w')
    (hc : w.heap[c]? = some (.chan 32 buf false sn r false)) (hr : buf.size < 32) :
    Calls Try.prog 11 #[.pointer (some ⟨p, 0, none⟩), .int .i64 a, .int .i64 b, .string s] w fun e w' => e = .returned (.int .i64 0) ∧ w' = w.setChan c 32 (buf.push (.string s)) false (sn + 1) r false := by
  refine calls_of_loneTo fun cs => ?_
  have e : Frame.enter Try.prog 11 #[.pointer (some ⟨p, 0, none⟩), .int .i64 a, .int .i64 b, .string s] .normal = (base 11).at ⟨#[.pointer (some ⟨p, 0, none⟩), .int .i64 a, .int .i64 b, .string s, undef, undef, undef, undef, undef, undef, undef, undef, undef, undef, undef, undef, undef, undef, undef, undef, undef, undef, undef, undef, undef], []⟩ [.code (Try.f11.body.getD .skip)] := by
    simp [Frame.enter, Frame.at, Try.func11, base, Try.f11]
  rw [e]
  clear e
  have HL := Lib.hid h
  clear h
  refine LoneTo.goes (n := 3) ?_
  simp only [Try.f11, Option.getD_some]
  s_c stepG_seq
  s_stop
  refine LoneTo.code ?_
  go_wp2_with fail
  refine LoneTo.goes (n := 3) ?_
  s_c stepG_seq
  s_stop
  refine LoneTo.code ?_
  go_wp2_with fail
  refine (HL.out).mono ?_
  rintro e w1 ⟨rfl, rfl⟩
  go_wp2_with fail
  refine LoneTo.goes (n := 3) ?_
  s_c stepG_seq
  s_stop
  refine LoneTo.code ?_
  go_wp2_with fail
  refine LoneTo.goes (n := 3) ?_
  s_c stepG_seq
  s_stop
  refine LoneTo.code ?_
  go_wp2_with fail
  refine LoneTo.goes (n := 10) ?_
  s_c stepG_seq
  s_reg
  s_stop
  refine LoneTo.step (step_lone_select_send_room (c := c) (cap := 32) (buf := buf) (s := sn) (r := r) (tm := false) (stepG_comm (cases := #[scase c (.string s) (.string { data := #[] })]) (blocking := false) (shape := .select) (w' := w) rfl rfl (by decide) (by simp [go_sem, execOp, scase, Act.eval])) hc hr) ?_
  rw [Frame.finish_at]
  walk_nrm
  refine LoneTo.goes (n := 20) ?_
  s_op
  s_op
  s_c stepG_region_end
  s_c stepG_block
  s_cond true
  s_c stepG_seq
  s_reg
  s_op
  s_c stepG_region_end
  s_c stepG_ret'
  s_stop
  exact LoneTo.done ⟨.returned (.int .i64 0), _, rfl, ⟨rfl, rfl⟩, rfl, rfl, rfl, rfl, _, Try.func11, by simp [results, Try.f11, Frame.at]⟩

set_option maxRecDepth 100000 in
set_option maxHeartbeats 1000000 in
theorem send_full {w : World} {p c : Nat} (a b : Int) (s : ByteArray) (buf : Array Value) (sn r : Nat) (h : Calls Try.prog 19 #[.pointer (some ⟨p, 0, none⟩), .int .i64 a, .int .i64 b] w fun e w' => e = .returned (.chan (some c)) ∧ w = w')
    (hc : w.heap[c]? = some (.chan 32 buf false sn r false)) (hr : 32 ≤ buf.size) :
    Calls Try.prog 11 #[.pointer (some ⟨p, 0, none⟩), .int .i64 a, .int .i64 b, .string s] w fun e w' => e = .returned (.int .i64 11) ∧ w' = w := by
  refine calls_of_loneTo fun cs => ?_
  have e : Frame.enter Try.prog 11 #[.pointer (some ⟨p, 0, none⟩), .int .i64 a, .int .i64 b, .string s] .normal = (base 11).at ⟨#[.pointer (some ⟨p, 0, none⟩), .int .i64 a, .int .i64 b, .string s, undef, undef, undef, undef, undef, undef, undef, undef, undef, undef, undef, undef, undef, undef, undef, undef, undef, undef, undef, undef, undef], []⟩ [.code (Try.f11.body.getD .skip)] := by
    simp [Frame.enter, Frame.at, Try.func11, base, Try.f11]
  rw [e]
  clear e
  have HL := Lib.hid h
  clear h
  refine LoneTo.goes (n := 3) ?_
  simp only [Try.f11, Option.getD_some]
  s_c stepG_seq
  s_stop
  refine LoneTo.code ?_
  go_wp2_with fail
  refine LoneTo.goes (n := 3) ?_
  s_c stepG_seq
  s_stop
  refine LoneTo.code ?_
  go_wp2_with fail
  refine (HL.out).mono ?_
  rintro e w1 ⟨rfl, rfl⟩
  go_wp2_with fail
  refine LoneTo.goes (n := 3) ?_
  s_c stepG_seq
  s_stop
  refine LoneTo.code ?_
  go_wp2_with fail
  refine LoneTo.goes (n := 3) ?_
  s_c stepG_seq
  s_stop
  refine LoneTo.code ?_
  go_wp2_with fail
  refine LoneTo.goes (n := 10) ?_
  s_c stepG_seq
  s_reg
  s_stop
  refine LoneTo.step (step_lone_select_send_full (c := c) (cap := 32) (buf := buf) (s := sn) (r := r) (tm := false) (stepG_comm (cases := #[scase c (.string s) (.string { data := #[] })]) (blocking := false) (shape := .select) (w' := w) rfl rfl (by decide) (by simp [go_sem, execOp, scase, Act.eval])) hc hr) ?_
  rw [Frame.finish_at]
  walk_nrm
  refine LoneTo.goes (n := 20) ?_
  s_op
  s_op
  s_c stepG_region_end
  s_c stepG_block
  s_cond false
  s_c stepG_seq
  s_reg
  s_op
  s_c stepG_region_end
  s_c stepG_ret'
  s_stop
  exact LoneTo.done ⟨.returned (.int .i64 11), _, rfl, ⟨rfl, rfl⟩, rfl, rfl, rfl, rfl, _, Try.func11, by simp [results, Try.f11, Frame.at]⟩

end Go.Proofs.Ytbkgnkiimnlbcaa
