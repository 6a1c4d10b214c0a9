/- The contract of turn, over a closure whose contract is given by a predicate on worlds. No condition but that the lane holds 32 texts at most. -/
import Derived.Test.YtbkgnkiimnlbcaaSend2
namespace Go.Proofs.Ytbkgnkiimnlbcaa
open Go.RowKit Go.Deep Go.Conc

/-- Which texts stay. -/
def kept (q : List ByteArray) (keep : Nat → Bool) : Nat → List ByteArray
  | 0 => []
  | i + 1 => kept q keep i ++ if keep i then [q.getD i { data := #[] }] else []
theorem kept_length (q : List ByteArray) (keep : Nat → Bool) : ∀ i, (kept q keep i).length ≤ i
  | 0 => Nat.le_refl _
  | i + 1 => by
    have := kept_length q keep i
    simp only [kept, List.length_append]
    split <;> simp <;> omega
theorem drop_cons (q : List ByteArray) {i : Nat} (h : i < q.length) : q.drop i = q.getD i { data := #[] } :: q.drop (i + 1) := by
  rw [List.drop_eq_getElem_cons h]; simp [h]

def sndSeq : Code → Code | .seq _ b => b | c => c
def unBlock : Code → Code | .block _ c => c | c => c
def unLoop : Code → Code | .loop c => c | c => c
/-- The loop's body: taken out of the loaded function. -/
noncomputable def loopBody : Code := unLoop (unBlock (sndSeq (Try.f23.body.getD .skip)))

/-- What turn comes to. -/
def Turned (cs : List Frame) (R : World → Prop) (g' : Goroutine) (w' : World) : Prop := ∃ e fr, g' = G fr cs ∧ (e = .returned (.tuple #[]) ∧ R w') ∧ fr.fn = 23 ∧ fr.leaving Try.prog w' e

/-- The closure's contract. -/
structure Closed (f : Nat) (x y z : Value) (c : Nat) (q : List ByteArray) (keep : Nat → Bool) (K : Nat → World → Prop) : Prop where
  call : ∀ i w, i < q.length → K i w → Calls Try.prog f #[.int .i64 i, .string (q.getD i { data := #[] }), x, y, z] w fun e w' => e = .returned (.bool (keep i)) ∧ K (i + 1) w' ∧ w'.heap[c]? = w.heap[c]?
  enter : ∀ args w, (callFunc f args).run Try.prog w = .ok (.enter f args) w
  stay : ∀ i w buf s r, K i w → K i (w.setChan c 32 buf false s r false)

set_option maxRecDepth 100000 in
set_option maxHeartbeats 1000000 in
theorem turn_exit (c N i : Nat) (h : ¬ (i : Int) < N) (f : Nat) (x y z : Value) (cs : List Frame) (w : World) (R : World → Prop) (hR : R w) (j2 j3 j4 j5 j6 j9 j10 j11 j12 j13 j14 j15 j16 j17 j18 j19 j20 j21 j22 : Value) :
    LoneTo Try.prog (Turned cs R) (G ((base 23).at ⟨#[.chan (some c), .func (.func f) #[] #[x, y, z], j2, j3, j4, j5, j6, .int .i64 N, .int .i64 i, j9, j10, j11, j12, j13, j14, j15, j16, j17, j18, j19, j20, j21, j22], []⟩ [.code loopBody, .inLoop loopBody, .inBlock 0]) cs) w := by
  refine LoneTo.goes (n := 20) ?_
  simp only [loopBody, Try.f23, Option.getD_some, sndSeq, unBlock, unLoop]
  s_c stepG_seq
  s_reg
  s_op
  s_c stepG_region_end
  s_c stepG_seq
  s_cond false
  s_exit
  s_c stepG_end
  s_stop
  exact LoneTo.done ⟨.returned (.tuple #[]), _, rfl, ⟨rfl, hR⟩, rfl, rfl, rfl, rfl, _, Try.func23, by simp [results, Try.f23, Frame.at]⟩

set_option maxRecDepth 100000 in
set_option maxHeartbeats 2000000 in
theorem turn_loop (c : Nat) (q : List ByteArray) (hq : q.length ≤ 32) (f : Nat) (x y z : Value) (keep : Nat → Bool) (K : Nat → World → Prop) (C : Closed f x y z c q keep K) (cs : List Frame) :
    ∀ (m i : Nat) (w : World), i + m = q.length → K i w → Lane w c (q.drop i ++ kept q keep i) → ∀ (j2 j3 j4 j5 j6 j9 j10 j11 j12 j13 j14 j15 j16 j17 j18 j19 j20 j21 j22 : Value),
    LoneTo Try.prog (Turned cs fun w' => K q.length w' ∧ Lane w' c (kept q keep q.length)) (G ((base 23).at ⟨#[.chan (some c), .func (.func f) #[] #[x, y, z], j2, j3, j4, j5, j6, .int .i64 q.length, .int .i64 i, j9, j10, j11, j12, j13, j14, j15, j16, j17, j18, j19, j20, j21, j22], []⟩ [.code loopBody, .inLoop loopBody, .inBlock 0]) cs) w
  | 0, i, w, hi, hk, hl, _, _, _, _, _, _, _, _, _, _, _, _, _, _, _, _, _, _, _ => by
    have e : i = q.length := by omega
    subst e
    rw [List.drop_length, List.nil_append] at hl
    exact turn_exit c _ _ (by omega) f x y z cs w _ ⟨hk, hl⟩ _ _ _ _ _ _ _ _ _ _ _ _ _ _ _ _ _ _ _
  | m + 1, i, w, hi, hk, hl, j2, j3, j4, j5, j6, j9, j10, j11, j12, j13, j14, j15, j16, j17, j18, j19, j20, j21, j22 => by
    have ih := Lib.hid (turn_loop c q hq f x y z keep K C cs m (i + 1))
    have hlt : (i : Int) < (q.length : Int) := by omega
    have hlt' : i < q.length := by omega
    obtain ⟨s, r, hc⟩ := hl
    rw [drop_cons q hlt', List.cons_append] at hc
    have HC := Lib.hid (C.call i (w.setChan c 32 (bufOf (q.drop (i + 1) ++ kept q keep i)) false s (r + 1) false) hlt' (C.stay i w _ _ _ hk))
    have hw1 : IntKind.i64.wrap ((i : Int) + 1) = ((i + 1 : Nat) : Int) := by rw [wrap_small _ (by omega) (by omega)]; omega
    have HI := Lib.hid hi
    have hen := C.enter
    clear hi
    generalize hX : q.getD i { data := #[] } = X at hc HC
    refine LoneTo.goes (n := 30) ?_
    simp only [loopBody, Try.f23, Option.getD_some, sndSeq, unBlock, unLoop]
    s_c stepG_seq
    s_reg
    s_op
    s_c stepG_region_end
    s_c stepG_seq
    s_cond true
    s_c stepG_skip
    s_c stepG_seq
    s_c stepG_block
    s_c stepG_seq
    s_reg
    s_op
    s_op
    s_c stepG_region_end
    s_c stepG_seq
    s_reg
    s_op
    s_c stepG_region_end
    s_c stepG_seq
    s_reg
    s_stop
    refine LoneTo.step (step_lone_select_recv_buf (c := c) (cap := 32) (closed := false) (s := s) (r := r) (tm := false) (z := .string { data := #[] }) (stepG_comm (cases := #[rcase c (.string { data := #[] })]) (blocking := false) (shape := .select) (w' := w) rfl rfl (by decide) (by simp [go_sem, execOp, rcase, Act.eval])) hc (by rw [bufOf_size]; simp)) ?_
    rw [Frame.finish_at, bufOf_tail, bufOf_head]
    walk_nrm
    refine LoneTo.goes (n := 20) ?_
    s_op
    s_op
    s_c stepG_region_end
    s_c stepG_block
    s_cond true
    s_c stepG_seq
    s_reg
    s_op
    s_op
    s_c stepG_region_end
    s_c stepG_seq
    s_stop
    refine LoneTo.code ?_
    go_wp2_with fail
    refine (HC.out).mono ?_
    rintro e w1 ⟨rfl, hk1, hc1⟩
    rw [heap_setChan _ _ _ _ _ _ _ _ (Array.getElem?_eq_some_iff.1 hc).1] at hc1
    go_wp2_with fail
    by_cases hkeep : keep i = true
    · rw [hkeep]
      refine LoneTo.goes (n := 10) ?_
      s_cond true
      s_reg
      s_op
      s_op
      s_stop
      refine LoneTo.step (step_lone_send_room (c := c) (cap := 32) (s := s) (r := r + 1) (tm := false) (z' := .tuple #[]) (stepG_comm (cases := #[scase c (.string X) (.tuple #[])]) (blocking := true) (shape := .send) (w' := w1) rfl rfl (by decide) (by simp [go_sem, execOp, scase, Act.eval])) hc1 (by rw [bufOf_size, List.length_append, List.length_drop]; have := kept_length q keep i; have := HI.out; omega)) ?_
      rw [Frame.finish_at, bufOf_push]
      walk_nrm
      refine LoneTo.goes (n := 20) ?_
      s_c stepG_region_end
      s_c stepG_inBlock
      s_c stepG_inBlock
      s_reg
      s_op
      s_op
      s_c stepG_region_end
      s_c stepG_inLoop
      s_stop
      refine ih.out _ (by have := HI.out; omega) (C.stay _ _ _ _ _ hk1) ⟨s + 1, r + 1, ?_⟩ _ _ _ _ _ _ _ _ _ _ _ _ _ _ _ _ _ _ _
      rw [heap_setChan _ _ _ _ _ _ _ _ (Array.getElem?_eq_some_iff.1 hc1).1, kept, if_pos hkeep, hX]
    · rw [Bool.not_eq_true] at hkeep
      rw [hkeep]
      refine LoneTo.goes (n := 20) ?_
      s_cond false
      s_c stepG_skip
      s_c stepG_inBlock
      s_c stepG_inBlock
      s_reg
      s_op
      s_op
      s_c stepG_region_end
      s_c stepG_inLoop
      s_stop
      refine ih.out _ (by have := HI.out; omega) hk1 ⟨s, r + 1, ?_⟩ _ _ _ _ _ _ _ _ _ _ _ _ _ _ _ _ _ _ _
      rw [hc1, kept, hkeep]; simp

set_option maxRecDepth 100000 in
set_option maxHeartbeats 1000000 in
/-- turn over a lane. -/
theorem turn_any {w : World} (c : Nat) (q : List ByteArray) (hq : q.length ≤ 32) (f : Nat) (x y z : Value) (keep : Nat → Bool) (K : Nat → World → Prop) (C : Closed f x y z c q keep K) (hk : K 0 w) (hl : Lane w c q) :
    Calls Try.prog 23 #[.chan (some c), .func (.func f) #[] #[x, y, z]] w fun e w' => e = .returned (.tuple #[]) ∧ K q.length w' ∧ Lane w' c (kept q keep q.length) := by
  refine calls_of_loneTo fun cs => ?_
  have e : Frame.enter Try.prog 23 #[.chan (some c), .func (.func f) #[] #[x, y, z]] .normal = (base 23).at ⟨#[.chan (some c), .func (.func f) #[] #[x, y, z], undef, undef, undef, undef, undef, undef, undef, undef, undef, undef, undef, undef, undef, undef, undef, undef, undef, undef, undef, undef, undef], []⟩ [.code (Try.f23.body.getD .skip)] := by
    simp [Frame.enter, Frame.at, Try.func23, base, Try.f23]
  rw [e]
  clear e
  obtain ⟨s, r, hc⟩ := hl
  have hlen : (Builtin.len_ #[48] 3 #[.chan (some c)]).run Try.prog w = .ok (.int .i64 q.length) w := by
    rw [run_len_chan 48 3 Try.underlying48 hc, bufOf_size]; rfl
  refine LoneTo.goes (n := 3) ?_
  simp only [Try.f23, Option.getD_some]
  s_c stepG_seq
  s_stop
  refine LoneTo.code ?_
  go_wp2_with fail
  refine LoneTo.goes (n := 3) ?_
  s_c stepG_block
  s_c stepG_loop
  s_stop
  exact turn_loop c q hq f x y z keep K C cs q.length 0 w (by omega) hk ⟨s, r, by rw [hc]; simp [kept]⟩ _ _ _ _ _ _ _ _ _ _ _ _ _ _ _ _ _ _ _

/-- turn over no lane. -/
theorem turn_none {w : World} (fv : Value) : Calls Try.prog 23 #[.chan none, fv] w fun e w' => e = .returned (.tuple #[]) ∧ w = w' := by
  have hlen : (Builtin.len_ #[48] 3 #[.chan none]).run Try.prog w = .ok (.int .i64 0) w := by simp [Builtin.len_, run_underlying Try.underlying48, goInt]
  refine calls_of_loneTo fun cs => ?_
  have e : Frame.enter Try.prog 23 #[.chan none, fv] .normal = (base 23).at ⟨#[.chan none, fv, undef, undef, undef, undef, undef, undef, undef, undef, undef, undef, undef, undef, undef, undef, undef, undef, undef, undef, undef, undef, undef], []⟩ [.code (Try.f23.body.getD .skip)] := by
    simp [Frame.enter, Frame.at, Try.func23, base, Try.f23]
  rw [e]
  clear e
  refine LoneTo.goes (n := 3) ?_
  simp only [Try.f23, Option.getD_some]
  s_c stepG_seq
  s_stop
  refine LoneTo.code ?_
  go_wp2_with fail
  refine LoneTo.goes (n := 20) ?_
  s_c stepG_block
  s_c stepG_loop
  s_c stepG_seq
  s_reg
  s_op
  s_c stepG_region_end
  s_c stepG_seq
  s_cond false
  s_exit
  s_c stepG_end
  s_stop
  exact LoneTo.done ⟨.returned (.tuple #[]), _, rfl, ⟨rfl, rfl⟩, rfl, rfl, rfl, rfl, _, Try.func23, by simp [results, Try.f23, Frame.at]⟩

end Go.Proofs.Ytbkgnkiimnlbcaa
