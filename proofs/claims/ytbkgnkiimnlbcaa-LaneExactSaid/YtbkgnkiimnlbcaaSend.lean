/- The contracts of the net's look-up, Nodes, Len and Send. No condition. -/
import Derived.Test.YtbkgnkiimnlbcaaBase
namespace Go.Proofs.Ytbkgnkiimnlbcaa
open Go.RowKit Go.Deep Go.Conc

/-- A walk of the machine of one goes over code without a communication by the kit's walk. -/
theorem _root_.Go.Conc.LoneTo.code {P : Program} {Q : Goroutine → World → Prop} {b : Frame} {a : Act} {k : List Item} {cs : List Frame} {w : World} {c : Code}
    (h : c.wp P (fun e a' w' => e = .normal ∧ LoneTo P Q (G (b.at a' k) cs) w') a w) : LoneTo P Q (G (b.at a (.code c :: k)) cs) w := by
  obtain ⟨e, a', w', ⟨rfl, g, w2, hs, hq⟩, harr⟩ := h b k cs
  exact ⟨g, w2, Steps.trans harr hs, hq⟩

theorem run_equalIn_chan_nil (d : Nat) (o : Option Nat) (w : World) : (Op.equalIn (d + 1) 48 (.chan o) (.chan none)).run Try.prog w = .ok o.isNone w := by
  cases o <;> simp [Op.equalIn, run_underlying Try.underlying48]
@[go_sem] theorem run_eql_chan_nil (o : Option Nat) (w : World) : (binOp .eql 48 (.chan o) (.chan none)).run Try.prog w = .ok (.bool o.isNone) w := by
  have := run_equalIn_chan_nil 9999 o w
  simp only [binOp]
  simp [Op.equal, Op.maxDepth, this]

set_option maxHeartbeats 400000 in
theorem lane_nil (a b : Int) (w : World) : Calls Try.prog 19 #[.pointer none, .int .i64 a, .int .i64 b] w fun e w' => e = .returned (.chan none) ∧ w = w' := by
  go_enter Try.func19, Try.ntmps19
  go_wp2
  go_ret
  exact ⟨rfl, rfl⟩

set_option maxHeartbeats 400000 in
theorem lane_cells {w : World} {p m clock : Nat} {n : Int} {es : Array MapEntry} {l : List Way} (h1 : w.heap[p]? = some (.cells #[.int .i64 n, .map (some m)] 47)) (h2 : w.heap[m]? = some (.map es clock)) (h3 : ent es.toList l) (a b : Int) :
    Calls Try.prog 19 #[.pointer (some ⟨p, 0, none⟩), .int .i64 a, .int .i64 b] w fun e w' => e = .returned (.chan (look l a b)) ∧ w = w' := by
  obtain ⟨c0, c1, f0, f1⟩ := two_cells h1
  have hl := run_look a b w m es clock l h2 h3
  unfold wkey at hl
  clear h1 h2 h3
  generalize look l a b = o at *
  go_enter Try.func19, Try.ntmps19
  go_wp2_with fail
  go_ret
  exact ⟨rfl, rfl⟩
theorem lane_any {w : World} {p lo hi : Nat} {n : Int} {l : List Way} {Q : Nat → List ByteArray} (h : Net w p lo hi n l Q) (a b : Int) : Calls Try.prog 19 #[.pointer (some ⟨p, 0, none⟩), .int .i64 a, .int .i64 b] w fun e w' => e = .returned (.chan (look l a b)) ∧ w = w' := by
  obtain ⟨⟨m, es, clock, h1, h2, h3, _, _⟩, _, _, _, _⟩ := h
  exact lane_cells h1 h2 h3 a b

set_option maxHeartbeats 400000 in
theorem nodes_nil (w : World) : Calls Try.prog 10 #[.pointer none] w fun e w' => e = .returned (.int .i64 0) ∧ w = w' := by
  go_enter Try.func10, Try.ntmps10
  go_wp2
  go_ret
  exact ⟨rfl, rfl⟩
set_option maxHeartbeats 400000 in
theorem nodes_any {w : World} {p lo hi : Nat} {n : Int} {l : List Way} {Q : Nat → List ByteArray} (h : Net w p lo hi n l Q) : Calls Try.prog 10 #[.pointer (some ⟨p, 0, none⟩)] w fun e w' => e = .returned (.int .i64 n) ∧ w = w' := by
  obtain ⟨⟨m, es, clock, h1, h2, h3, _, _⟩, _, _, _, _⟩ := h
  obtain ⟨c0, c1, f0, f1⟩ := two_cells h1
  clear h1 h2 h3
  go_enter Try.func10, Try.ntmps10
  go_wp2
  go_ret
  exact ⟨rfl, rfl⟩

set_option maxHeartbeats 400000 in
theorem len_nil (a b : Int) (w : World) : Calls Try.prog 17 #[.pointer none, .int .i64 a, .int .i64 b] w fun e w' => e = .returned (.int .i64 0) ∧ w = w' := by
  have hl : ∀ w, (Builtin.len_ #[48] 3 #[.chan none]).run Try.prog w = .ok (.int .i64 0) w := fun w => by simp [Builtin.len_, run_underlying Try.underlying48, goInt]
  go_enter Try.func17, Try.ntmps17
  go_wp2_with fail
  refine (lane_nil a b w).mono ?_
  rintro e w1 ⟨rfl, rfl⟩
  go_wp2_with fail
  go_ret
  exact ⟨rfl, rfl⟩

/-- How many texts are on a lane. -/
def lenOf (l : List Way) (Q : Nat → List ByteArray) (a b : Int) : Nat := match look l a b with
  | none => 0
  | some c => (Q c).length

set_option maxHeartbeats 400000 in
theorem len_any {w : World} {p lo hi : Nat} {n : Int} {l : List Way} {Q : Nat → List ByteArray} (h : Net w p lo hi n l Q) (a b : Int) : Calls Try.prog 17 #[.pointer (some ⟨p, 0, none⟩), .int .i64 a, .int .i64 b] w fun e w' => e = .returned (.int .i64 (lenOf l Q a b)) ∧ w = w' := by
  have hl : (Builtin.len_ #[48] 3 #[.chan (look l a b)]).run Try.prog w = .ok (.int .i64 (lenOf l Q a b)) w := by
    unfold lenOf
    cases hk : look l a b with
    | none => simp [Builtin.len_, run_underlying Try.underlying48, goInt]
    | some c =>
      obtain ⟨⟨s, r, hc⟩, _⟩ := h.look_lane hk
      rw [run_len_chan 48 3 Try.underlying48 hc, bufOf_size]; rfl
  have HL := Lib.hid (lane_any h a b)
  clear h
  generalize lenOf l Q a b = z at *
  generalize look l a b = o at *
  go_enter Try.func17, Try.ntmps17
  go_wp2_with fail
  refine (HL.out).mono ?_
  rintro e w1 ⟨rfl, rfl⟩
  go_wp2_with fail
  go_ret
  exact ⟨rfl, rfl⟩

/-! ### Send -/
set_option maxHeartbeats 400000 in
theorem send_nil (a b : Int) (s : ByteArray) (w : World) : Calls Try.prog 11 #[.pointer none, .int .i64 a, .int .i64 b, .string s] w fun e w' => e = .returned (.int .i64 2) ∧ w = w' := by
  go_enter Try.func11, Try.ntmps11
  go_wp2_with fail
  refine (lane_nil a b w).mono ?_
  rintro e w1 ⟨rfl, rfl⟩
  go_wp2_with fail
  go_ret
  exact ⟨rfl, rfl⟩
set_option maxHeartbeats 400000 in
theorem send_none {w : World} {p : Nat} (a b : Int) (s : ByteArray) (h : Calls Try.prog 19 #[.pointer (some ⟨p, 0, none⟩), .int .i64 a, .int .i64 b] w fun e w' => e = .returned (.chan none) ∧ w = w') :
    Calls Try.prog 11 #[.pointer (some ⟨p, 0, none⟩), .int .i64 a, .int .i64 b, .string s] w fun e w' => e = .returned (.int .i64 1) ∧ w = w' := by
  have HL := Lib.hid h
  clear h
  go_enter Try.func11, Try.ntmps11
  go_wp2_with fail
  refine (HL.out).mono ?_
  rintro e w1 ⟨rfl, rfl⟩
  go_wp2_with fail
  go_ret
  exact ⟨rfl, rfl⟩

end Go.Proofs.Ytbkgnkiimnlbcaa
