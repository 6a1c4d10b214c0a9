/- The walk of the law LaneExact: it returns true and writes only blocks of its own. No condition. -/
import Derived.Test.YtbkgnkiimnlbcaaRefTake
import Derived.Deep.RegionHeld3
import Derived.Deep.QuietTactic
import Derived.BigQuiet
namespace Go.Proofs.Ytbkgnkiimnlbcaa
open Go.RowKit Go.Deep Go.Conc

/-- The net and the reference's net side by side. -/
structure J (B : Nat) (w0 w : World) (p lo hi r : Nat) (n : Int) (L M : Lanes) (k : Nat) : Prop where
  on : On B w0 w p lo hi n L
  rl : Rl w r hi n M k
theorem J.lane {B : Nat} {w0 w w' : World} {p lo hi r k : Nat} {n : Int} {L L' M : Lanes} (h : J B w0 w p lo hi r n L M k) (hn : Nt w' p lo hi n L') (hm : Mid lo hi w w') : J B w0 w' p lo hi r n L' M k :=
  ⟨h.on.step hn hm, h.rl.mid hm⟩
theorem J.ref {B : Nat} {w0 w w' : World} {p lo hi r k k' : Nat} {n : Int} {L M M' : Lanes} (h : J B w0 w p lo hi r n L M k) (hn : Rl w' r hi n M' k') (ho : Only r w w') : J B w0 w' p lo hi r n L M' k' :=
  ⟨h.on.grown ho (fun k hk => by cases hk; exact h.rl.lt.2), hn⟩
theorem J.below {B : Nat} {w0 w w' : World} {p lo hi r k : Nat} {n : Int} {L M : Lanes} (h : J B w0 w p lo hi r n L M k) (hb : Below w.heap.size w w') : J B w0 w' p lo hi r n L M k :=
  ⟨h.on.more hb, h.rl.below hb⟩
/-- With a call that is being played, in a block of its own. -/
structure JX (B : Nat) (w0 w : World) (p lo hi r : Nat) (n : Int) (L M : Lanes) (k x : Nat) (row : Array Value) : Prop where
  j : J B w0 w p lo hi r n L M k
  row : w.heap[x]? = some (.cells row 33)
  low : hi ≤ x
  ne : x ≠ r
theorem JX.lane {B : Nat} {w0 w w' : World} {p lo hi r k x : Nat} {n : Int} {L L' M : Lanes} {row : Array Value} (h : JX B w0 w p lo hi r n L M k x row) (hn : Nt w' p lo hi n L') (hm : Mid lo hi w w') : JX B w0 w' p lo hi r n L' M k x row :=
  ⟨h.j.lane hn hm, by rw [hm.block x (Array.getElem?_eq_some_iff.1 h.row).1 (.inr h.low)]; exact h.row, h.low, h.ne⟩
theorem JX.ref {B : Nat} {w0 w w' : World} {p lo hi r k k' x : Nat} {n : Int} {L M M' : Lanes} {row : Array Value} (h : JX B w0 w p lo hi r n L M k x row) (hn : Rl w' r hi n M' k') (ho : Only r w w') : JX B w0 w' p lo hi r n L M' k' x row :=
  ⟨h.j.ref hn ho, ho.other h.row h.ne, h.low, h.ne⟩
theorem JX.drew {B : Nat} {w0 w : World} {p lo hi r k x : Nat} {n : Int} {L M : Lanes} {row : Array Value} (h : JX B w0 w p lo hi r n L M k x row) : JX B w0 w.drew p lo hi r n L M k x row :=
  ⟨h.j.below ((Below.refl _ _).drew), h.row, h.low, h.ne⟩
theorem J.new {B : Nat} {w0 w : World} {p lo hi r k : Nat} {n : Int} {L M : Lanes} (h : J B w0 w p lo hi r n L M k) (row : Array Value) : JX B w0 (w.alloc (.cells row 33)) p lo hi r n L M k w.heap.size row :=
  ⟨h.below ((Below.refl _ _).alloc (Nat.le_refl _) _), heap_alloc_new _ _, h.on.nt.low, Nat.ne_of_gt h.rl.lt.1⟩
theorem JX.cells {B : Nat} {w0 w : World} {p lo hi r k x : Nat} {n : Int} {L M : Lanes} {a0 a1 a2 a3 a4 : Value} (h : JX B w0 w p lo hi r n L M k x #[a0, a1, a2, a3, a4]) :
    w.cell? ⟨x, 0, none⟩ = some a0 ∧ w.cell? ⟨x, 1, none⟩ = some a1 ∧ w.cell? ⟨x, 2, none⟩ = some a2 ∧ w.cell? ⟨x, 3, none⟩ = some a3 ∧ w.cell? ⟨x, 4, none⟩ = some a4 :=
  ⟨cell_of_row w x 0 _ 33 _ h.row, cell_of_row w x 1 _ 33 _ h.row, cell_of_row w x 2 _ 33 _ h.row, cell_of_row w x 3 _ 33 _ h.row, cell_of_row w x 4 _ 33 _ h.row⟩

theorem jx_send {B : Nat} {w0 w : World} {p lo hi r k x : Nat} {n : Int} {L M : Lanes} {row : Array Value} (h : JX B w0 w p lo hi r n L M k x row) (a b : Int) (s : ByteArray) :
    Calls Try.prog 11 #[at0 p, .int .i64 a, .int .i64 b, .string s] w fun e w' => e = .returned (.int .i64 (sendOut n L a b)) ∧ JX B w0 w' p lo hi r n (sendL n L a b s) M k x row := by
  refine (nt_send h.j.on.nt a b s).mono ?_
  rintro e w' ⟨rfl, hn, hm⟩
  exact ⟨rfl, h.lane hn hm⟩
theorem jx_rsend {B : Nat} {w0 w : World} {p lo hi r k x : Nat} {n : Int} {L M : Lanes} {row : Array Value} (h : JX B w0 w p lo hi r n L M k x row) (hk : k ≤ 999) (a b : Int) (s : ByteArray) :
    Calls Try.prog 12 #[at0 r, .int .i64 a, .int .i64 b, .string s] w fun e w' => e = .returned (.int .i64 (sendOut n M a b)) ∧ JX B w0 w' p lo hi r n L (sendL n M a b s) (k + 1) x row := by
  refine (rl_send h.j.rl hk a b s).mono ?_
  rintro e w' ⟨rfl, hn, hm⟩
  exact ⟨rfl, h.ref hn hm⟩
theorem jx_twice {B : Nat} {w0 w : World} {p lo hi r k x : Nat} {n : Int} {L M : Lanes} {row : Array Value} (h : JX B w0 w p lo hi r n L M k x row) (a b c : Int) :
    Calls Try.prog 15 #[at0 p, .int .i64 a, .int .i64 b, .int .i64 c] w fun e w' => e = .returned (.bool (twiceOut L a b c)) ∧ JX B w0 w' p lo hi r n (twiceL L a b c) M k x row := by
  refine (nt_twice h.j.on.nt a b c).mono ?_
  rintro e w' ⟨rfl, hn, hm⟩
  exact ⟨rfl, h.lane hn hm⟩
theorem jx_rtwice {B : Nat} {w0 w : World} {p lo hi r k x : Nat} {n : Int} {L M : Lanes} {row : Array Value} (h : JX B w0 w p lo hi r n L M k x row) (hk : k ≤ 999) (a b c : Int) :
    Calls Try.prog 16 #[at0 r, .int .i64 a, .int .i64 b, .int .i64 c] w fun e w' => e = .returned (.bool (twiceOut M a b c)) ∧ JX B w0 w' p lo hi r n L (twiceL M a b c) (k + 1) x row := by
  refine (rl_twice h.j.rl hk a b c).mono ?_
  rintro e w' ⟨rfl, hn, hm⟩
  exact ⟨rfl, h.ref hn hm⟩
theorem jx_take {B : Nat} {w0 w : World} {p lo hi r k x : Nat} {n : Int} {L M : Lanes} {row : Array Value} (h : JX B w0 w p lo hi r n L M k x row) (a b c : Int) :
    Calls Try.prog 13 #[at0 p, .int .i64 a, .int .i64 b, .int .i64 c] w fun e w' => e = .returned (.tuple #[.string (takeText L a b c), .bool (takeIs L a b c)]) ∧ JX B w0 w' p lo hi r n (takeL L a b c) M k x row := by
  refine (nt_take h.j.on.nt a b c).mono ?_
  rintro e w' ⟨rfl, hn, hm⟩
  exact ⟨rfl, h.lane hn hm⟩
theorem jx_rtake {B : Nat} {w0 w : World} {p lo hi r k x : Nat} {n : Int} {L M : Lanes} {row : Array Value} (h : JX B w0 w p lo hi r n L M k x row) (hk : k ≤ 999) (a b c : Int) :
    Calls Try.prog 14 #[at0 r, .int .i64 a, .int .i64 b, .int .i64 c] w fun e w' => e = .returned (.tuple #[.string (takeText M a b c), .bool (takeIs M a b c)]) ∧ JX B w0 w' p lo hi r n L (takeL M a b c) (k + 1) x row := by
  refine (rl_take h.j.rl hk a b c).mono ?_
  rintro e w' ⟨rfl, hn, hm⟩
  exact ⟨rfl, h.ref hn hm⟩
theorem j_take {B : Nat} {w0 w : World} {p lo hi r k : Nat} {n : Int} {L M : Lanes} (h : J B w0 w p lo hi r n L M k) (a b c : Int) :
    Calls Try.prog 13 #[at0 p, .int .i64 a, .int .i64 b, .int .i64 c] w fun e w' => e = .returned (.tuple #[.string (takeText L a b c), .bool (takeIs L a b c)]) ∧ J B w0 w' p lo hi r n (takeL L a b c) M k ∧ Mid lo hi w w' := by
  refine (nt_take h.on.nt a b c).mono ?_
  rintro e w' ⟨rfl, hn, hm⟩
  exact ⟨rfl, h.lane hn hm, hm⟩
theorem j_rtake {B : Nat} {w0 w : World} {p lo hi r k : Nat} {n : Int} {L M : Lanes} (h : J B w0 w p lo hi r n L M k) (hk : k ≤ 999) (a b c : Int) :
    Calls Try.prog 14 #[at0 r, .int .i64 a, .int .i64 b, .int .i64 c] w fun e w' => e = .returned (.tuple #[.string (takeText M a b c), .bool (takeIs M a b c)]) ∧ J B w0 w' p lo hi r n L (takeL M a b c) (k + 1) ∧ Only r w w' := by
  refine (rl_take h.rl hk a b c).mono ?_
  rintro e w' ⟨rfl, hn, hm⟩
  exact ⟨rfl, h.ref hn hm, hm⟩
/-- A take that found nothing left all as it was. -/
theorem take_not {L : Lanes} {a b c : Int} (h : takeIs L a b c = false) : takeL L a b c = L := by
  unfold takeIs was at h
  unfold takeL
  rw [left_out (of_decide_eq_false h), updL_self]

theorem below_drewN (w : World) (m : Nat) : Below w.heap.size w (w.drewN m) := ⟨rfl, rfl, rfl, Nat.le_refl _, fun _ _ => rfl⟩
theorem J.drewN {B : Nat} {w0 w : World} {p lo hi r k : Nat} {n : Int} {L M : Lanes} (h : J B w0 w p lo hi r n L M k) (m : Nat) : J B w0 (w.drewN m) p lo hi r n L M k := h.below (below_drewN w m)
theorem quiet_fix {P : Program} {f : FuncId} {args : Array Value} {w : World} {n : Nat} {v : Value} (h : Calls P f args (w.drewN n) fun e w' => e = .returned v ∧ w.drewN n = w') : Calls P f args (w.drewN n) fun e w'' => e = .returned v ∧ ∃ m, w'' = w.drewN m :=
  h.mono fun _ _ ⟨he, hm⟩ => ⟨he, n, hm.symm⟩

set_option maxRecDepth 100000 in
set_option maxHeartbeats 4000000 in
theorem exact_any (nodes : Int) (c : Option Addr) (bx ox lc cc : Nat) (K F O P : Nat → Int) (S : Nat → ByteArray) (w : World)
    (hc : lc = 0 ∨ c = some ⟨bx, ox, none⟩ ∧ bx < w.heap.size) (hX : ∀ i, i < lc → w.cell? ⟨bx, ox + i * 5, none⟩ = some (.int .i64 (K i)) ∧ w.cell? ⟨bx, ox + i * 5 + 1, none⟩ = some (.int .i64 (F i)) ∧ w.cell? ⟨bx, ox + i * 5 + 2, none⟩ = some (.int .i64 (O i)) ∧ w.cell? ⟨bx, ox + i * 5 + 3, none⟩ = some (.int .i64 (P i)) ∧ w.cell? ⟨bx, ox + i * 5 + 4, none⟩ = some (.string (S i))) :
    Calls Try.prog 3 #[.int .i64 nodes, .slice c lc cc] w fun e w' => e = .returned (.bool true) ∧ Below w.heap.size w w' := by
  have HC := Lib.hid hc
  have HX := Lib.hid hX
  clear hc hX
  go_enter Try.func3, Try.ntmps3
  go_wp2_with fail
  refine (awake_any _).mono ?_
  rintro e w1 ⟨rfl, hb1⟩
  have B1 := Lib.hid hb1
  clear hb1
  go_wp2_with fail
  refine (nt_new nodes w1).mono ?_
  rintro e w2 ⟨rfl, hn2, hb2⟩
  have O2 := On.start B1.out hn2 hb2
  clear hn2 hb2
  go_wp2_with fail
  refine (rl_new nodes w2).mono ?_
  rintro e w3 ⟨rfl, hr3, hb3⟩
  have J3 : J w.heap.size w w3 (w1.heap.size + 1) w1.heap.size w2.heap.size w2.heap.size (clamp nodes) (fun _ _ => []) (fun _ _ => []) 0 := ⟨O2.more hb3, hr3⟩
  have hrr : w2.heap.size ≤ w2.heap.size := Nat.le_refl _
  clear hb3 hr3 O2
  generalize w1.heap.size + 1 = p at *
  generalize w1.heap.size = lo at *
  generalize w2.heap.size = r at *
  generalize clamp nodes = n at *
  have HJ := Lib.hid J3
  have c0 := J3.rl.cell
  have HN := Lib.hid fun m => quiet_fix (nt_nodes (J3.drewN m).on.nt)
  clear J3 hrr
  go_wp2_with fail
  go_quiet ((go_at_call 10; exact HN.out _))
  have HJ := Lib.hid (HJ.out.drewN nq)
  generalize w3.drewN nq = w4 at *
  go_wp2_with fail
  clear HN c0
  go_loopw [7] (fun i wr => ∃ (j : Nat) (L : Lanes), j ≤ lc ∧ j ≤ 200 ∧ i = .int .i64 j ∧ J w.heap.size w wr p lo r r n L L j) (fun i _ => 200 - (intOf i).toNat)
  case atStart => exact ⟨0, _, by omega, by omega, rfl, HJ.out⟩
  case round =>
    clear HJ
    obtain ⟨j, L, hj, hj2, rfl, hJ⟩ := hrel
    have HJ := Lib.hid hJ
    have HJ1 := Lib.hid hj
    have HJ2 := Lib.hid hj2
    clear hj hj2 hJ
    by_cases hor : j < lc ∧ j < 200
    · obtain ⟨hlt, h200⟩ := hor
      obtain ⟨rfl, hbx⟩ := HC.out.resolve_left (by omega)
      obtain ⟨x0, x1, x2, x3, x4⟩ := HX.out j hlt
      rw [← HJ.out.on.below.cell (p := ⟨bx, ox + j * 5, none⟩) hbx] at x0
      rw [← HJ.out.on.below.cell (p := ⟨bx, ox + j * 5 + 1, none⟩) hbx] at x1
      rw [← HJ.out.on.below.cell (p := ⟨bx, ox + j * 5 + 2, none⟩) hbx] at x2
      rw [← HJ.out.on.below.cell (p := ⟨bx, ox + j * 5 + 3, none⟩) hbx] at x3
      rw [← HJ.out.on.below.cell (p := ⟨bx, ox + j * 5 + 4, none⟩) hbx] at x4
      have hw1 : IntKind.i64.wrap ((j : Int) + 1) = ((j + 1 : Nat) : Int) := by rw [wrap_small _ (by omega) (by omega)]; omega
      generalize K j = xk at *
      generalize F j = xf at *
      generalize O j = xo at *
      generalize P j = xp at *
      generalize S j = xs at *
      by_cases hbig : 4096 < xs.size
      · have HB := Lib.hid (HJ.out.new #[.int .i64 xk, .int .i64 xf, .int .i64 xo, .int .i64 xp, .string xs])
        go_wp2_with fail
        go_ret
        exact ⟨rfl, HB.out.j.on.below⟩
      by_cases hk1 : xk = 1
      · subst hk1
        have HX0 := HJ.out.new #[.int .i64 1, .int .i64 xf, .int .i64 xo, .int .i64 xp, .string xs]
        obtain ⟨cx0, cx1, cx2, cx3, cx4⟩ := HX0.cells
        go_wp2_with fail
        have HX1 := HX0.drew
        clear HX0
        go_region_held3 (fun w' => w'.cell? ⟨wr.heap.size, 1, none⟩ = some (.int .i64 xf) ∧ w'.cell? ⟨wr.heap.size, 2, none⟩ = some (.int .i64 xo) ∧ w'.cell? ⟨wr.heap.size, 4, none⟩ = some (.string xs))
          (exact ⟨(JX.cells (by assumption)).2.1, (JX.cells (by assumption)).2.2.1, (JX.cells (by assumption)).2.2.2.2⟩)
          (first
            | (go_at_call 11; refine (jx_send (by assumption) _ _ _).mono ?_; rintro e w6 ⟨rfl, h6⟩)
            | (go_at_call 12; refine (jx_rsend (by assumption) (by have := HJ2.out; omega) _ _ _).mono ?_; rintro e w8 ⟨rfl, h7⟩))
        clear cx0 cx1 cx2 cx3 cx4 HX1 h6
        have HX8 := Lib.hid h7
        clear h7
        go_wp2_with fail
        have HLN := Lib.hid fun m => quiet_fix (nt_len (HX8.out.j.drewN m).on.nt xf xo)
        have HRN := Lib.hid fun m => quiet_fix (rl_len (HX8.out.j.drewN m).rl (by have := HJ2.out; omega) xf xo)
        obtain ⟨cx0, cx1, cx2, cx3, cx4⟩ := HX8.out.cells
        go_quiet ((first | (go_at_call 17; exact HLN.out _) | (go_at_call 18; exact HRN.out _)))
        have HJ9 := Lib.hid (HX8.out.j.drewN nq)
        clear HX8 HLN HRN cx0 cx1 cx2 cx3 cx4
        generalize w8.drewN nq = w9 at *
        go_wp2_with fail
        go_roundw
        case rel => exact ⟨j + 1, _, hlt, h200, rfl, ⟨HJ9.out.on, HJ9.out.rl.more (by omega)⟩⟩
        case measure => simp [intOf]; omega
      by_cases hk2 : xk = 2
      · subst hk2
        have HX0 := HJ.out.new #[.int .i64 2, .int .i64 xf, .int .i64 xo, .int .i64 xp, .string xs]
        have HT := Lib.hid (jx_take HX0 xf xo xp)
        clear HX0
        go_wp2_with fail
        refine (HT.out).mono ?_
        rintro e w6 ⟨rfl, h6⟩
        have HX6 := Lib.hid h6
        have HR := Lib.hid (jx_rtake h6 (by have := HJ2.out; omega) xf xo xp)
        obtain ⟨cx0, cx1, cx2, cx3, cx4⟩ := h6.cells
        clear h6
        generalize takeText L xf xo xp = X at *
        generalize takeIs L xf xo xp = Y at *
        go_wp2_with fail
        refine (HR.out).mono ?_
        rintro e w8 ⟨rfl, h8⟩
        have HX8 := Lib.hid h8
        clear h8 cx0 cx1 cx2 cx3 cx4
        cases Y
        all_goals
          go_wp2_with fail
          have HLN := Lib.hid fun m => quiet_fix (nt_len (HX8.out.j.drewN m).on.nt xf xo)
          have HRN := Lib.hid fun m => quiet_fix (rl_len (HX8.out.j.drewN m).rl (by have := HJ2.out; omega) xf xo)
          obtain ⟨cx0, cx1, cx2, cx3, cx4⟩ := HX8.out.cells
          go_quiet ((first | (go_at_call 17; exact HLN.out _) | (go_at_call 18; exact HRN.out _)))
          have HJ9 := Lib.hid (HX8.out.j.drewN nq)
          clear HX8 HLN HRN cx0 cx1 cx2 cx3 cx4
          generalize w8.drewN nq = w9 at *
          go_wp2_with fail
          go_roundw
          case rel => exact ⟨j + 1, _, hlt, h200, rfl, ⟨HJ9.out.on, HJ9.out.rl.more (by omega)⟩⟩
          case measure => simp [intOf]; omega
      by_cases hk3 : xk = 3
      · subst hk3
        have HX0 := HJ.out.new #[.int .i64 3, .int .i64 xf, .int .i64 xo, .int .i64 xp, .string xs]
        obtain ⟨cx0, cx1, cx2, cx3, cx4⟩ := HX0.cells
        go_wp2_with fail
        have HX1 := HX0.drew
        clear HX0
        go_region_held3 (fun w' => w'.cell? ⟨wr.heap.size, 1, none⟩ = some (.int .i64 xf) ∧ w'.cell? ⟨wr.heap.size, 2, none⟩ = some (.int .i64 xo) ∧ w'.cell? ⟨wr.heap.size, 3, none⟩ = some (.int .i64 xp))
          (exact ⟨(JX.cells (by assumption)).2.1, (JX.cells (by assumption)).2.2.1, (JX.cells (by assumption)).2.2.2.1⟩)
          (first
            | (go_at_call 15; refine (jx_twice (by assumption) _ _ _).mono ?_; rintro e w6 ⟨rfl, h6⟩)
            | (go_at_call 16; refine (jx_rtwice (by assumption) (by have := HJ2.out; omega) _ _ _).mono ?_; rintro e w8 ⟨rfl, h7⟩))
        clear cx0 cx1 cx2 cx3 cx4 HX1 h6
        have HX8 := Lib.hid h7
        clear h7
        go_wp2_with fail
        have HLN := Lib.hid fun m => quiet_fix (nt_len (HX8.out.j.drewN m).on.nt xf xo)
        have HRN := Lib.hid fun m => quiet_fix (rl_len (HX8.out.j.drewN m).rl (by have := HJ2.out; omega) xf xo)
        obtain ⟨cx0, cx1, cx2, cx3, cx4⟩ := HX8.out.cells
        go_quiet ((first | (go_at_call 17; exact HLN.out _) | (go_at_call 18; exact HRN.out _)))
        have HJ9 := Lib.hid (HX8.out.j.drewN nq)
        clear HX8 HLN HRN cx0 cx1 cx2 cx3 cx4
        generalize w8.drewN nq = w9 at *
        go_wp2_with fail
        go_roundw
        case rel => exact ⟨j + 1, _, hlt, h200, rfl, ⟨HJ9.out.on, HJ9.out.rl.more (by omega)⟩⟩
        case measure => simp [intOf]; omega
      have HX0 := HJ.out.new #[.int .i64 xk, .int .i64 xf, .int .i64 xo, .int .i64 xp, .string xs]
      go_wp2_with fail
      have HX8 := Lib.hid HX0
      clear HX0
      generalize wr.alloc (.cells #[.int .i64 xk, .int .i64 xf, .int .i64 xo, .int .i64 xp, .string xs] 33) = w8 at *
      have HLN := Lib.hid fun m => quiet_fix (nt_len (HX8.out.j.drewN m).on.nt xf xo)
      have HRN := Lib.hid fun m => quiet_fix (rl_len (HX8.out.j.drewN m).rl (by have := HJ2.out; omega) xf xo)
      obtain ⟨cx0, cx1, cx2, cx3, cx4⟩ := HX8.out.cells
      go_quiet ((first | (go_at_call 17; exact HLN.out _) | (go_at_call 18; exact HRN.out _)))
      have HJ9 := Lib.hid (HX8.out.j.drewN nq)
      clear HX8 HLN HRN cx0 cx1 cx2 cx3 cx4
      generalize w8.drewN nq = w9 at *
      go_wp2_with fail
      go_roundw
      case rel => exact ⟨j + 1, _, hlt, h200, rfl, ⟨HJ9.out.on, HJ9.out.rl.more (by omega)⟩⟩
      case measure => simp [intOf]; omega
    · have hor2 : (j < lc ∧ ¬ j < 200) ∨ ¬ j < lc := by omega
      clear hor
      rcases hor2 with ⟨hx, hy⟩ | hx
      all_goals
        go_wp2_with fail
        clear hx
        go_loopw [13] (fun i wv => ∃ (x k : Nat) (L : Lanes), x ≤ 9 ∧ k ≤ 200 + 9 * x ∧ i = .int .i64 x ∧ J w.heap.size w wv p lo r r n L L k) (fun i _ => 9 - (intOf i).toNat)
        case atStart => exact ⟨0, j, L, by omega, by have := HJ2.out; omega, rfl, HJ.out⟩
        case round =>
          clear HJ HJ1 HJ2
          obtain ⟨x, k, L, hx, hk, rfl, hJ⟩ := hrel
          have HJ := Lib.hid hJ
          have HK := Lib.hid hk
          clear hJ hk
          by_cases hlx : x ≤ 8
          · have hlx' : decide ((x : Int) ≤ 8) = true := by simp; omega
            have hw1 : IntKind.i64.wrap ((x : Int) + 1) = ((x + 1 : Nat) : Int) := by rw [wrap_small _ (by omega) (by omega)]; omega
            go_wp2_with fail
            go_loopw [14] (fun i wv => ∃ (y k : Nat) (L : Lanes), y ≤ 9 ∧ k ≤ 200 + 9 * x + y ∧ i = .int .i64 y ∧ J w.heap.size w wv p lo r r n L L k) (fun i _ => 9 - (intOf i).toNat)
            case atStart => exact ⟨0, k, L, by omega, by have := HK.out; omega, rfl, HJ.out⟩
            case round =>
              clear HJ HK
              obtain ⟨y, k, L, hy, hk, rfl, hJ⟩ := hrel
              have HJ := Lib.hid hJ
              have HK := Lib.hid hk
              clear hJ hk
              by_cases hly : y ≤ 8
              · have hw2 : IntKind.i64.wrap ((y : Int) + 1) = ((y + 1 : Nat) : Int) := by rw [wrap_small _ (by omega) (by omega)]; omega
                have HLN := Lib.hid (nt_len HJ.out.on.nt x y)
                have HRN := Lib.hid (rl_len HJ.out.rl (by have := HK.out; omega) x y)
                have HT := Lib.hid (j_take HJ.out x y 0)
                go_wp2_with fail
                refine (HLN.out).mono ?_
                rintro e w6 ⟨rfl, rfl⟩
                go_wp2_with fail
                refine (HRN.out).mono ?_
                rintro e w6 ⟨rfl, rfl⟩
                clear HLN HRN
                have HNO := Lib.hid (take_not (L := L) (a := x) (b := y) (c := 0))
                by_cases hY : takeIs L x y 0 = true
                · rw [hY] at HT
                  go_wp2_with fail
                  refine (HT.out).mono ?_
                  rintro e w6 ⟨rfl, h6, _⟩
                  have HR := Lib.hid (j_rtake h6 (by have := HK.out; omega) x y 0)
                  rw [hY] at HR
                  have HY := Lib.hid hY
                  clear h6 hY
                  generalize takeText L x y 0 = X at *
                  go_wp2_with fail
                  refine (HR.out).mono ?_
                  rintro e w8 ⟨rfl, h8, _⟩
                  have HJ8 := Lib.hid h8
                  clear h8
                  go_wp2_with fail
                  go_roundw
                  case rel => exact ⟨y + 1, k + 1, _, by omega, by have := HK.out; omega, rfl, HJ8.out⟩
                  case measure => simp [intOf]; omega
                · have hY' : takeIs L x y 0 = false := by simpa using hY
                  rw [hY', HNO.out hY'] at HT
                  clear hY hY'
                  go_wp2_with fail
                  refine (HT.out).mono ?_
                  rintro e w6 ⟨rfl, h6, _⟩
                  have HJ8 := Lib.hid h6
                  clear h6
                  go_wp2_with fail
                  go_roundw
                  case rel => exact ⟨y + 1, k, _, by omega, by have := HK.out; omega, rfl, HJ8.out⟩
                  case measure => simp [intOf]; omega
              · have hw9 : y = 9 := by omega
                subst hw9
                go_wp2_with fail
                go_roundw
                case rel => exact ⟨x + 1, k, L, by omega, by have := HK.out; omega, rfl, HJ.out⟩
                case measure => simp [intOf]; omega
          · go_wp2_with fail
            go_ret
            exact ⟨rfl, HJ.out.on.below⟩

end Go.Proofs.Ytbkgnkiimnlbcaa
