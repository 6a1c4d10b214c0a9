/- The contracts of the net's calls over the abstract net, on to the laws. No condition. -/
import Derived.Test.YtbkgnkiimnlbcaaNet
namespace Go.Proofs.Ytbkgnkiimnlbcaa
open Go.RowKit Go.Deep Go.Conc

/-- Where a net's pointer points. -/
abbrev at0 (p : Nat) : Value := .pointer (some ⟨p, 0, none⟩)

theorem nt_nodes {w : World} {p lo hi : Nat} {n : Int} {L : Lanes} (h : Nt w p lo hi n L) : Calls Try.prog 10 #[at0 p] w fun e w' => e = .returned (.int .i64 n) ∧ w = w' := by
  obtain ⟨l, Q, h, _, _⟩ := h
  exact nodes_any h
theorem nt_len {w : World} {p lo hi : Nat} {n : Int} {L : Lanes} (h : Nt w p lo hi n L) (a b : Int) : Calls Try.prog 17 #[at0 p, .int .i64 a, .int .i64 b] w fun e w' => e = .returned (.int .i64 (L a b).length) ∧ w = w' := by
  obtain ⟨l, Q, h, _, h2⟩ := h
  have e : lenOf l Q a b = (L a b).length := by
    rw [h2 a b]; unfold lenOf
    cases look l a b <;> rfl
  have := len_any h a b
  rwa [e] at this

/-- What Send answers, and what it leaves. -/
def sendOut (n : Int) (L : Lanes) (a b : Int) : Int := if right n a b then (if (L a b).length < 32 then 0 else 11) else 1
def sendL (n : Int) (L : Lanes) (a b : Int) (s : ByteArray) : Lanes := if right n a b ∧ (L a b).length < 32 then updL L a b (L a b ++ [s]) else L
theorem nt_send {w : World} {p lo hi : Nat} {n : Int} {L : Lanes} (h : Nt w p lo hi n L) (a b : Int) (s : ByteArray) :
    Calls Try.prog 11 #[at0 p, .int .i64 a, .int .i64 b, .string s] w fun e w' => e = .returned (.int .i64 (sendOut n L a b)) ∧ Nt w' p lo hi n (sendL n L a b s) ∧ Mid lo hi w w' := by
  unfold sendOut sendL
  rcases h.cases a b with ⟨hr, hL, hc⟩ | ⟨hr, hlen, c, c1, c2, hl, hc, hn⟩
  · rw [if_neg hr, if_neg (fun hh => hr hh.1)]
    refine (send_none a b s (hc w (Below.refl _ _))).mono ?_
    rintro e w' ⟨rfl, rfl⟩
    exact ⟨rfl, h, Mid.refl _ _ _⟩
  · rw [if_pos hr]
    obtain ⟨sn, r, hch⟩ := hl
    by_cases hlt : (L a b).length < 32
    · rw [if_pos hlt, if_pos ⟨hr, hlt⟩]
      refine (send_room a b s _ sn r (hc w (Only.refl _ _)) hch (by rw [bufOf_size]; exact hlt)).mono ?_
      rintro e w' ⟨rfl, rfl⟩
      have ho := only_setChan w c 32 ((bufOf (L a b)).push (.string s)) false (sn + 1) r false
      refine ⟨rfl, hn _ _ ho ⟨sn + 1, r, ?_⟩ (by simp; omega), Mid.of_only ho c1 c2⟩
      rw [heap_setChan _ _ _ _ _ _ _ _ (Array.getElem?_eq_some_iff.1 hch).1, bufOf_push]
    · rw [if_neg hlt, if_neg (fun hh => hlt hh.2)]
      refine (send_full a b s _ sn r (hc w (Only.refl _ _)) hch (by rw [bufOf_size]; omega)).mono ?_
      rintro e w' ⟨rfl, rfl⟩
      exact ⟨rfl, h, Mid.refl _ _ _⟩

/-- What Take and Twice find. -/
def takeText (L : Lanes) (a b at_ : Int) : ByteArray := got (L a b) at_ (L a b).length
def takeIs (L : Lanes) (a b at_ : Int) : Bool := was at_ (L a b).length
def takeL (L : Lanes) (a b at_ : Int) : Lanes := updL L a b (left (L a b) at_)
theorem nt_take {w : World} {p lo hi : Nat} {n : Int} {L : Lanes} (h : Nt w p lo hi n L) (a b at_ : Int) :
    Calls Try.prog 13 #[at0 p, .int .i64 a, .int .i64 b, .int .i64 at_] w fun e w' => e = .returned (.tuple #[.string (takeText L a b at_), .bool (takeIs L a b at_)]) ∧ Nt w' p lo hi n (takeL L a b at_) ∧ Mid lo hi w w' := by
  rcases h.cases a b with ⟨hr, hL, hc⟩ | ⟨hr, hlen, c, c1, c2, hl, hc, hn⟩
  · have e1 : takeText L a b at_ = nul := by unfold takeText got; rw [hL, if_neg (by simp)]
    have e2 : takeIs L a b at_ = false := by unfold takeIs was; rw [hL]; exact decide_eq_false (by simp)
    have e3 : takeL L a b at_ = L := by
      unfold takeL
      rw [show left (L a b) at_ = L a b from by rw [hL]; rfl, updL_self]
    rw [e1, e2, e3]
    refine (take_none a b at_ hc).mono ?_
    rintro e w' ⟨rfl, hb⟩
    exact ⟨rfl, h.mid hb, Mid.of_below hb⟩
  · refine (take_chan a b at_ (L a b) hlen hc hl).mono ?_
    rintro e w' ⟨rfl, ho, hl'⟩
    have := kept_length (L a b) (fun i => decide ((i : Int) ≠ at_)) (L a b).length
    exact ⟨rfl, hn _ _ ho hl' (by unfold left; omega), Mid.of_only ho c1 c2⟩

def twiceOut (L : Lanes) (a b at_ : Int) : Bool := takeIs L a b at_ && decide ((L a b).length < 32)
def twiceL (L : Lanes) (a b at_ : Int) : Lanes := if twiceOut L a b at_ then updL L a b (L a b ++ [takeText L a b at_]) else L
theorem nt_twice {w : World} {p lo hi : Nat} {n : Int} {L : Lanes} (h : Nt w p lo hi n L) (a b at_ : Int) :
    Calls Try.prog 15 #[at0 p, .int .i64 a, .int .i64 b, .int .i64 at_] w fun e w' => e = .returned (.bool (twiceOut L a b at_)) ∧ Nt w' p lo hi n (twiceL L a b at_) ∧ Mid lo hi w w' := by
  unfold twiceL
  rcases h.cases a b with ⟨hr, hL, hc⟩ | ⟨hr, hlen, c, c1, c2, hl, hc, hn⟩
  · have e2 : twiceOut L a b at_ = false := by
      have : takeIs L a b at_ = false := by unfold takeIs was; rw [hL]; exact decide_eq_false (by simp)
      unfold twiceOut; rw [this]; rfl
    rw [e2]
    refine (twice_none a b at_ hc).mono ?_
    rintro e w' ⟨rfl, hb⟩
    exact ⟨rfl, h.mid hb, Mid.of_below hb⟩
  · cases hw : was at_ (L a b).length with
    | false =>
      have e2 : twiceOut L a b at_ = false := by unfold twiceOut takeIs; rw [hw]; rfl
      rw [e2]
      refine (twice_miss a b at_ (L a b) hlen hc hl hw).mono ?_
      rintro e w' ⟨rfl, ho, hl'⟩
      refine ⟨rfl, ?_, Mid.of_only ho c1 c2⟩
      have := hn _ _ ho hl' hlen
      rwa [updL_self] at this
    | true =>
      by_cases hlt : (L a b).length < 32
      · have e2 : twiceOut L a b at_ = true := by unfold twiceOut takeIs; rw [hw, decide_eq_true hlt]; rfl
        rw [e2]
        refine (twice_room a b at_ (L a b) hlen hc hl hw hlt).mono ?_
        rintro e w' ⟨rfl, ho, hl'⟩
        exact ⟨rfl, hn _ _ ho hl' (by simp; omega), Mid.of_only ho c1 c2⟩
      · have e2 : twiceOut L a b at_ = false := by unfold twiceOut takeIs; rw [hw, decide_eq_false hlt]; rfl
        rw [e2]
        refine (twice_full a b at_ (L a b) hlen hc hl hw (by omega)).mono ?_
        rintro e w' ⟨rfl, ho, hl'⟩
        refine ⟨rfl, ?_, Mid.of_only ho c1 c2⟩
        have := hn _ _ ho hl' hlen
        rwa [updL_self] at this

theorem nt_new (x : Int) (w : World) : Calls Try.prog 8 #[.int .i64 x] w fun e w' => e = .returned (at0 (w.heap.size + 1)) ∧ Nt w' (w.heap.size + 1) w.heap.size w'.heap.size (clamp x) (fun _ _ => []) ∧ Below w.heap.size w w' := by
  refine (new_any x w).mono ?_
  rintro e w' ⟨rfl, ⟨l, h, hl⟩, hb⟩
  refine ⟨rfl, ⟨l, _, h, fun a b => (hl a b).trans ?_, fun a b => ?_⟩, hb⟩
  · unfold right; omega
  · cases look l a b <;> rfl

theorem nil_take (a b at_ : Int) (w : World) : Calls Try.prog 13 #[.pointer none, .int .i64 a, .int .i64 b, .int .i64 at_] w fun e w' => e = .returned (.tuple #[.string nul, .bool false]) ∧ Below w.heap.size w w' :=
  take_none a b at_ fun w' _ => lane_nil a b w'
theorem nil_twice (a b at_ : Int) (w : World) : Calls Try.prog 15 #[.pointer none, .int .i64 a, .int .i64 b, .int .i64 at_] w fun e w' => e = .returned (.bool false) ∧ Below w.heap.size w w' :=
  twice_none a b at_ fun w' _ => lane_nil a b w'

end Go.Proofs.Ytbkgnkiimnlbcaa
