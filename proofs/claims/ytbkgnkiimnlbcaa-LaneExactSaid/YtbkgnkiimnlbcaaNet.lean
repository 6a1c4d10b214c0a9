/- The contracts of the net's calls over the abstract net: for each two nodes the texts on their lane. No condition. -/
import Derived.Test.YtbkgnkiimnlbcaaNew
namespace Go.Proofs.Ytbkgnkiimnlbcaa
open Go.RowKit Go.Deep Go.Conc

abbrev Lanes := Int → Int → List ByteArray
def updL (L : Lanes) (a b : Int) (q : List ByteArray) : Lanes := fun x y => if x = a ∧ y = b then q else L x y
theorem updL_same (L : Lanes) (a b : Int) (q : List ByteArray) : updL L a b q a b = q := by simp [updL]
theorem updL_other (L : Lanes) {a b x y : Int} (q : List ByteArray) (h : ¬ (x = a ∧ y = b)) : updL L a b q x y = L x y := by simp only [updL]; rw [if_neg h]
theorem updL_self (L : Lanes) (a b : Int) : updL L a b (L a b) = L := by
  funext x y
  unfold updL
  split
  · rename_i h; rw [h.1, h.2]
  · rfl

/-- The net at p, of n nodes, in the blocks from lo to hi; what is on each lane. -/
structure Nt (w : World) (p lo hi : Nat) (n : Int) (L : Lanes) : Prop where
  net : ∃ l Q, Net w p lo hi n l Q ∧ (∀ a b, (look l a b).isSome = true ↔ right n a b) ∧ ∀ a b, L a b = match look l a b with
    | none => []
    | some c => Q c

/-- Outside of the net's blocks nothing that was there turned. -/
structure Mid (lo hi : Nat) (w w' : World) : Prop where
  os : w'.os = w.os
  tape : w'.tape = w.tape
  output : w'.output = w.output
  size : w.heap.size ≤ w'.heap.size
  block : ∀ k, k < w.heap.size → k < lo ∨ hi ≤ k → w'.heap[k]? = w.heap[k]?
theorem Mid.refl (lo hi : Nat) (w : World) : Mid lo hi w w := ⟨rfl, rfl, rfl, Nat.le_refl _, fun _ _ _ => rfl⟩
theorem Mid.trans {lo hi : Nat} {w w' w'' : World} (h : Mid lo hi w w') (k : Mid lo hi w' w'') : Mid lo hi w w'' :=
  ⟨k.os.trans h.os, k.tape.trans h.tape, k.output.trans h.output, Nat.le_trans h.size k.size, fun i hi' hb => (k.block i (Nat.lt_of_lt_of_le hi' h.size) hb).trans (h.block i hi' hb)⟩
theorem Mid.of_below {lo hi : Nat} {w w' : World} (h : Below w.heap.size w w') : Mid lo hi w w' := ⟨h.os, h.tape, h.output, h.size, fun k hk _ => h.block k hk⟩
theorem Mid.of_only {lo hi c : Nat} {w w' : World} (h : Only c w w') (h1 : lo ≤ c) (h2 : c < hi) : Mid lo hi w w' :=
  ⟨h.os, h.tape, h.output, h.size, fun k hk hb => h.block k hk (by simp; omega)⟩
theorem Mid.below {lo hi : Nat} {w w' : World} (h : Mid lo hi w w') (hlo : lo ≤ w.heap.size) : Below lo w w' :=
  ⟨h.os, h.tape, h.output, h.size, fun k hk => h.block k (by omega) (.inl hk)⟩
theorem Nt.mid {w w' : World} {p lo hi : Nat} {n : Int} {L : Lanes} (h : Nt w p lo hi n L) (hb : Below w.heap.size w w') : Nt w' p lo hi n L := by
  obtain ⟨l, Q, h, h1, h2⟩ := h
  exact ⟨l, Q, h.below (fun k hk => hb.block k (by have := h.size; omega)) hb.size, h1, h2⟩
theorem Nt.low {w : World} {p lo hi : Nat} {n : Int} {L : Lanes} (h : Nt w p lo hi n L) : hi ≤ w.heap.size := by
  obtain ⟨l, Q, h, _, _⟩ := h
  exact h.size

/-- The two cases of a lane. -/
theorem Nt.cases {w : World} {p lo hi : Nat} {n : Int} {L : Lanes} (h : Nt w p lo hi n L) (a b : Int) :
    (¬ right n a b ∧ L a b = [] ∧ ∀ w', Below w.heap.size w w' → Calls Try.prog 19 #[.pointer (some ⟨p, 0, none⟩), .int .i64 a, .int .i64 b] w' fun e w'' => e = .returned (.chan none) ∧ w' = w'') ∨
    (right n a b ∧ (L a b).length ≤ 32 ∧ ∃ c, lo ≤ c ∧ c < hi ∧ Lane w c (L a b) ∧
      (∀ w', Only c w w' → Calls Try.prog 19 #[.pointer (some ⟨p, 0, none⟩), .int .i64 a, .int .i64 b] w' fun e w'' => e = .returned (.chan (some c)) ∧ w' = w'') ∧
      ∀ w' q, Only c w w' → Lane w' c q → q.length ≤ 32 → Nt w' p lo hi n (updL L a b q)) := by
  obtain ⟨l, Q, h, h1, h2⟩ := h
  have hL := h2 a b
  have hR := h1 a b
  cases hk : look l a b with
  | none =>
    rw [hk] at hL hR
    refine .inl ⟨fun hr => by have := hR.2 hr; simp at this, hL, fun w' hb => ?_⟩
    have hn := h.below (fun k hk => hb.block k (by have := h.size; omega)) hb.size
    have := lane_any hn a b
    rwa [hk] at this
  | some c =>
    rw [hk] at hL hR
    obtain ⟨hl, c1, c2, c3⟩ := h.look_lane hk
    simp only at hL
    refine .inr ⟨hR.1 rfl, by rw [hL]; exact c3, c, c1, c2, by rw [hL]; exact hl, fun w' ho => ?_, fun w' q ho hq hlen => ⟨l, upd Q c q, h.turned ho hq hlen ⟨_, hl⟩, h1, fun x y => ?_⟩⟩
    · obtain ⟨m, es, clock, e1, e2, e3, e4, e5⟩ := h.cell
      obtain ⟨s0, r0, hc0⟩ := hl
      have np : p ≠ c := by rintro rfl; rw [e1] at hc0; cases hc0
      have nm : m ≠ c := by rintro rfl; rw [e2] at hc0; cases hc0
      have := lane_cells (ho.other e1 np) (ho.other e2 nm) e3 a b
      rwa [hk] at this
    · unfold updL
      by_cases hxy : x = a ∧ y = b
      · rw [if_pos hxy, hxy.1, hxy.2, hk]; simp [upd]
      · rw [if_neg hxy, h2 x y]
        cases hk2 : look l x y with
        | none => rfl
        | some d =>
          have : d ≠ c := by
            rintro rfl
            exact hxy ((h.look_apart hk2 hk))
          simp only; rw [upd_other _ _ this]

end Go.Proofs.Ytbkgnkiimnlbcaa
