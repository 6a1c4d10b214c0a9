/- The contract of New. No condition. -/
import Derived.Test.YtbkgnkiimnlbcaaTwice
namespace Go.Proofs.Ytbkgnkiimnlbcaa
open Go.RowKit Go.Deep Go.Conc

/-- Whether there is a lane. -/
def right (n a b : Int) : Prop := 1 ≤ a ∧ a ≤ n ∧ 1 ≤ b ∧ b ≤ n ∧ a ≠ b
instance (n a b : Int) : Decidable (right n a b) := by unfold right; infer_instance

theorem look_push (l : List Way) (x y : Int) (c : Nat) (a b : Int) : look (l ++ [⟨x, y, c⟩]) a b = match look l a b with
    | some d => some d
    | none => if a = x ∧ b = y then some c else none := by
  unfold look
  rw [List.find?_append]
  cases h : l.find? fun x => a == x.a && b == x.b with
  | some d => simp
  | none =>
    by_cases h1 : a = x ∧ b = y
    · obtain ⟨rfl, rfl⟩ := h1; simp
    · have : ¬ ((a == x && b == y) = true) := by simpa using h1
      simp [List.find?, this, h1]

/-- A lane that was made: the channel's block is new, the map holds it. -/
theorem Net.put {w : World} {p lo : Nat} {n : Int} {l : List Way} (h : Net w p lo w.heap.size n l fun _ => []) {a b : Int} {m clock : Nat} {es : Array MapEntry} (hp : w.heap[p]? = some (.cells #[.int .i64 n, .map (some m)] 47)) (hm : w.heap[m]? = some (.map es clock))
    (he : ent es.toList l) (hml : lo ≤ m) {w2 : World}
    (h2 : w2.heap = (w.alloc (.chan 32 #[] false 0 0 false)).heap.setIfInBounds m (.map (es.push { key := wkey a b, val := .chan (some w.heap.size), born := clock }) (clock + 1))) :
    Net w2 p lo w2.heap.size n (l ++ [⟨a, b, w.heap.size⟩]) fun _ => [] := by
  obtain ⟨_, ⟨hp1, hp2⟩, hsz, hl, ha⟩ := h
  have hmlt : m < w.heap.size := (Array.getElem?_eq_some_iff.1 hm).1
  have es2 : w2.heap.size = w.heap.size + 1 := by rw [h2]; simp
  have np : m ≠ p := by rintro rfl; rw [hp] at hm; cases hm
  have other : ∀ k, k < w.heap.size → m ≠ k → w2.heap[k]? = w.heap[k]? := fun k hk hne => by
    rw [h2, Array.getElem?_setIfInBounds_ne hne, heap_alloc_old _ _ hk]
  have new : w2.heap[w.heap.size]? = some (.chan 32 #[] false 0 0 false) := by
    rw [h2, Array.getElem?_setIfInBounds_ne (by omega), heap_alloc_new]
  refine ⟨⟨m, es.push { key := wkey a b, val := .chan (some w.heap.size), born := clock }, clock + 1, (other p hp2 np).trans hp, ?_, ?_, hml, by omega⟩, ⟨hp1, by omega⟩, Nat.le_refl _, ?_, ?_⟩
  · rw [h2, Array.getElem?_setIfInBounds_self_of_lt (by rw [World.size_alloc]; omega)]
  · unfold ent at *
    simp only [Array.toList_push, List.map_append, he, List.map_cons, List.map_nil]
    rfl
  · intro x hx
    rcases List.mem_append.1 hx with hx | hx
    · obtain ⟨⟨s, r, hc⟩, q1, q2, q3⟩ := hl x hx
      have nx : m ≠ x.c := by rintro rfl; rw [hm] at hc; cases hc
      exact ⟨⟨s, r, (other _ q2 nx).trans hc⟩, q1, by omega, q3⟩
    · obtain rfl := List.mem_singleton.1 hx
      exact ⟨⟨0, 0, new⟩, by simp; omega, by simp; omega, by simp⟩
  · intro x hx y hy hxy
    rcases List.mem_append.1 hx with hx | hx <;> rcases List.mem_append.1 hy with hy | hy
    · exact ha x hx y hy hxy
    · obtain rfl := List.mem_singleton.1 hy
      have := (hl x hx).2.2.1
      simp only at hxy; omega
    · obtain rfl := List.mem_singleton.1 hx
      have := (hl y hy).2.2.1
      simp only at hxy; omega
    · obtain rfl := List.mem_singleton.1 hx
      obtain rfl := List.mem_singleton.1 hy
      exact ⟨rfl, rfl⟩

/-- The net under way: the ways up to (f, t) are made. -/
def Part (w : World) (p lo : Nat) (n : Int) (f t : Int) : Prop := ∃ l, Net w p lo w.heap.size n l (fun _ => []) ∧ ∀ a b, (look l a b).isSome = true ↔ right n a b ∧ (a < f ∨ a = f ∧ b < t)

theorem Part.skip {w : World} {p lo : Nat} {n f t : Int} (h : Part w p lo n f t) (hft : f = t) : Part w p lo n f (t + 1) := by
  obtain ⟨l, h, hl⟩ := h
  refine ⟨l, h, fun a b => (hl a b).trans ?_⟩
  unfold right
  constructor <;> rintro ⟨h1, h2⟩ <;> refine ⟨h1, ?_⟩ <;> omega
theorem Part.line {w : World} {p lo : Nat} {n f t : Int} (h : Part w p lo n f t) (ht : n < t) : Part w p lo n (f + 1) 1 := by
  obtain ⟨l, h, hl⟩ := h
  refine ⟨l, h, fun a b => (hl a b).trans ?_⟩
  unfold right
  constructor <;> rintro ⟨h1, h2⟩ <;> refine ⟨h1, ?_⟩ <;> omega
theorem Part.put {w : World} {p lo : Nat} {n f t : Int} (h : Part w p lo n f t) (hf : 1 ≤ f ∧ f ≤ n) (ht : 1 ≤ t ∧ t ≤ n) (hne : f ≠ t) :
    ∃ (m : Nat) (es : Array MapEntry) (clock : Nat), w.heap[p]? = some (.cells #[.int .i64 n, .map (some m)] 47) ∧ (∀ w' : World, w'.heap = (w.alloc (.chan 32 #[] false 0 0 false)).heap → (Instr.mapUpdate 45 (.map (some m)) (wkey f t) (.chan (some w.heap.size))).run Try.prog w' = .ok () { w' with heap := w'.heap.setIfInBounds m (.map (es.push { key := wkey f t, val := .chan (some w.heap.size), born := clock }) (clock + 1)) }) ∧
      (∀ w2 : World, w2.heap = (w.alloc (.chan 32 #[] false 0 0 false)).heap.setIfInBounds m (.map (es.push { key := wkey f t, val := .chan (some w.heap.size), born := clock }) (clock + 1)) → Part w2 p lo n f (t + 1)) ∧ lo ≤ m := by
  obtain ⟨l, h, hl⟩ := h
  obtain ⟨m, es, clock, h1, h2, h3, h4, h5⟩ := h.cell
  have hn : look l f t = none := by
    cases hk : look l f t with
    | none => rfl
    | some c =>
      have := (hl f t).1 (by rw [hk]; rfl)
      omega
  refine ⟨m, es, clock, h1, fun w' hw' => ?_, fun w2 hw2 => ⟨_, h.put h1 h2 h3 h4 hw2, fun a b => ?_⟩, h4⟩
  · exact run_put f t _ w' m es clock l (by rw [hw', heap_alloc_old _ _ h5]; exact h2) h3 hn
  · rw [look_push]
    have hh := hl a b
    unfold right at *
    cases hk : look l a b with
    | some d =>
      rw [hk] at hh
      have := hh.1 rfl
      simp only [Option.isSome_some, true_iff]
      omega
    | none =>
      rw [hk] at hh
      simp only [Option.isSome_none, Bool.false_eq_true, false_iff] at hh
      by_cases hab : a = f ∧ b = t
      · rw [if_pos hab]; simp only [Option.isSome_some, true_iff]; omega
      · rw [if_neg hab]; simp only [Option.isSome_none, Bool.false_eq_true, false_iff]; omega

theorem Part.cells {w : World} {p lo : Nat} {n f t : Int} (h : Part w p lo n f t) : w.cell? ⟨p, 0, none⟩ = some (.int .i64 n) := by
  obtain ⟨l, h, _⟩ := h
  obtain ⟨m, es, clock, h1, _⟩ := h.cell
  exact (two_cells h1).1
theorem part_new (w : World) (n : Int) : Part ((w.alloc (.map #[] 0)).alloc (.cells #[.int .i64 n, .map (some w.heap.size)] 47)) (w.heap.size + 1) w.heap.size n 1 1 := by
  have e1 := World.size_alloc w (.map #[] 0)
  have e2 := World.size_alloc (w.alloc (.map #[] 0)) (.cells #[.int .i64 n, .map (some w.heap.size)] 47)
  refine ⟨[], ⟨⟨w.heap.size, #[], 0, ?_, ?_, rfl, Nat.le_refl _, by omega⟩, ⟨by omega, by omega⟩, Nat.le_refl _, by simp, by simp⟩, fun a b => ?_⟩
  · rw [← e1, heap_alloc_new]
  · rw [heap_alloc_old _ _ (by omega), heap_alloc_new]
  · unfold right look; simp; omega

theorem below_putmap {B m : Nat} {a w : World} {o x : Obj} (h : Below B a w) (hB : B ≤ w.heap.size) (hm : B ≤ m) : Below B a { (w.alloc o).drew with heap := (w.alloc o).drew.heap.setIfInBounds m x } :=
  (h.alloc hB o).trans ⟨rfl, rfl, rfl, by simp, fun k hk => by
    rw [Array.getElem?_setIfInBounds_ne (by omega)]; rfl⟩

/-- How many nodes. -/
def clamp (x : Int) : Int := min (max x 1) 7

set_option maxHeartbeats 1000000 in
theorem new_any (x : Int) (w : World) : Calls Try.prog 8 #[.int .i64 x] w fun e w' => e = .returned (.pointer (some ⟨w.heap.size + 1, 0, none⟩)) ∧ Part w' (w.heap.size + 1) w.heap.size (clamp x) (clamp x + 1) 1 ∧ Below w.heap.size w w' := by
  have hmk : ∀ w, (Instr.makeMap 45 none).run Try.prog w = .ok (.map (some w.heap.size)) (w.alloc (.map #[] 0)) := fun w => run_makeMap_plain w 45
  obtain ⟨y, hy⟩ : ∃ y : Int, (if x < 1 then 1 else x) = y := ⟨_, rfl⟩
  obtain ⟨n, hn⟩ : ∃ n : Int, (if 7 < y then 7 else y) = n := ⟨_, rfl⟩
  have hcl : clamp x = n := by unfold clamp; subst hy; subst hn; omega
  rw [hcl]
  have hn1 : Hid (1 ≤ n ∧ n ≤ 7) := Lib.hid (by subst hy; subst hn; split <;> split <;> omega)
  clear hcl
  go_enter Try.func8, Try.ntmps8
  go_wp2_with fail
  have hP := part_new w n
  have hB : Below w.heap.size w ((w.alloc (.map #[] 0)).alloc (.cells #[.int .i64 n, .map (some w.heap.size)] 47)) := ((Below.refl _ w).alloc (Nat.le_refl _) _).alloc (by rw [World.size_alloc]; omega) _
  generalize (w.alloc (.map #[] 0)).alloc (.cells #[.int .i64 n, .map (some w.heap.size)] 47) = w0 at *
  go_loopw [4] (fun i wr => ∃ f : Int, 1 ≤ f ∧ f ≤ n + 1 ∧ i = .int .i64 f ∧ Part wr (w.heap.size + 1) w.heap.size n f 1 ∧ Below w.heap.size w wr) (fun i _ => (n + 1 - intOf i).toNat)
  case atStart => exact ⟨1, by omega, by have := hn1.out; omega, rfl, hP, hB⟩
  case round =>
    obtain ⟨f, hf1, hf2, rfl, hP, hB⟩ := hrel
    have c0 := hP.cells
    by_cases hf : f ≤ n
    · have hw1 : IntKind.i64.wrap (f + 1) = f + 1 := wrap_small _ (by omega) (by have := hn1.out; omega)
      have HF := Lib.hid hf2
      clear hf2
      go_wp2_with fail
      go_loopw [5] (fun i wv => ∃ t : Int, 1 ≤ t ∧ t ≤ n + 1 ∧ i = .int .i64 t ∧ Part wv (w.heap.size + 1) w.heap.size n f t ∧ Below w.heap.size w wv) (fun i _ => (n + 1 - intOf i).toNat)
      case atStart => exact ⟨1, by omega, by have := hn1.out; omega, rfl, hP, hB⟩
      case round =>
        obtain ⟨t, ht1, ht2, rfl, hP2, hB2⟩ := hrel
        have c02 := hP2.cells
        by_cases ht : t ≤ n
        · have hw2 : IntKind.i64.wrap (t + 1) = t + 1 := wrap_small _ (by omega) (by have := hn1.out; omega)
          by_cases hft : f = t
          · subst hft
            go_wp2_with fail
            go_roundw
            case rel => exact ⟨f + 1, by omega, by omega, rfl, hP2.skip rfl, hB2⟩
            case measure => simp [intOf]; omega
          · obtain ⟨m, es, clock, h1, h2, h3, h4⟩ := hP2.put ⟨hf1, hf⟩ ⟨ht1, ht⟩ hft
            obtain ⟨c0, c1, f0, f1⟩ := two_cells h1
            have hmc : ∀ w, (Instr.makeChan 48 (.int .i64 32)).run Try.prog w = .ok (.chan (some w.heap.size)) (w.alloc (.chan 32 #[] false 0 0 false)) := fun w => by
              have hi : ∃ i, Try.prog.info? 9 = some i ∧ i.bytes = 16 := by
                have h : (Try.prog.info? 9).map (·.bytes) = some 16 := by kernel_rfl
                obtain ⟨i, hi, hb⟩ := Option.map_eq_some_iff.1 h
                exact ⟨i, hi, hb⟩
              obtain ⟨i, hi, hb⟩ := hi
              simpa using run_makeChan (P := Try.prog) (w := w) Try.underlying48 hi .i64 32 (by omega) (by rw [hb]; omega)
            have hplt : w.heap.size + 1 < wr.heap.size := (Array.getElem?_eq_some_iff.1 h1).1
            have c1' : (wr.alloc (.chan 32 #[] false 0 0 false)).cell? ⟨w.heap.size + 1, 1, none⟩ = some (.map (some m)) := (two_cells (t := 47) (x := .int .i64 n) (by rw [heap_alloc_old _ _ hplt]; exact h1)).2.1
            obtain ⟨W, hrun, hPW, hBW⟩ : ∃ W, (Instr.mapUpdate 45 (.map (some m)) (.agg #[.int .i64 f, .int .i64 t]) (.chan (some wr.heap.size))).run Try.prog (wr.alloc (.chan 32 #[] false 0 0 false)).drew = .ok () W ∧ Part W (w.heap.size + 1) w.heap.size n f (t + 1) ∧ Below w.heap.size w W :=
              ⟨_, h2 (wr.alloc (.chan 32 #[] false 0 0 false)).drew rfl, h3 _ rfl, below_putmap hB2 hB2.size h4⟩
            clear h1 h2 h3
            go_wp2_with fail
            go_region
            go_wp2_with fail
            go_roundw
            case rel => exact ⟨t + 1, by omega, by omega, rfl, hPW, hBW⟩
            case measure => simp [intOf]; omega
        · obtain rfl : t = n + 1 := by omega
          go_wp2_with fail
          go_roundw
          case rel => exact ⟨f + 1, by omega, by omega, rfl, hP2.line (by omega), hB2⟩
          case measure => simp [intOf]; omega
    · obtain rfl : f = n + 1 := by omega
      go_wp2
      go_ret
      exact ⟨rfl, hP, hB⟩

end Go.Proofs.Ytbkgnkiimnlbcaa
