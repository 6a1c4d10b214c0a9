/- The contract of crc.table: it returns the check of each half of a byte and writes only blocks of its own. No condition. -/
import Derived.Test.YtpgmafocabpifaaRows
import Derived.Test.YtpgmafocabpifaaPlain
import Derived.WalkKit
import Derived.WalkLawsBesides
import Derived.WalkSpells
import Derived.Outline
import Derived.Deep.OwnRows
import Derived.Deep.LoopGhost
import Derived.Lib.Hide
import Derived.Laws.BitsAllLaws
namespace Go.Proofs.Ytpgmafocabpifaa
open Go.RowKit Go.Proofs.Ytpgmafocabpifaa.Crcp

theorem It_snoc (n x : Nat) : It (n + 1) x = S (It n x) := by rw [It_add]; rfl

/-- The table's step, as the walk shows it. -/
theorem step_tab (x : Nat) (hx : x < 4294967296) : bits .xor .u32 ((x : Int) / 2) (2197175160 * bits .and .u32 (x : Int) 1 % 4294967296) = ((S x : Nat) : Int) := by
  have h1 : bits .and .u32 (x : Int) 1 = ((x % 2 : Nat) : Int) := by
    have := u32_and_nat x 1 hx (by omega)
    rw [Nat.and_one_is_mod] at this
    exact this
  rw [h1]
  have h2 : (2197175160 * ((x % 2 : Nat) : Int) % 4294967296) = ((if x % 2 = 1 then poly else 0 : Nat) : Int) := by
    unfold poly
    split <;> omega
  rw [h2, show (x : Int) / 2 = ((x / 2 : Nat) : Int) from by omega]
  rw [u32_xor_nat _ _ (by omega) (by split; exact poly_lt; omega)]
  rfl

/-- The table's cells. -/
def tab : Array Value := ((List.range 16).map fun j => Value.int .u32 ((It 4 j : Nat) : Int)).toArray

theorem tab_size : tab.size = 16 := by simp [tab]
theorem tab_get (j : Nat) (h : j < 16) : tab[j]? = some (.int .u32 ((It 4 j : Nat) : Int)) := by
  simp [tab, h]
theorem tab_cells : tab.all (·.oneCell') = true := by
  rw [Array.all_eq_true]
  intro i hi
  simp [tab, Value.oneCell']
theorem tab_of {cs : Array Value} {k : Nat} (hk : 16 ≤ k) (hsz : cs.size = 16) (h : ∀ i, i < 16 → cs[i]? = some (.int .u32 (if i < k then (It 4 i : Nat) else 0))) : cs = tab := by
  apply Array.ext_getElem?
  intro i
  by_cases hi : i < 16
  · rw [h i hi, tab_get i hi, if_pos (by omega)]
  · rw [Array.getElem?_eq_none (by omega), Array.getElem?_eq_none (by rw [tab_size]; omega)]
theorem row_step {w wr : World} {k : Nat} (hk : k < 16) (hrow : wr.rowIs w.heap.size 33 16 (fun j => .int .u32 (if j < k then (It 4 j : Nat) else 0))) :
    (wr.setCell ⟨w.heap.size, k, none⟩ (.int .u32 (It 4 k : Nat))).rowIs w.heap.size 33 16 (fun j => .int .u32 (if j < k + 1 then (It 4 j : Nat) else 0)) := by
  refine (hrow.set k _).congr fun j _ => ?_
  by_cases h : j = k
  · subst h; simp
  · by_cases h2 : j < k
    · rw [if_neg h, if_pos h2, if_pos (by omega)]
    · rw [if_neg h, if_neg h2, if_neg (by omega)]

theorem zeros_get : ∀ i, i < 16 → (#[Value.int .u32 0, .int .u32 0, .int .u32 0, .int .u32 0, .int .u32 0, .int .u32 0, .int .u32 0, .int .u32 0, .int .u32 0, .int .u32 0, .int .u32 0, .int .u32 0, .int .u32 0, .int .u32 0, .int .u32 0, .int .u32 0] : Array Value)[i]? = some ((fun j => Value.int .u32 (if j < 0 then (It 4 j : Nat) else 0)) i) := by
  intro i hi
  have e : (#[Value.int .u32 0, .int .u32 0, .int .u32 0, .int .u32 0, .int .u32 0, .int .u32 0, .int .u32 0, .int .u32 0, .int .u32 0, .int .u32 0, .int .u32 0, .int .u32 0, .int .u32 0, .int .u32 0, .int .u32 0, .int .u32 0] : Array Value) = Array.replicate 16 (Value.int .u32 0) := rfl
  rw [e, Array.getElem?_replicate, if_pos hi]
  simp
theorem below_setRow {B g : Nat} (hg : B ≤ g) (w : World) (cs : Array Value) : Below B w (w.setRow g cs) :=
  ⟨rfl, rfl, rfl, by simp, fun k hk => setRow_other w g k cs (by omega)⟩

set_option maxHeartbeats 400000 in
/-- crc.table: it lays a block of its own. -/
theorem table_any (w : World) : Calls Try.prog 12 #[] w fun e w' => e = .returned (.agg tab) ∧ Below w.heap.size w w' := by
  go_enter Try.func12, Try.ntmps12
  go_wp2
  go_loopw [3] (fun i wr => ∃ k : Nat, k ≤ 16 ∧ i = .int .i64 k ∧ wr.rowIs w.heap.size 33 16 (fun j => .int .u32 (if j < k then (It 4 j : Nat) else 0)) ∧ Below w.heap.size w wr) (fun i _ => 16 - (intOf i).toNat)
  case atStart =>
    refine ⟨0, by omega, rfl, ⟨_, heap_alloc_new _ _, rfl, ?_⟩, (Below.refl _ _).alloc (Nat.le_refl _) _⟩
    exact zeros_get
  case round =>
    obtain ⟨k, hk, rfl, hrow, hb⟩ := hrel
    by_cases hlt : k < 16
    · go_wp2
      go_loopw [2, 8] (fun c i wr' => ∃ j : Nat, j ≤ 4 ∧ i = .int .i64 j ∧ c = .int .u32 (It j k : Nat) ∧ wr' = wr) (fun _ i _ => 4 - (intOf i).toNat)
      case atStart => exact ⟨0, by omega, rfl, rfl, rfl⟩
      case round =>
        obtain ⟨j, hj, rfl, rfl, rfl⟩ := hrel
        by_cases hjl : j < 4
        · go_wp2
          go_round
          case rel => exact ⟨j + 1, by omega, by go_num, by rw [step_tab _ (It_lt (by omega)), It_snoc], trivial⟩
          case measure => simp [intOf]; omega
        · have hfr := hrow.frozen k
          have hc := hrow.cell hlt
          have hj4 : j = 4 := by omega
          have Hj := Lib.hid hj4
          clear hj4
          go_wp2
          go_round
          case rel =>
            have hj4 := Hj.out
            subst hj4
            exact ⟨k + 1, by omega, by go_num, row_step hlt hrow, hb.setCell (Nat.le_refl _) _⟩
          case measure => simp [intOf]; omega
    · obtain ⟨cs, hcs, hsz, hcc⟩ := hrow
      obtain rfl := tab_of (by omega) hsz hcc
      clear hcc hsz
      go_wp2_with (first | refine wpList_load_row rfl 33 _ rfl w.heap.size rfl 33 tab (0, 0) _ hcs Try.underlying33 rfl (by rw [tab_size]; kernel_rfl) ?_ | refine wpList_store_row rfl 33 _ _ rfl w.heap.size tab rfl rfl 33 tab hcs (by rw [tab_size]; kernel_rfl) rfl tab_cells ?_)
      refine bodyPost_ret (v := .agg tab) (results_cell_row Try.results12 _ _ w.heap.size 33 tab (0, 0) _ rfl (setRow_heap wr w.heap.size tab tab 33 (0, 0) hcs) Try.underlying33 rfl (by rw [tab_size]; kernel_rfl)) rfl ⟨rfl, ?_⟩
      exact hb.trans (below_setRow (Nat.le_refl _) _ _)
end Go.Proofs.Ytpgmafocabpifaa
