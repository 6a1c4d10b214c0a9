/- The contracts of Num, of the program and of the reference: the four bytes of the number, the lowest first. Condition: the argument is a number of 32 bits. -/
import Derived.Test.YtlbhibilhbhidaaBase
namespace Go.Proofs.Ytlbhibilhbhidaa
open Go.RowKit Go.Deep

/-- The j-th byte of a number. -/
def nb (n j : Nat) : UInt8 := UInt8.ofNat (n / 2 ^ (8 * j))
theorem nb_int (n j : Nat) : ((n : Int) / 2 ^ (8 * j) % 256) = ((nb n j).toNat : Int) := by
  unfold nb
  rw [UInt8.toNat_ofNat', Int.natCast_emod, Int.natCast_ediv, Int.natCast_pow]
  rfl
theorem num_row {wr : World} {B n k : Nat} (hrow : wr.rowIs B 47 4 (fun j => .int .u8 (if j < k then ((nb n j).toNat : Int) else 0))) :
    (wr.setCell ⟨B, k, none⟩ (.int .u8 ((n : Int) / 2 ^ (8 * k) % 256))).rowIs B 47 4 (fun j => .int .u8 (if j < k + 1 then ((nb n j).toNat : Int) else 0)) := by
  refine (hrow.set k _).congr fun j _ => ?_
  by_cases h : j = k
  · subst h
    rw [if_pos rfl, if_pos (by omega), nb_int]
  · by_cases h2 : j < k
    · rw [if_neg h, if_pos h2, if_pos (by omega)]
    · rw [if_neg h, if_neg h2, if_neg (by omega)]
theorem ofNat_mod (m : Nat) : UInt8.ofNat (m % 256) = UInt8.ofNat m := by
  apply UInt8.toNat_inj.1
  simp
theorem ofNat_int (n d : Nat) : UInt8.ofNat (((n : Int) / (d : Int)) % 256).toNat = UInt8.ofNat (n / d) := by
  rw [show ((n : Int) / (d : Int)) % 256 = ((n / d % 256 : Nat) : Int) from by rw [Int.natCast_emod, Int.natCast_ediv]; rfl, Int.toNat_natCast, ofNat_mod]
theorem le4_ints (n : Nat) : strOfNums [(n : Int) % 256, (n : Int) / 256 % 256, (n : Int) / 65536 % 256, (n : Int) / 16777216 % 256] = le4 n := by
  have h1 := ofNat_int n 1
  have h2 := ofNat_int n 256
  have h3 := ofNat_int n 65536
  have h4 := ofNat_int n 16777216
  rw [Nat.div_one, show ((n : Int) / ((1 : Nat) : Int)) = (n : Int) from by simp] at h1
  unfold le4 strOfNums
  simp only [List.map_cons, List.map_nil]
  rw [h1, show ((n : Int) / 256) = (n : Int) / ((256 : Nat) : Int) from rfl, h2, show ((n : Int) / 65536) = (n : Int) / ((65536 : Nat) : Int) from rfl, h3, show ((n : Int) / 16777216) = (n : Int) / ((16777216 : Nat) : Int) from rfl, h4]
theorem le4_nb (n : Nat) : strOfNums ((List.range 4).map fun j => ((nb n j).toNat : Int)) = le4 n := by
  rw [← le4_ints]
  congr 1
  have h0 := nb_int n 0
  have h1 := nb_int n 1
  have h2 := nb_int n 2
  have h3 := nb_int n 3
  simp [List.range_succ, ← h0, ← h1, ← h2, ← h3]
theorem ref_text (w : World) (n : Nat) : (convert 48 9 (.slice (some ⟨w.heap.size, 0, none⟩) 4 4)).run Try.prog (w.alloc (.cells #[.int .u8 ((n : Int) % 256), .int .u8 ((n : Int) / 256 % 256), .int .u8 ((n : Int) / 65536 % 256), .int .u8 ((n : Int) / 16777216 % 256)] 5)) =
    .ok (.string (le4 n)) (w.alloc (.cells #[.int .u8 ((n : Int) % 256), .int .u8 ((n : Int) / 256 % 256), .int .u8 ((n : Int) / 65536 % 256), .int .u8 ((n : Int) / 16777216 % 256)] 5)) := by
  rw [← le4_ints]
  refine run_convert_bytes_arg _ 48 5 Try.underlying48 Try.underlying5 _ 0 4 4 _ rfl (fun i hi => ?_) 9 Try.underlying9
  rw [cell_of_row _ _ _ _ _ (0, 0) (heap_alloc_new w _)]
  match i, hi with
  | 0, _ => rfl
  | 1, _ => rfl
  | 2, _ => rfl
  | 3, _ => rfl
theorem num_text {wr : World} {B n cap : Nat} (hrow : wr.rowIs B 47 4 (fun j => .int .u8 (if j < 4 then ((nb n j).toNat : Int) else 0))) :
    (convert 48 9 (.slice (some ⟨B, 0, none⟩) 4 cap)).run Try.prog wr = .ok (.string (le4 n)) wr := by
  rw [← le4_nb]
  refine run_convert_bytes_arg wr 48 5 Try.underlying48 Try.underlying5 B 0 4 cap _ (by simp) (fun i hi => ?_) 9 Try.underlying9
  have := hrow.cell hi
  rw [if_pos hi] at this
  rw [Nat.zero_add, this]
  simp [hi]

set_option maxHeartbeats 400000 in
theorem num_any (x : Int) (w : World) (h0 : 0 ≤ x) (h1 : x < 4294967296) : Calls Try.prog 9 #[.int .u32 x] w fun e w' => e = .returned (.string (le4 x.toNat)) ∧ Below w.heap.size w w' := by
  obtain ⟨n, rfl⟩ := Int.eq_ofNat_of_zero_le h0
  rw [Int.toNat_natCast]
  clear h0 h1
  go_enter Try.func9, Try.ntmps9
  go_wp2
  go_loopw [5] (fun i wr => ∃ k : Nat, k ≤ 4 ∧ i = .int .i64 k ∧ wr.rowIs w.heap.size 47 4 (fun j => .int .u8 (if j < k then ((nb n j).toNat : Int) else 0)) ∧ Below w.heap.size w wr) (fun i _ => 4 - (intOf i).toNat)
  case atStart =>
    refine ⟨0, by omega, rfl, ⟨_, heap_alloc_new _ _, rfl, ?_⟩, (Below.refl _ _).alloc (Nat.le_refl _) _⟩
    intro i hi
    rw [show (#[Value.int .u8 0, .int .u8 0, .int .u8 0, .int .u8 0] : Array Value) = Array.replicate 4 (Value.int .u8 0) from rfl, Array.getElem?_replicate, if_pos hi]
    simp
  case round =>
    obtain ⟨k, hk, rfl, hrow, hb⟩ := hrel
    by_cases hlt : k < 4
    · have hfr := hrow.frozen k
      have hc := hrow.cell hlt
      rw [if_neg (Nat.lt_irrefl k)] at hc
      go_wp2
      go_round
      case rel => exact ⟨k + 1, by omega, by go_num, num_row hrow, hb.setCell (Nat.le_refl _) _⟩
      case measure => simp [intOf]; omega
    · obtain rfl : k = 4 := by omega
      have hcv := fun cap => num_text (cap := cap) hrow
      clear hrow
      go_wp2
      go_ret
      exact ⟨rfl, hb⟩

set_option maxHeartbeats 400000 in
theorem ref_num_any (x : Int) (w : World) (h0 : 0 ≤ x) (h1 : x < 4294967296) : Calls Try.prog 10 #[.int .u32 x] w fun e w' => e = .returned (.string (le4 x.toNat)) ∧ Below w.heap.size w w' := by
  obtain ⟨n, rfl⟩ := Int.eq_ofNat_of_zero_le h0
  rw [Int.toNat_natCast]
  clear h0 h1
  have hcv := ref_text w n
  go_enter Try.func10, Try.ntmps10
  go_wp2
  go_ret
  exact ⟨rfl, (Below.refl _ _).alloc (Nat.le_refl _) _⟩
end Go.Proofs.Ytlbhibilhbhidaa
