/- The contract of crc.More: it returns the check behind the bytes and writes only blocks of its own. Condition: the text's length fits an int. -/
import Derived.Test.YtpgmafocabpifaaTable
import Derived.Test.YtpgmafocabpifaaLaws
namespace Go.Proofs.Ytpgmafocabpifaa
open Go.RowKit Go.Proofs.Ytpgmafocabpifaa.Crcp

theorem xor_n (a b : Nat) (ha : a < 4294967296) (hb : b < 4294967296) : bits .xor .u32 (a : Int) (b : Int) = ((a ^^^ b : Nat) : Int) := u32_xor_nat a b ha hb
theorem not_n (a : Nat) (ha : a < 4294967296) : bits .xor .u32 IntKind.u32.max (a : Int) = ((inv a : Nat) : Int) := by
  have := u32_xor_nat 4294967295 a (by omega) ha
  rw [Nat.xor_comm] at this
  exact this
theorem and15 (a : Nat) (ha : a < 4294967296) : bits .and .u32 (a : Int) 15 = ((a % 16 : Nat) : Int) := by
  have := u32_and_nat a 15 ha (by omega)
  rw [show a &&& 15 = a % 16 from Nat.and_two_pow_sub_one_eq_mod a 4] at this
  exact this
theorem div16 (a : Nat) : (a : Int) / 16 = ((a / 16 : Nat) : Int) := by omega

/-- A byte by two looks into the table. -/
theorem byte_two (c b : Nat) : byte c b = ((c ^^^ b) / 16 ^^^ It 4 ((c ^^^ b) % 16)) / 16 ^^^ It 4 (((c ^^^ b) / 16 ^^^ It 4 ((c ^^^ b) % 16)) % 16) := by
  unfold byte
  rw [show (8 : Nat) = 4 + 4 from rfl, It_add, It_four (c ^^^ b), It_four]

theorem take_snoc (s : ByteArray) (k : Nat) (h : k < s.data.size) : s.data.toList.take (k + 1) = s.data.toList.take k ++ [s.data[k]] := by
  rw [List.take_succ_eq_append_getElem (by simpa using h)]; rfl

/-- What is known of memory behind the first three statements: the table's block, the bytes' block, all that was. -/
theorem more_world {w w1 W : World} {s : ByteArray} {o : Obj} {T : Array Value} (ho : o = .cells T 33) (hb1 : Below w.heap.size w w1) (hbW : Below ((w1.alloc o).setRow w1.heap.size tab).heap.size ((w1.alloc o).setRow w1.heap.size tab) W)
    (hc : ∀ j (hj : j < s.data.size), W.cell? ⟨((w1.alloc o).setRow w1.heap.size tab).heap.size, j, none⟩ = some (.int .u8 (s.data[j].toNat : Int))) :
    (∀ j, j < 16 → W.cell? ⟨w1.heap.size, j, none⟩ = some (.int .u32 ((It 4 j : Nat) : Int))) ∧ (∀ j (hj : j < s.data.size), W.cell? ⟨w1.heap.size + 1, j, none⟩ = some (.int .u8 (s.data[j].toNat : Int))) ∧ Below w.heap.size w W := by
  subst ho
  have hs : ((w1.alloc (.cells T 33)).setRow w1.heap.size tab).heap.size = w1.heap.size + 1 := by simp
  rw [hs] at hc hbW
  refine ⟨fun j hj => ?_, hc, ?_⟩
  · have := hbW.block w1.heap.size (by omega)
    rw [setRow_heap _ _ T tab 33 (0, 0) (heap_alloc_new w1 _)] at this
    rw [cell_of_row W _ j tab 33 (0, 0) this]
    exact tab_get j hj
  · have hz := hb1.size
    exact ((hb1.alloc hz _).trans (below_setRow hz _ _)).trans (hbW.mono (by omega))

theorem xor_lt32 {a b : Nat} (ha : a < 4294967296) (hb : b < 4294967296) : a ^^^ b < 4294967296 := by
  have : a ^^^ b < 2 ^ 32 := Nat.xor_lt_two_pow (by omega) (by omega)
  exact this

/-- A round's reckoning, as the walk shows it. -/
theorem round_facts (c b : Nat) (hc : c < 4294967296) (hb : b < 256) : ∃ x q1 r1 t1 y q2 r2 t2 : Nat,
    bits .xor .u32 (c : Int) (b : Int) = (x : Int) ∧ (x : Int) / 16 = (q1 : Int) ∧ bits .and .u32 (x : Int) 15 = (r1 : Int) ∧ r1 < 16 ∧ It 4 r1 = t1 ∧ bits .xor .u32 (q1 : Int) (t1 : Int) = (y : Int) ∧
    (y : Int) / 16 = (q2 : Int) ∧ bits .and .u32 (y : Int) 15 = (r2 : Int) ∧ r2 < 16 ∧ It 4 r2 = t2 ∧ bits .xor .u32 (q2 : Int) (t2 : Int) = ((byte c b : Nat) : Int) := by
  have hx := xor_lt32 hc (show b < 4294967296 by omega)
  have ht1 : It 4 ((c ^^^ b) % 16) < 4294967296 := It_lt (by omega)
  have hy := xor_lt32 (show (c ^^^ b) / 16 < 4294967296 by omega) ht1
  have ht2 : It 4 (((c ^^^ b) / 16 ^^^ It 4 ((c ^^^ b) % 16)) % 16) < 4294967296 := It_lt (by omega)
  refine ⟨c ^^^ b, (c ^^^ b) / 16, (c ^^^ b) % 16, _, (c ^^^ b) / 16 ^^^ It 4 ((c ^^^ b) % 16), _, _, _, xor_n c b hc (by omega), div16 _, and15 _ hx, by omega, rfl, xor_n _ _ (by omega) ht1, div16 _, and15 _ hy, by omega, rfl, ?_⟩
  rw [xor_n _ _ (by omega) ht2, byte_two]
theorem run_step (c : Nat) (s : ByteArray) (k : Nat) (h : k < s.data.size) : run c (s.data.toList.take (k + 1)) = byte (run c (s.data.toList.take k)) s.data[k].toNat := by
  rw [take_snoc s k h, run_snoc]

set_option maxHeartbeats 400000 in
/-- crc.More. -/
theorem more_any (sum : Int) (s : ByteArray) (w : World) (h0 : 0 ≤ sum) (h1 : sum < 4294967296) (hs : s.size ≤ maxLen) :
    Calls Try.prog 10 #[.int .u32 sum, .string s] w fun e w' => e = .returned (.int .u32 ((more sum.toNat s.data.toList : Nat) : Int)) ∧ Below w.heap.size w w' := by
  obtain ⟨n, rfl⟩ := Int.eq_ofNat_of_zero_le h0
  have hn : n < 4294967296 := by omega
  unfold maxLen at hs
  have en := not_n n hn
  rw [Int.toNat_natCast]
  have Hn := Lib.hid hn
  clear h0 h1 hn
  go_enter Try.func10, Try.ntmps10
  go_wp2_with (first
    | (go_at_call 12; refine (table_any _).mono ?_; rintro e w1 ⟨rfl, hb1⟩)
    | ((with_reducible show wpList _ _ _ (⟨none, .store 33 (.tmp 5) (.tmp 9), _, _, _, _⟩ :: _) _ _); go_must (refine wpList_store_row rfl 33 _ _ rfl _ tab rfl rfl 33 _ (heap_alloc_new _ _) (by rw [tab_size]; kernel_rfl) rfl tab_cells ?_))
    | ((with_reducible show wpList _ _ _ (⟨some 13, .convert 9 28 (.tmp 12), _, _, _, _⟩ :: _) _ _); go_must (refine wpList_bytes_of rfl 9 28 5 _ rfl s rfl Try.underlying9 Try.underlying28 Try.underlying5 ?_; intro cap W hcap hbW hsz hcells; have HW := Lib.hid (more_world rfl hb1 hbW hcells); clear hbW hcells hsz)))
  go_loop [6, 15] (fun c i => ∃ k : Nat, k ≤ s.size ∧ i = .int .i64 k ∧ c = .int .u32 ((run (inv n) (s.data.toList.take k) : Nat) : Int)) (fun _ i => s.size - (intOf i).toNat)
  case atStart => exact ⟨0, by omega, rfl, rfl⟩
  case round =>
    obtain ⟨k, hk, rfl, rfl⟩ := hrel
    by_cases hlt : k < s.size
    · have hlt' : k < s.data.size := hlt
      have hbs := HW.out.2.1 k hlt'
      have Hr := Lib.hid (run_step (inv n) s k hlt')
      have hcn := run_lt (inv_lt Hn.out) (s.data.toList.take k)
      have hbb : s.data[k].toNat < 256 := s.data[k].toNat_lt
      obtain ⟨x, q1, r1, t1, y, q2, r2, t2, e1, e2, e3, hr1, et1, e4, e5, e6, hr2, et2, e7⟩ := round_facts _ _ hcn hbb
      have c1 := HW.out.1 r1 hr1
      have c2 := HW.out.1 r2 hr2
      rw [et1] at c1
      rw [et2] at c2
      have hr2' : (r2 : Int) < 16 := by omega
      have hr1' : (r1 : Int) < 16 := by omega
      clear hcn et1 et2
      generalize s.data[k].toNat = b at *
      generalize run (inv n) (s.data.toList.take k) = c at *
      generalize byte c b = z at *
      go_wp2
      go_round
      case rel => exact ⟨k + 1, by omega, by go_num, by rw [Hr.out]⟩
      case measure => simp [intOf]; omega
    · have hk' : k = s.size := by omega
      have Hk := Lib.hid hk'
      clear hk'
      have e9 := not_n _ (run_lt (inv_lt Hn.out) (s.data.toList.take k))
      go_wp2
      go_ret
      refine ⟨?_, HW.out.2.2⟩
      unfold more
      rw [Hk.out, List.take_of_length_le (by simp)]
      rfl
end Go.Proofs.Ytpgmafocabpifaa
