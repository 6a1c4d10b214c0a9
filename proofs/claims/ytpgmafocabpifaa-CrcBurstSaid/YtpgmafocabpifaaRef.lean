/- The contract of the reference's More: it returns the same check and leaves the world as it was. Condition: the text's length fits an int. -/
import Derived.Test.YtpgmafocabpifaaMore
namespace Go.Proofs.Ytpgmafocabpifaa
open Go.RowKit Go.Proofs.Ytpgmafocabpifaa.Crcp

theorem ref_first (c : Nat) (s : ByteArray) (k : Nat) (hk : k < s.size) (hc : c < 4294967296) :
    bits .xor .u32 (c : Int) ((s[k].toNat : Int) % 4294967296) = ((c ^^^ (s.data[k]'hk).toNat : Nat) : Int) := by
  have hb : (s.data[k]'hk).toNat < 256 := (s.data[k]'hk).toNat_lt
  have e : ((s[k].toNat : Int) % 4294967296) = (((s.data[k]'hk).toNat : Nat) : Int) := by
    show (((s.data[k]'hk).toNat : Nat) : Int) % 4294967296 = _
    omega
  rw [e]
  exact xor_n c _ hc (by omega)
theorem ref_odd (y : Nat) (hy : y < 4294967296) (h : y % 2 = 1) : bits .xor .u32 ((y : Int) / 2) 2197175160 = ((S y : Nat) : Int) := by
  have := u32_xor_nat (y / 2) poly (by omega) poly_lt
  unfold S
  rw [if_pos h, ← this]
  congr 1
theorem ref_even (y : Nat) (h : ¬ y % 2 = 1) : (y : Int) / 2 = ((S y : Nat) : Int) := by
  unfold S
  rw [if_neg h, Nat.xor_zero]
  omega

set_option maxHeartbeats 400000 in
/-- reliquaryref04.More. -/
theorem ref_more_any (sum : Int) (s : ByteArray) (w : World) (h0 : 0 ≤ sum) (h1 : sum < 4294967296) (hs : s.size ≤ maxLen) :
    Calls Try.prog 11 #[.int .u32 sum, .string s] w fun e w' => e = .returned (.int .u32 ((more sum.toNat s.data.toList : Nat) : Int)) ∧ w = w' := by
  obtain ⟨n, rfl⟩ := Int.eq_ofNat_of_zero_le h0
  have hn : n < 4294967296 := by omega
  unfold maxLen at hs
  have en := not_n n hn
  rw [Int.toNat_natCast]
  have Hn := Lib.hid hn
  clear h0 h1 hn
  go_enter Try.func11, Try.ntmps11
  go_wp2
  go_loop [5, 6] (fun c i => ∃ k : Nat, k ≤ s.size ∧ i = .int .i64 k ∧ c = .int .u32 ((run (inv n) (s.data.toList.take k) : Nat) : Int)) (fun _ i => s.size - (intOf i).toNat)
  case atStart => exact ⟨0, by omega, rfl, rfl⟩
  case round =>
    obtain ⟨k, hk, rfl, rfl⟩ := hrel
    by_cases hlt : k < s.size
    · have hlt' : k < s.data.size := hlt
      have Hr := Lib.hid (run_step (inv n) s k hlt')
      have hcn := run_lt (inv_lt Hn.out) (s.data.toList.take k)
      have e1 := ref_first _ s k hlt hcn
      have hx := xor_lt32 hcn (show s.data[k].toNat < 4294967296 by have := s.data[k].toNat_lt; omega)
      have Hx := Lib.hid hx
      have Hb : Hid (byte (run (inv n) (s.data.toList.take k)) s.data[k].toNat = It 8 (run (inv n) (s.data.toList.take k) ^^^ s.data[k].toNat)) := rfl
      clear hcn hx
      generalize run (inv n) (s.data.toList.take k) ^^^ s.data[k].toNat = x at *
      generalize run (inv n) (s.data.toList.take k) = c at *
      go_wp2
      go_loop [5, 7] (fun c i => ∃ j : Nat, j ≤ 8 ∧ i = .int .i64 j ∧ c = .int .u32 ((It j x : Nat) : Int)) (fun _ i => 8 - (intOf i).toNat)
      case atStart => exact ⟨0, by omega, rfl, rfl⟩
      case round =>
        obtain ⟨j, hj, rfl, rfl⟩ := hrel
        by_cases hjl : j < 8
        · have hlt1 := It_lt (n := j) Hx.out
          have Hs2 := Lib.hid (It_snoc j x)
          generalize It j x = y at *
          by_cases hp : y % 2 = 1
          · have e2 := ref_odd y hlt1 hp
            have hp' : ((y : Int) % 2 == 1) = true := by rw [beq_iff_eq]; omega
            clear hp hlt1
            go_wp2
            go_round
            case rel => exact ⟨j + 1, by omega, by go_num, by rw [Hs2.out]⟩
            case measure => simp [intOf]; omega
          · have e2 := ref_even y hp
            have hp' : ((y : Int) % 2 == 1) = false := by rw [beq_eq_false_iff_ne]; omega
            clear hp hlt1
            go_wp2
            go_round
            case rel => exact ⟨j + 1, by omega, by go_num, by rw [Hs2.out]⟩
            case measure => simp [intOf]; omega
        · have hj8 : j = 8 := by omega
          have Hj := Lib.hid hj8
          clear hj8
          go_wp2
          go_round
          case rel => exact ⟨k + 1, by omega, by go_num, by rw [Hr.out, Hb.out, Hj.out]⟩
          case measure => simp [intOf]; omega
    · have hk' : k = s.size := by omega
      have Hk := Lib.hid hk'
      clear hk'
      have e9 := not_n _ (run_lt (inv_lt Hn.out) (s.data.toList.take k))
      go_wp2
      go_ret
      refine ⟨?_, rfl⟩
      unfold more
      rw [Hk.out, List.take_of_length_le (by simp)]
      rfl
end Go.Proofs.Ytpgmafocabpifaa
