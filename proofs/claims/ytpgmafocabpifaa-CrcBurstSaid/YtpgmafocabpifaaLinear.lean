/- The walk of the law CrcLinear: it returns true and writes only blocks of its own. Condition: the form's own reach of each text. -/
import Derived.Test.YtpgmafocabpifaaGoes
import Derived.Lib.QuietBelow
import Derived.Laws.BytesArg
import Derived.StillTailTactics
import Derived.BigRegion
namespace Go.Proofs.Ytpgmafocabpifaa
open Go.RowKit Go.Proofs.Ytpgmafocabpifaa.Crcp Go.Deep Go.Sort

theorem Try.info5 : (Try.prog.info? 5).map (fun i => (i.zero, i.size, i.bytes)) = some (some (.int .u8 0), 1, 1) := by kernel_rfl

theorem mins (x y z : Nat) : ∃ m2 m1 n : Nat, (if (65536 : Int) < (z : Int) then 65536 else (z : Int)) = (m2 : Int) ∧ (if m2 < y then (m2 : Int) else (y : Int)) = (m1 : Int) ∧ (if m1 < x then (m1 : Int) else (x : Int)) = (n : Int) ∧ n ≤ x ∧ n ≤ y ∧ n ≤ z ∧ n ≤ 65536 := by
  refine ⟨min 65536 z, min (min 65536 z) y, min (min (min 65536 z) y) x, ?_, ?_, ?_, by omega, by omega, by omega, by omega⟩
  · split <;> omega
  · split <;> omega
  · split <;> omega

theorem lin_byte (x y z : UInt8) : bits .xor .u8 (bits .xor .u8 (x.toNat : Int) (y.toNat : Int)) (z.toNat : Int) = ((x ^^^ y ^^^ z).toNat : Int) := by
  have hx := x.toNat_lt
  have hy := y.toNat_lt
  have hz := z.toNat_lt
  have hxy : x.toNat ^^^ y.toNat < 256 := by
    have : x.toNat ^^^ y.toNat < 2 ^ 8 := Nat.xor_lt_two_pow (by omega) (by omega)
    exact this
  rw [u8_xor_nat _ _ (by omega) (by omega), u8_xor_nat _ _ hxy (by omega), UInt8.toNat_xor, UInt8.toNat_xor]
/-- The bytes so far. -/
def linCell (a b c : ByteArray) (j : Nat) : UInt8 := a.data.getD j 0 ^^^ b.data.getD j 0 ^^^ c.data.getD j 0
theorem getD_at (a : ByteArray) (j : Nat) (h : j < a.size) : a.data.getD j 0 = a[j] := by
  have h' : j < a.data.size := h
  unfold Array.getD
  rw [dif_pos h']
  rfl
theorem lin_row {wr : World} {B n k : Nat} {a0 a1 a2 : ByteArray} (hk : k < n) (h0 : k < a0.size) (h1 : k < a1.size) (h2 : k < a2.size)
    (hrow : wr.rowIs B 5 n (fun j => .int .u8 (if j < k then ((linCell a0 a1 a2 j).toNat : Int) else 0))) :
    (wr.setCell ⟨B, k, none⟩ (.int .u8 (bits .xor .u8 (bits .xor .u8 (a0[k].toNat : Int) (a1[k].toNat : Int)) (a2[k].toNat : Int)))).rowIs B 5 n (fun j => .int .u8 (if j < k + 1 then ((linCell a0 a1 a2 j).toNat : Int) else 0)) := by
  refine (hrow.set k _).congr fun j _ => ?_
  by_cases h : j = k
  · subst h
    rw [if_pos rfl, if_pos (by omega), lin_byte]
    have e0 : a0.data.getD j 0 = a0[j] := getD_at a0 j h0
    have e1 : a1.data.getD j 0 = a1[j] := getD_at a1 j h1
    have e2 : a2.data.getD j 0 = a2[j] := getD_at a2 j h2
    unfold linCell
    rw [e0, e1, e2]
  · by_cases h2 : j < k
    · rw [if_neg h, if_pos h2, if_pos (by omega)]
    · rw [if_neg h, if_neg h2, if_neg (by omega)]

/-- The text that the row reads as. -/
theorem lin_text {wr : World} {B n : Nat} {a0 a1 a2 : ByteArray} (hrow : wr.rowIs B 5 n (fun j => .int .u8 (if j < n then ((linCell a0 a1 a2 j).toNat : Int) else 0))) :
    ∃ D : ByteArray, (D.data.toList = (List.range n).map (linCell a0 a1 a2)) ∧ ∀ d os, (convert 28 9 (.slice (some ⟨B, 0, none⟩) n n)).run Try.prog (grow (redrawn wr d) os) = .ok (.string D) (grow (redrawn wr d) os) := by
  let xs : List Int := (List.range n).map fun j => ((linCell a0 a1 a2 j).toNat : Int)
  refine ⟨strOfNums xs, ?_, fun d os => ?_⟩
  · rw [strOfNums_data]
    simp [xs]
  · refine run_convert_bytes_arg (grow (redrawn wr d) os) 28 5 Try.underlying28 Try.underlying5 B 0 n n xs (by simp [xs]) (fun i hi => ?_) 9 Try.underlying9
    have := cell_regrown (hrow.cell hi) d os
    rw [if_pos hi] at this
    rw [Nat.zero_add, this]
    simp [xs, hi]

theorem lin_get (a : ByteArray) (n i : Nat) (hi : i < n) (h : n ≤ a.size) : (a.extract 0 n).data.toList.getD i 0 = a.data.getD i 0 := by
  have h' : n ≤ a.data.size := h
  simp [ByteArray.data_extract, List.getD_eq_getElem?_getD, hi]
theorem lin_len (a : ByteArray) (n : Nat) (h : n ≤ a.size) : (a.extract 0 n).data.toList.length = n := by
  have h' : n ≤ a.data.size := h
  simp [ByteArray.data_extract]; omega
theorem lin_eq (a0 a1 a2 D : ByteArray) (n : Nat) (h0 : n ≤ a0.size) (h1 : n ≤ a1.size) (h2 : n ≤ a2.size) (hD : D.data.toList = (List.range n).map (linCell a0 a1 a2)) :
    more 0 (a0.extract 0 n).data.toList ^^^ more 0 (a1.extract 0 n).data.toList ^^^ more 0 (a2.extract 0 n).data.toList = more 0 D.data.toList := by
  apply more_xor3
  · rw [lin_len _ _ h1, lin_len _ _ h0]
  · rw [lin_len _ _ h2, lin_len _ _ h0]
  · rw [hD, lin_len _ _ h0]; simp
  · intro i hi
    rw [lin_len _ _ h0] at hi
    rw [lin_get _ _ _ hi h0, lin_get _ _ _ hi h1, lin_get _ _ _ hi h2, hD]
    simp [hi, linCell]

theorem below_trans' {a b c : World} (h1 : Below a.heap.size a b) (h2 : Below b.heap.size b c) : Below a.heap.size a c := h1.trans (h2.mono h1.size)

theorem regrown_call (wr : World) (s : ByteArray) (hs : s.size ≤ maxLen) (m : Nat) (hm : more 0 s.data.toList = m) : ∀ d os, Calls Try.prog 8 #[.string s] (grow (redrawn wr d) os) fun e w'' => e = .returned (.int .u32 (m : Int)) ∧ ∃ p : Regrown, w'' = grow (redrawn wr p.d) p.os := by
  subst hm
  exact fun d os => Calls.regrown_of (sum_any s _ hs)

/-- The four calls of the last statement. -/
theorem lin_calls (wr : World) (a0 a1 a2 D : ByteArray) (n : Nat) (w0 : a0.size ≤ 140737488351232) (w1 : a1.size ≤ 140737488351232) (w2 : a2.size ≤ 140737488351232) (h0 : n ≤ a0.size) (h1 : n ≤ a1.size) (h2 : n ≤ a2.size) (h3 : n ≤ 65536) (hD : D.data.toList = (List.range n).map (linCell a0 a1 a2)) :
    ∃ m0 m1 m2 m3 : Nat,
      (∀ d os, Calls Try.prog 8 #[.string (a0.extract 0 n)] (grow (redrawn wr d) os) fun e w'' => e = .returned (.int .u32 (m0 : Int)) ∧ ∃ p : Regrown, w'' = grow (redrawn wr p.d) p.os) ∧
      (∀ d os, Calls Try.prog 8 #[.string (a1.extract 0 n)] (grow (redrawn wr d) os) fun e w'' => e = .returned (.int .u32 (m1 : Int)) ∧ ∃ p : Regrown, w'' = grow (redrawn wr p.d) p.os) ∧
      (∀ d os, Calls Try.prog 8 #[.string (a2.extract 0 n)] (grow (redrawn wr d) os) fun e w'' => e = .returned (.int .u32 (m2 : Int)) ∧ ∃ p : Regrown, w'' = grow (redrawn wr p.d) p.os) ∧
      (∀ d os, Calls Try.prog 8 #[.string D] (grow (redrawn wr d) os) fun e w'' => e = .returned (.int .u32 (m3 : Int)) ∧ ∃ p : Regrown, w'' = grow (redrawn wr p.d) p.os) ∧
      bits .xor .u32 (m0 : Int) (m1 : Int) = ((m0 ^^^ m1 : Nat) : Int) ∧ bits .xor .u32 ((m0 ^^^ m1 : Nat) : Int) (m2 : Int) = (m3 : Int) := by
  have hs : ∀ a : ByteArray, (a.extract 0 n).size ≤ a.size := fun a => by rw [ByteArray.size_extract]; omega
  have hd : D.size = n := by
    have := congrArg List.length hD
    simpa using this
  have q0 := hs a0
  have q1 := hs a1
  have q2 := hs a2
  have l0 := more_lt (sum := 0) (by decide) (a0.extract 0 n).data.toList
  have l1 := more_lt (sum := 0) (by decide) (a1.extract 0 n).data.toList
  have l2 := more_lt (sum := 0) (by decide) (a2.extract 0 n).data.toList
  refine ⟨_, _, _, _, regrown_call wr _ (by unfold maxLen; omega) _ rfl, regrown_call wr _ (by unfold maxLen; omega) _ rfl, regrown_call wr _ (by unfold maxLen; omega) _ rfl, regrown_call wr _ (by unfold maxLen; omega) _ (lin_eq a0 a1 a2 D n h0 h1 h2 hD).symm, xor_n _ _ l0 l1, ?_⟩
  exact xor_n _ _ (xor_lt32 l0 l1) l2

set_option maxHeartbeats 400000 in
/-- The law CrcLinear, walked. -/
theorem linear_walk (a0 a1 a2 : ByteArray) (w0 : a0.size ≤ 140737488351232) (w1 : a1.size ≤ 140737488351232) (w2 : a2.size ≤ 140737488351232) (w : World) :
    Calls Try.prog 5 #[.string a0, .string a1, .string a2] w fun e w' => e = .returned (.bool true) ∧ Below w.heap.size w w' := by
  obtain ⟨m2, m1, n, em2, em1, en, n0, n1, n2, n3⟩ := mins a0.size a1.size a2.size
  have hmk := run_make_row' (P := Try.prog) 28 5 (.int .u8 0) 1 Try.underlying28 Try.info5 rfl .i64 .i64 n (by omega) (by omega)
  have H0 := Lib.hid w0
  have H1 := Lib.hid w1
  have H2 := Lib.hid w2
  clear w0 w1 w2
  go_enter Try.func5, Try.ntmps5
  go_wp2_with fail
  refine (awake_any _).mono ?_
  rintro e w1 ⟨rfl, hb1⟩
  go_wp2_with fail
  clear em2 em1 en
  go_loopw [9] (fun i wr => ∃ k : Nat, k ≤ n ∧ i = .int .i64 k ∧ wr.rowIs w1.heap.size 5 n (fun j => .int .u8 (if j < k then ((linCell a0 a1 a2 j).toNat : Int) else 0)) ∧ Below w.heap.size w wr) (fun i _ => n - (intOf i).toNat)
  case atStart =>
    refine ⟨0, by omega, rfl, (World.rowIs_made _ _ _ _).congr (fun j _ => by simp), hb1.alloc hb1.size _⟩
  case round =>
    obtain ⟨k, hk, rfl, hrow, hb⟩ := hrel
    by_cases hlt : k < n
    · have hfr := hrow.frozen k
      have hc := hrow.cell hlt
      rw [if_neg (Nat.lt_irrefl k)] at hc
      have hk0 : (k : Int) < (a0.size : Int) := by omega
      have hk1 : (k : Int) < (a1.size : Int) := by omega
      have hk2 : (k : Int) < (a2.size : Int) := by omega
      go_wp2
      go_region
      all_goals go_wp2
      all_goals go_roundw
      case rel => exact ⟨k + 1, by omega, by go_num, (lin_row hlt (by omega) (by omega) (by omega) hrow).drew, (hb.setCell hb1.size _).drew⟩
      case measure => simp [intOf]; omega
    · obtain rfl : k = n := by omega
      obtain ⟨D, hD, hcv⟩ := lin_text hrow
      obtain ⟨m0, m1, m2, m3, C0, C1, C2, C3, e1, e2⟩ := lin_calls wr a0 a1 a2 D k (by have := H0.out; omega) (by have := H1.out; omega) (by have := H2.out; omega) n0 n1 n2 n3 hD
      have K0 := Lib.hid C0
      have K1 := Lib.hid C1
      have K2 := Lib.hid C2
      have K3 := Lib.hid C3
      clear C0 C1 C2 C3 hrow hD
      go_wp2
      refine wp_region_quiet_below (by kernel_rfl) (by kernel_rfl) ?_
      repeat (quiet_step (first | exact K0.out _ _ | exact K1.out _ _ | exact K2.out _ _ | exact K3.out _ _))
      refine wpQuiet_nil ?_
      intro _ hw'
      obtain ⟨⟨dq, osq⟩, hw''⟩ := hw'
      subst hw''
      go_wp2
      go_ret
      exact ⟨rfl, below_trans' hb (below_regrown wr dq osq)⟩
end Go.Proofs.Ytpgmafocabpifaa
