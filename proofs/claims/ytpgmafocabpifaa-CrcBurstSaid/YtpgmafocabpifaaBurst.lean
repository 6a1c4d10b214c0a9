/- The walk of the law CrcBurst: it returns true and writes only blocks of its own. Condition: the form's own reach of the text. -/
import Derived.Test.YtpgmafocabpifaaLinear
namespace Go.Proofs.Ytpgmafocabpifaa
open Go.RowKit Go.Proofs.Ytpgmafocabpifaa.Crcp Go.Deep Go.Sort

/-- '[]byte(s)': as in Laws, and that what was laid can be written. -/
theorem wpList_bytes_of' {P : Program} {ops : Array Oper} {rest : List Oper} {o : Oper} {a : Act} {w : World} {Q : Exit → Act → World → Prop} (hgd : o.guard = none) (src dst e : TypeId) (x : Operand) (ho : o.op = .convert src dst x)
    (s : ByteArray) (hx : a.eval x = .string s) (hs : P.underlying src = some .string) (hd : P.underlying dst = some (.slice e)) (he : P.underlying e = some (.int .u8))
    (h : ∀ (cap : Nat) (W : World), s.size ≤ cap → Below w.heap.size w W → W.heap.size = w.heap.size + 1 → (∀ j (hj : j < s.data.size), W.cell? ⟨w.heap.size, j, none⟩ = some (.int .u8 (s.data[j].toNat : Int))) →
      (∀ j, j < s.data.size → W.frozen? ⟨w.heap.size, j, none⟩ = false) → wpList P ops Q rest (a.put o.dst (.slice (some ⟨w.heap.size, 0, none⟩) s.size cap)) W) : wpList P ops Q (o :: rest) a w := by
  refine wpList_plain hgd fun K hK => ?_
  have hr := run_bytes_of_string w src dst e s hs hd he
  unfold Oper.wp execOp
  simp only [ho, hx, Sem.run_bind, Sem.run_pure, hr, Result.andThen_ok]
  refine hK _ _ (h _ _ (grownCap_ge _ _ _ _) ?_ ?_ ?_ ?_)
  · exact ((Below.refl _ _).drew).alloc (Nat.le_refl _) _
  · simp
  · intro j hj
    have := World.cell?_alloc_mark w.drew (bytesRow s (grownCap w s.size 0 e)) e ((bytesRow s (grownCap w s.size 0 e)).size, (bytesRow s (grownCap w s.size 0 e)).size + 1) j
    rw [bytesRow_at s _ j hj] at this
    exact this
  · intro j hj
    have hsz : s.data.size ≤ (bytesRow s (grownCap w s.size 0 e)).size := by simp [bytesRow]
    have hh : (w.drew.alloc (.cells (bytesRow s (grownCap w s.size 0 e)) e ((bytesRow s (grownCap w s.size 0 e)).size, (bytesRow s (grownCap w s.size 0 e)).size + 1))).heap[w.heap.size]? = some (.cells (bytesRow s (grownCap w s.size 0 e)) e ((bytesRow s (grownCap w s.size 0 e)).size, (bytesRow s (grownCap w s.size 0 e)).size + 1)) := heap_alloc_new w.drew _
    unfold World.frozen?
    rw [hh]
    simp
    omega

/-- A byte of the text behind k rounds. -/
def burstAt (s : ByteArray) (V p k j : Nat) : UInt8 := s.data.getD j 0 ^^^ (if p ≤ j ∧ j < p + k then UInt8.ofNat (V / 2 ^ (8 * (j - p))) else 0)
/-- What is known of the bytes behind k rounds. -/
def BurstRow (wr : World) (B : Nat) (s : ByteArray) (V p k : Nat) : Prop :=
  (∀ j, j < s.data.size → wr.cell? ⟨B, j, none⟩ = some (.int .u8 ((burstAt s V p k j).toNat : Int))) ∧ ∀ j, j < s.data.size → wr.frozen? ⟨B, j, none⟩ = false
theorem getD_at' (a : ByteArray) (j : Nat) (h : j < a.data.size) : a.data.getD j 0 = a.data[j] := by
  unfold Array.getD
  rw [dif_pos h]
  rfl
theorem burstRow_start {W : World} {B : Nat} {s : ByteArray} (V p : Nat) (h : (∀ j (hj : j < s.data.size), W.cell? ⟨B, j, none⟩ = some (.int .u8 (s.data[j].toNat : Int))) ∧ ∀ j, j < s.data.size → W.frozen? ⟨B, j, none⟩ = false) : BurstRow W B s V p 0 := by
  refine ⟨fun j hj => ?_, h.2⟩
  unfold burstAt
  rw [if_neg (by omega), h.1 j hj, getD_at' s j hj]
  simp
theorem burst_byte (x : UInt8) (V e : Nat) : bits .xor .u8 (x.toNat : Int) ((V : Int) / 2 ^ e % 256) = ((x ^^^ UInt8.ofNat (V / 2 ^ e)).toNat : Int) := by
  have e1 : ((V : Int) / 2 ^ e % 256) = ((V / 2 ^ e % 256 : Nat) : Int) := by
    rw [Int.natCast_emod, Int.natCast_ediv, Int.natCast_pow]; rfl
  rw [e1, u8_xor_nat _ _ (x.toNat_lt) (by omega), UInt8.toNat_xor, UInt8.toNat_ofNat']
theorem burstRow_step {wr : World} {B : Nat} {s : ByteArray} {V p k : Nat} (h : BurstRow wr B s V p k) (hk : p + k < s.data.size) :
    BurstRow (wr.setCell ⟨B, p + k, none⟩ (.int .u8 (bits .xor .u8 ((s.data.getD (p + k) 0).toNat : Int) ((V : Int) / 2 ^ (8 * k) % 256)))).drew B s V p (k + 1) := by
  refine ⟨fun j hj => ?_, fun j hj => ?_⟩
  · rw [World.cell?_drew]
    by_cases e : j = p + k
    · subst e
      rw [World.cell?_setCell_same _ _ _ (h.1 _ hk), burst_byte]
      unfold burstAt
      rw [if_pos (by omega), show p + k - p = k from by omega]
    · rw [World.cell?_setCell_other _ _ _ _ (by intro h; injection h with _ h2; omega), h.1 j hj]
      unfold burstAt
      by_cases c : p ≤ j ∧ j < p + k
      · rw [if_pos c, if_pos (by omega)]
      · rw [if_neg c, if_neg (by omega)]
  · rw [World.frozen?_drew, World.frozen?_setCell]
    exact h.2 j hj
/-- The text that the bytes read as. -/
theorem burst_text {wr : World} {B cap : Nat} {s : ByteArray} {V p : Nat} (h : BurstRow wr B s V p 5) :
    ∃ D : ByteArray, D.data.toList = (List.range s.data.size).map (burstAt s V p 5) ∧ (convert 28 9 (.slice (some ⟨B, 0, none⟩) s.size cap)).run Try.prog wr = .ok (.string D) wr := by
  let xs : List Int := (List.range s.data.size).map fun j => ((burstAt s V p 5 j).toNat : Int)
  refine ⟨strOfNums xs, ?_, ?_⟩
  · rw [strOfNums_data]
    simp [xs]
  · refine run_convert_bytes_arg wr 28 5 Try.underlying28 Try.underlying5 B 0 s.size cap xs (by simp [xs]) (fun i hi => ?_) 9 Try.underlying9
    have hi' : i < s.data.size := hi
    rw [Nat.zero_add, h.1 i hi']
    simp [xs, hi]
/-- The law's last test. -/
theorem burst_last (s D : ByteArray) (p bits j : Nat) (hj : j < 8) (hb : bits < 4294967296) (hp : p + 5 ≤ s.data.size) (hD : D.data.toList = (List.range s.data.size).map (burstAt s (bits * 2 ^ j) p 5)) :
    ∃ m0 m1 : Nat, more 0 D.data.toList = m0 ∧ more 0 s.data.toList = m1 ∧ ((((m0 : Int) == (m1 : Int)) = true ∧ ((bits : Int) == 0) = true) ∨ (((m0 : Int) == (m1 : Int)) = false ∧ ((bits : Int) == 0) = false)) := by
  refine ⟨_, _, rfl, rfl, ?_⟩
  have hlen : s.data.toList.length = s.data.size := by simp
  have h := more_burst s.data.toList D.data.toList p bits j (by rw [hD]; simp) (by rw [hlen]; exact hp) hj hb (fun i hi => by
    rw [hlen] at hi
    rw [hD, List.getD_eq_getElem?_getD, List.getElem?_map, List.getElem?_range hi]
    show burstAt s (bits * 2 ^ j) p 5 i = _
    unfold burstAt
    congr 1
    rw [getD_at' s i hi, List.getD_eq_getElem?_getD, Array.getElem?_toList, Array.getElem?_eq_getElem hi]
    rfl)
  by_cases h0 : bits = 0
  · left
    rw [beq_iff_eq, beq_iff_eq, h.2 h0]
    exact ⟨rfl, by omega⟩
  · right
    rw [beq_eq_false_iff_ne, beq_eq_false_iff_ne]
    exact ⟨fun e => h0 (h.1 (by omega)), by omega⟩
theorem burst_place (a1 : Int) (n : Nat) (h5 : ¬ n < 5) (h6 : ¬ 65536 < n) : ∃ K : Nat, wrap64 ((IntKind.u64.wrap a1).tmod (8 * ((n : Int) - 4))) = (K : Int) ∧ K < 8 * (n - 4) := by
  have hx : 0 ≤ IntKind.u64.wrap a1 := by rw [IntKind.wrap_u64]; exact Int.emod_nonneg _ (by decide)
  generalize IntKind.u64.wrap a1 = x at hx
  rw [Int.tmod_eq_emod_of_nonneg hx]
  have h0 := Int.emod_nonneg x (show 8 * ((n : Int) - 4) ≠ 0 by omega)
  have h1 := Int.emod_lt_of_pos x (show 0 < 8 * ((n : Int) - 4) by omega)
  generalize x % (8 * ((n : Int) - 4)) = y at h0 h1
  refine ⟨y.toNat, ?_, by omega⟩
  rw [IntWalk.wrap64_in y (by omega)]
  omega
theorem burst_shift (n J : Nat) (hn : n < 4294967296) (hJ : J < 8) : IntKind.u64.wrap (IntKind.u64.wrap (n : Int) * 2 ^ J) = ((n * 2 ^ J : Nat) : Int) := by
  have h1 : 2 ^ J ≤ 2 ^ 7 := Nat.pow_le_pow_right (by omega) (by omega)
  have h2 : n * 2 ^ J ≤ n * 2 ^ 7 := Nat.mul_le_mul_left _ h1
  have e0 : (n : Int) % 18446744073709551616 = (n : Int) := by omega
  rw [IntKind.wrap_u64, IntKind.wrap_u64, e0]
  have e : (n : Int) * 2 ^ J = ((n * 2 ^ J : Nat) : Int) := by rw [Int.natCast_mul, Int.natCast_pow]; rfl
  rw [e]
  omega

set_option maxHeartbeats 400000 in
/-- The law CrcBurst, walked. -/
theorem burst_walk (a0 : ByteArray) (a1 : Int) (a2 : Int) (w0 : a0.size ≤ 140737488351232) (w2 : (Lit.int .u32 a2).wf = true) (w : World) :
    Calls Try.prog 6 #[.string a0, .int .i64 a1, .int .u32 a2] w fun e w' => e = .returned (.bool true) ∧ Below w.heap.size w w' := by
  by_cases h5 : a0.size < 5
  · go_enter Try.func6, Try.ntmps6
    go_wp2_with fail
    refine (awake_any _).mono ?_
    rintro e w1 ⟨rfl, hb1⟩
    go_wp2_with fail
    go_ret
    exact ⟨rfl, hb1⟩
  by_cases h6 : 65536 < a0.size
  · go_enter Try.func6, Try.ntmps6
    go_wp2_with fail
    refine (awake_any _).mono ?_
    rintro e w1 ⟨rfl, hb1⟩
    go_wp2_with fail
    go_ret
    exact ⟨rfl, hb1⟩
  obtain ⟨K, ek, hK⟩ := burst_place a1 a0.size h5 h6
  have hx : 0 ≤ a2 ∧ a2 ≤ 4294967295 := by simpa [Lit.wf, IntKind.min, IntKind.max, IntKind.signed, IntKind.bits] using w2
  obtain ⟨n, rfl⟩ := Int.eq_ofNat_of_zero_le hx.1
  have hn : n < 4294967296 := by omega
  have hJ : K % 8 < 8 := by omega
  have ev := burst_shift n (K % 8) hn hJ
  have Hn := Lib.hid (And.intro hn hJ)
  clear hx hn w0 w2
  generalize hV : n * 2 ^ (K % 8) = V at ev
  have HV := Lib.hid hV
  clear hV
  go_enter Try.func6, Try.ntmps6
  go_wp2_with fail
  refine (awake_any _).mono ?_
  rintro e w1 ⟨rfl, hb1⟩
  go_wp2_with ((with_reducible show wpList _ _ _ (⟨some 31, .convert 9 28 (.tmp 30), _, _, _, _⟩ :: _) _ _); go_must (refine wpList_bytes_of' rfl 9 28 5 _ rfl a0 rfl Try.underlying9 Try.underlying28 Try.underlying5 ?_; intro cap W hcap hbW hsz hcells hfro; have HW := Lib.hid (burstRow_start V (K / 8) (And.intro hcells hfro)); clear hcells hfro hsz))
  rw [ev]
  clear ek ev
  go_loopw [10] (fun i wr => ∃ k : Nat, k ≤ 5 ∧ i = .int .i64 k ∧ BurstRow wr w1.heap.size a0 V (K / 8) k ∧ Below w.heap.size w wr) (fun i _ => 5 - (intOf i).toNat)
  case atStart => exact ⟨0, by omega, rfl, HW.out, hb1.trans (hbW.mono hb1.size)⟩
  case round =>
    obtain ⟨k, hk, rfl, hrow, hb⟩ := hrel
    clear HW hbW
    by_cases hlt : k < 5
    · have hin : K / 8 + k < a0.size := by omega
      have hc := hrow.1 (K / 8 + k) hin
      have hf := hrow.2 (K / 8 + k) hin
      rw [show burstAt a0 V (K / 8) k (K / 8 + k) = a0.data.getD (K / 8 + k) 0 from by unfold burstAt; rw [if_neg (by omega)]; simp] at hc
      have HR := Lib.hid (burstRow_step hrow hin)
      have Hb := Lib.hid hb
      clear hrow hb
      generalize ((a0.data.getD (K / 8 + k) 0).toNat : Int) = x at *
      go_wp2
      go_region
      all_goals go_wp2
      all_goals go_roundw
      case rel => exact ⟨k + 1, by omega, by go_num, HR.out, (Hb.out.setCell hb1.size _).drew⟩
      case measure => simp [intOf]; omega
    · obtain rfl : k = 5 := by omega
      obtain ⟨D, hD, hcv⟩ := burst_text (cap := cap) hrow
      have hDs : D.size = a0.size := by
        have := congrArg List.length hD
        simpa using this
      obtain ⟨m0, m1, e0, e1, htest⟩ := burst_last a0 D (K / 8) n (K % 8) Hn.out.2 Hn.out.1 (show K / 8 + 5 ≤ a0.size by omega) (by rw [HV.out]; exact hD)
      have C0 := sum_any D
      have C1 := sum_any a0
      rw [e0] at C0
      rw [e1] at C1
      have K0 := Lib.hid C0
      have K1 := Lib.hid C1
      have HD : Hid (D.size ≤ maxLen ∧ a0.size ≤ maxLen) := Lib.hid (by unfold maxLen; omega)
      clear C0 C1 hD hDs hrow
      rcases htest with ⟨t1, t2⟩ | ⟨t1, t2⟩
      all_goals
        go_wp2_with fail
        refine (K0.out _ HD.out.1).mono ?_
        rintro e w2 ⟨rfl, hb2⟩
        go_wp2_with fail
        refine (K1.out _ HD.out.2).mono ?_
        rintro e w3 ⟨rfl, hb3⟩
        go_wp2_with fail
        go_ret
        exact ⟨rfl, below_step (below_step hb hb2) hb3⟩
end Go.Proofs.Ytpgmafocabpifaa
