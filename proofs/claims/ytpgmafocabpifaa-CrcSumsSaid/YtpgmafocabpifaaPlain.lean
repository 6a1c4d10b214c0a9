/- The register of the check: linear in the bits, half a byte by a table, a burst within 32 bits is told. Plain arithmetic on natural numbers; no condition but the bounds that each lemma names. -/
namespace Go.Proofs.Ytpgmafocabpifaa.Crcp

/-- The polynomial. -/
def poly : Nat := 2197175160

/-- One bit. -/
def S (x : Nat) : Nat := (x / 2) ^^^ (if x % 2 = 1 then poly else 0)

def It : Nat → Nat → Nat
  | 0, x => x
  | n + 1, x => It n (S x)

theorem S_zero : S 0 = 0 := by simp [S]
theorem S_xor (a b : Nat) : S (a ^^^ b) = S a ^^^ S b := by
  unfold S
  have h1 : (a ^^^ b) / 2 = a / 2 ^^^ b / 2 := by simpa using Nat.xor_div_two_pow (a := a) (b := b) (n := 1)
  have h2 : (a ^^^ b) % 2 = 1 ↔ ¬ (a % 2 = 1 ↔ b % 2 = 1) := Nat.xor_mod_two_eq_one
  rw [h1]
  by_cases ha : a % 2 = 1 <;> by_cases hb : b % 2 = 1
  · rw [if_neg (by rw [h2]; simp [ha, hb]), if_pos ha, if_pos hb]
    rw [show a / 2 ^^^ poly ^^^ (b / 2 ^^^ poly) = (a / 2 ^^^ b / 2) ^^^ (poly ^^^ poly) from by ac_rfl]
    simp
  · rw [if_pos (by rw [h2]; simp [ha, hb]), if_pos ha, if_neg hb]
    simp; ac_rfl
  · rw [if_pos (by rw [h2]; simp [ha, hb]), if_neg ha, if_pos hb]
    simp; ac_rfl
  · rw [if_neg (by rw [h2]; simp [ha, hb]), if_neg ha, if_neg hb]
    simp
theorem S_two (y : Nat) : S (2 * y) = y := by
  unfold S
  rw [if_neg (by omega), Nat.mul_div_cancel_left y (by omega)]
  simp
theorem poly_lt : poly < 4294967296 := by decide
theorem S_lt {x : Nat} (h : x < 4294967296) : S x < 4294967296 := by
  unfold S
  have : (x / 2) ^^^ (if x % 2 = 1 then poly else 0) < 2 ^ 32 := by
    apply Nat.xor_lt_two_pow
    · show _ < 4294967296; omega
    · show _ < 4294967296
      split
      · exact poly_lt
      · omega
  exact this
theorem xor_zero {a b : Nat} (h : a ^^^ b = 0) : a = b := by
  have := congrArg (· ^^^ b) h
  simpa [Nat.xor_assoc] using this
theorem S_inj0 {x : Nat} (h : x < 4294967296) (h0 : S x = 0) : x = 0 := by
  unfold S at h0
  by_cases ho : x % 2 = 1
  · rw [if_pos ho] at h0
    have := xor_zero h0
    unfold poly at this
    omega
  · rw [if_neg ho] at h0
    simp at h0
    omega

theorem It_add (m n x : Nat) : It (m + n) x = It n (It m x) := by
  induction m generalizing x with
  | zero => simp [It]
  | succ m ih => rw [Nat.succ_add]; exact ih (S x)
theorem It_zero (n : Nat) : It n 0 = 0 := by
  induction n with
  | zero => rfl
  | succ n ih => show It n (S 0) = 0; rw [S_zero]; exact ih
theorem It_xor (n a b : Nat) : It n (a ^^^ b) = It n a ^^^ It n b := by
  induction n generalizing a b with
  | zero => rfl
  | succ n ih => show It n (S (a ^^^ b)) = It n (S a) ^^^ It n (S b); rw [S_xor]; exact ih _ _
theorem It_lt {n x : Nat} (h : x < 4294967296) : It n x < 4294967296 := by
  induction n generalizing x with
  | zero => exact h
  | succ n ih => exact ih (S_lt h)
theorem It_inj0 {n x : Nat} (h : x < 4294967296) (h0 : It n x = 0) : x = 0 := by
  induction n generalizing x with
  | zero => exact h0
  | succ n ih => exact S_inj0 h (ih (S_lt h) h0)
theorem It_pow (n y : Nat) : It n (2 ^ n * y) = y := by
  induction n generalizing y with
  | zero => simp [It]
  | succ n ih =>
    show It n (S (2 ^ (n + 1) * y)) = y
    rw [show 2 ^ (n + 1) * y = 2 * (2 ^ n * y) from by rw [Nat.pow_succ, Nat.mul_comm (2 ^ n) 2, Nat.mul_assoc], S_two]
    exact ih y

theorem xor_split (q r k : Nat) (h : r < 2 ^ k) : 2 ^ k * q + r = 2 ^ k * q ^^^ r := by
  apply Nat.eq_of_testBit_eq
  intro i
  rw [Nat.testBit_xor, Nat.testBit_two_pow_mul_add q h]
  rw [Nat.testBit_two_pow_mul]
  by_cases hi : i < k
  · rw [if_pos hi]; simp [Nat.not_le.2 hi]
  · have : r.testBit i = false := Nat.testBit_lt_two_pow (Nat.lt_of_lt_of_le h (Nat.pow_le_pow_right (by omega) (by omega)))
    rw [if_neg hi, this]
    simp [Nat.not_lt.1 hi]

/-- Half a byte by the table. -/
theorem It_four (c : Nat) : It 4 c = c / 16 ^^^ It 4 (c % 16) := by
  have h : c = 2 ^ 4 * (c / 16) ^^^ c % 16 := by
    rw [← xor_split (c / 16) (c % 16) 4 (Nat.mod_lt _ (by omega))]; omega
  calc It 4 c = It 4 (2 ^ 4 * (c / 16) ^^^ c % 16) := by rw [← h]
    _ = _ := by rw [It_xor, It_pow]

/-- A byte. -/
def byte (c b : Nat) : Nat := It 8 (c ^^^ b)
theorem byte_lt {c b : Nat} (hc : c < 4294967296) (hb : b < 256) : byte c b < 4294967296 := by
  apply It_lt
  have : c ^^^ b < 2 ^ 32 := Nat.xor_lt_two_pow (by omega) (by omega)
  exact this

/-- The register behind bytes. -/
def run (c : Nat) (l : List UInt8) : Nat := l.foldl (fun c b => byte c b.toNat) c
theorem run_nil (c : Nat) : run c [] = c := rfl
theorem run_cons (c : Nat) (b : UInt8) (l : List UInt8) : run c (b :: l) = run (byte c b.toNat) l := rfl
theorem run_append (c : Nat) (l m : List UInt8) : run c (l ++ m) = run (run c l) m := by simp [run]
theorem run_snoc (c : Nat) (l : List UInt8) (b : UInt8) : run c (l ++ [b]) = byte (run c l) b.toNat := by simp [run]
theorem run_lt {c : Nat} (hc : c < 4294967296) (l : List UInt8) : run c l < 4294967296 := by
  induction l generalizing c with
  | nil => exact hc
  | cons b l ih => exact ih (byte_lt hc b.toNat_lt)

/-- All bits turned. -/
def inv (x : Nat) : Nat := x ^^^ 4294967295
theorem inv_lt {x : Nat} (h : x < 4294967296) : inv x < 4294967296 := by
  have : x ^^^ 4294967295 < 2 ^ 32 := Nat.xor_lt_two_pow (by omega) (by omega)
  exact this
theorem inv_inv (x : Nat) : inv (inv x) = x := by
  unfold inv; rw [Nat.xor_assoc, Nat.xor_self, Nat.xor_zero]

/-- The check behind bytes. -/
def more (sum : Nat) (l : List UInt8) : Nat := inv (run (inv sum) l)
theorem more_lt {sum : Nat} (h : sum < 4294967296) (l : List UInt8) : more sum l < 4294967296 := inv_lt (run_lt (inv_lt h) l)
theorem more_goes (sum : Nat) (l m : List UInt8) : more (more sum l) m = more sum (l ++ m) := by
  unfold more; rw [inv_inv, run_append]
theorem more_nil (sum : Nat) : more sum [] = sum := by
  unfold more; rw [run_nil, inv_inv]

theorem byte_xor3 (c d e x y z : Nat) : byte (c ^^^ d ^^^ e) (x ^^^ y ^^^ z) = byte c x ^^^ byte d y ^^^ byte e z := by
  unfold byte
  rw [show c ^^^ d ^^^ e ^^^ (x ^^^ y ^^^ z) = (c ^^^ x) ^^^ (d ^^^ y) ^^^ (e ^^^ z) from by ac_rfl, It_xor, It_xor]
theorem byte_xor (c d x y : Nat) : byte (c ^^^ d) (x ^^^ y) = byte c x ^^^ byte d y := by
  unfold byte
  rw [show c ^^^ d ^^^ (x ^^^ y) = (c ^^^ x) ^^^ (d ^^^ y) from by ac_rfl, It_xor]

/-- Texts of one length, byte by byte. -/
theorem run_xor3 : ∀ (n : Nat) (a b c d : List UInt8), a.length = n → b.length = n → c.length = n → d.length = n →
    (∀ i, i < n → d.getD i 0 = a.getD i 0 ^^^ b.getD i 0 ^^^ c.getD i 0) → ∀ x y z : Nat, run (x ^^^ y ^^^ z) d = run x a ^^^ run y b ^^^ run z c
  | 0, [], [], [], [], _, _, _, _, _, _, _, _ => rfl
  | n + 1, p :: a, q :: b, r :: c, s :: d, ha, hb, hc, hd, h, x, y, z => by
    have h0 := h 0 (by omega)
    simp at h0
    rw [run_cons, run_cons, run_cons, run_cons, h0, UInt8.toNat_xor, UInt8.toNat_xor, byte_xor3]
    exact run_xor3 n a b c d (by simpa using ha) (by simpa using hb) (by simpa using hc) (by simpa using hd) (fun i hi => by simpa using h (i + 1) (by omega)) _ _ _

theorem more_xor3 (a b c d : List UInt8) (hb : b.length = a.length) (hc : c.length = a.length) (hd : d.length = a.length)
    (h : ∀ i, i < a.length → d.getD i 0 = a.getD i 0 ^^^ b.getD i 0 ^^^ c.getD i 0) : more 0 a ^^^ more 0 b ^^^ more 0 c = more 0 d := by
  unfold more
  have := run_xor3 a.length a b c d rfl hb hc hd h (inv 0) (inv 0) (inv 0)
  rw [show inv 0 ^^^ inv 0 ^^^ inv 0 = inv 0 from by rw [Nat.xor_self, Nat.zero_xor]] at this
  rw [this]
  unfold inv
  rw [show ∀ x y z k : Nat, x ^^^ k ^^^ (y ^^^ k) ^^^ (z ^^^ k) = x ^^^ y ^^^ z ^^^ (k ^^^ (k ^^^ k)) from fun x y z k => by ac_rfl]
  rw [Nat.xor_self, Nat.xor_zero]

/-! A burst. -/
theorem run_xor : ∀ (n : Nat) (a b d : List UInt8), a.length = n → b.length = n → d.length = n →
    (∀ i, i < n → d.getD i 0 = a.getD i 0 ^^^ b.getD i 0) → ∀ x y : Nat, run (x ^^^ y) d = run x a ^^^ run y b
  | 0, [], [], [], _, _, _, _, _, _ => rfl
  | n + 1, p :: a, q :: b, s :: d, ha, hb, hd, h, x, y => by
    have h0 := h 0 (by omega)
    simp at h0
    rw [run_cons, run_cons, run_cons, h0, UInt8.toNat_xor, byte_xor]
    exact run_xor n a b d (by simpa using ha) (by simpa using hb) (by simpa using hd) (fun i hi => by simpa using h (i + 1) (by omega)) _ _

theorem run_zeros (n c : Nat) : run c (List.replicate n 0) = It (8 * n) c := by
  induction n generalizing c with
  | zero => rfl
  | succ n ih =>
    rw [List.replicate_succ, run_cons, ih, show 8 * (n + 1) = 8 + 8 * n from by omega, It_add]
    unfold byte
    simp

/-- Bytes of a number, the lowest first, are the number's bits one behind the other. -/
theorem run_bytes (n : Nat) : ∀ (v c : Nat), run c ((List.range n).map fun i => UInt8.ofNat (v / 2 ^ (8 * i))) = It (8 * n) (c ^^^ v % 2 ^ (8 * n)) := by
  induction n with
  | zero => intro v c; simp [run, It, Nat.mod_one]
  | succ n ih =>
    intro v c
    rw [List.range_succ, List.map_append, List.map_cons, List.map_nil, run_snoc, ih v c]
    rw [show 8 * (n + 1) = 8 * n + 8 from by omega, It_add]
    unfold byte
    congr 1
    have e1 : v % 2 ^ (8 * n + 8) = v % 2 ^ (8 * n) ^^^ 2 ^ (8 * n) * (v / 2 ^ (8 * n) % 256) := by
      rw [Nat.xor_comm, ← xor_split _ _ _ (Nat.mod_lt _ (Nat.two_pow_pos _)), Nat.pow_add, Nat.mod_mul, Nat.add_comm]
    rw [e1, ← Nat.xor_assoc, It_xor _ (c ^^^ v % 2 ^ (8 * n)), It_pow]
    simp [UInt8.toNat_ofNat']

/-- The register behind zeros, a burst's five bytes, zeros. -/
theorem run_burst (p q bits j : Nat) (hj : j < 8) (hb : bits < 4294967296) :
    run 0 (List.replicate p 0 ++ ((List.range 5).map fun i => UInt8.ofNat (bits * 2 ^ j / 2 ^ (8 * i))) ++ List.replicate q 0) = 0 ↔ bits = 0 := by
  rw [run_append, run_append, run_zeros, run_zeros, It_zero, run_bytes]
  have hlt : bits * 2 ^ j < 2 ^ (8 * 5) := by
    have h1 : 2 ^ j ≤ 2 ^ 7 := Nat.pow_le_pow_right (by omega) (by omega)
    calc bits * 2 ^ j ≤ bits * 2 ^ 7 := Nat.mul_le_mul_left _ h1
      _ < 2 ^ (8 * 5) := by simp; omega
  rw [Nat.mod_eq_of_lt hlt, Nat.zero_xor]
  rw [show 8 * 5 = j + (40 - j) from by omega, It_add, Nat.mul_comm bits, It_pow]
  constructor
  · intro h
    rw [← It_add] at h
    exact It_inj0 hb h
  · intro h
    subst h
    rw [It_zero, It_zero]

theorem xor_inv_eq {a b : Nat} : inv a = inv b ↔ a = b :=
  ⟨fun h => by rw [← inv_inv a, h, inv_inv], fun h => by rw [h]⟩

/-- Two texts of one length, whose bytes are unlike by a burst alone. -/
theorem more_burst (s b : List UInt8) (p bits j : Nat) (hl : b.length = s.length) (hp : p + 5 ≤ s.length) (hj : j < 8) (hb : bits < 4294967296)
    (h : ∀ i, i < s.length → b.getD i 0 = s.getD i 0 ^^^ (if p ≤ i ∧ i < p + 5 then UInt8.ofNat (bits * 2 ^ j / 2 ^ (8 * (i - p))) else 0)) :
    more 0 b = more 0 s ↔ bits = 0 := by
  unfold more
  rw [xor_inv_eq]
  let d := List.replicate p (0 : UInt8) ++ ((List.range 5).map fun i => UInt8.ofNat (bits * 2 ^ j / 2 ^ (8 * i))) ++ List.replicate (s.length - (p + 5)) 0
  have hd : d.length = s.length := by simp [d]; omega
  have hx : ∀ i, i < s.length → b.getD i 0 = s.getD i 0 ^^^ d.getD i 0 := by
    intro i hi
    rw [h i hi]
    congr 1
    simp only [d, List.append_assoc]
    rw [List.getD_eq_getElem?_getD]
    by_cases h1 : i < p
    · rw [if_neg (by omega), List.getElem?_append_left (by simpa using h1)]
      simp [h1]
    · rw [List.getElem?_append_right (by simp; omega)]
      by_cases h2 : i < p + 5
      · rw [if_pos (by omega), List.getElem?_append_left (by simp; omega)]
        simp only [List.length_replicate]
        rw [List.getElem?_eq_getElem (by simp; omega)]
        simp
      · rw [if_neg (by omega), List.getElem?_append_right (by simp; omega)]
        simp
        rw [List.getElem?_replicate]
        split <;> rfl
  have e := run_xor s.length s d b rfl hd hl hx (inv 0) 0
  rw [Nat.xor_zero] at e
  rw [e]
  have hb' := run_burst p (s.length - (p + 5)) bits j hj hb
  show run (inv 0) s ^^^ run 0 d = run (inv 0) s ↔ bits = 0
  rw [← hb']
  show _ ↔ run 0 d = 0
  constructor
  · intro h
    have := congrArg (run (inv 0) s ^^^ ·) h
    simp only [← Nat.xor_assoc, Nat.xor_self, Nat.zero_xor] at this
    exact this
  · intro h
    rw [h, Nat.xor_zero]

end Go.Proofs.Ytpgmafocabpifaa.Crcp
