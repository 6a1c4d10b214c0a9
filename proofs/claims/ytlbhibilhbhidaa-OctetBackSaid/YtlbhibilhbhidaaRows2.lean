/- Numbers and texts written one behind the other: what has been written behind k of them, what is still to be read; the abstract reader reads them as they were. Plain laws; no condition but the bounds that each names. -/
import Derived.Test.YtlbhibilhbhidaaTexts
namespace Go.Proofs.Ytlbhibilhbhidaa

/-- The k-th part: a number, if there is one, and a text, if there is one. -/
def part (n m : Nat) (Z : Nat → Nat) (T : Nat → ByteArray) (k : Nat) : ByteArray := (if k < n then le4 (Z k) else nul) ++ (if k < m then wr4 (T k) else nul)
/-- The first k parts. -/
def built (n m : Nat) (Z : Nat → Nat) (T : Nat → ByteArray) : Nat → ByteArray
  | 0 => nul
  | k + 1 => built n m Z T k ++ part n m Z T k
/-- c parts from the k-th on. -/
def suf (n m : Nat) (Z : Nat → Nat) (T : Nat → ByteArray) : Nat → Nat → ByteArray
  | _, 0 => nul
  | k, c + 1 => part n m Z T k ++ suf n m Z T (k + 1) c
theorem nul_app (a : ByteArray) : nul ++ a = a := by
  apply ba_ext; rw [app_list]; rfl
theorem app_nul (a : ByteArray) : a ++ nul = a := by
  apply ba_ext; rw [app_list]; exact List.append_nil _
theorem suf_snoc (n m : Nat) (Z : Nat → Nat) (T : Nat → ByteArray) (c : Nat) : ∀ k, suf n m Z T k (c + 1) = suf n m Z T k c ++ part n m Z T (k + c) := by
  induction c with
  | zero => intro k; show part n m Z T k ++ nul = nul ++ part n m Z T k; rw [app_nul, nul_app]
  | succ c ih =>
    intro k
    show part n m Z T k ++ suf n m Z T (k + 1) (c + 1) = part n m Z T k ++ suf n m Z T (k + 1) c ++ part n m Z T (k + (c + 1))
    rw [ih (k + 1), assoc, show k + 1 + c = k + (c + 1) from by omega]
theorem built_suf (n m : Nat) (Z : Nat → Nat) (T : Nat → ByteArray) (N : Nat) : built n m Z T N = suf n m Z T 0 N := by
  induction N with
  | zero => rfl
  | succ N ih => rw [suf_snoc, ← ih, Nat.zero_add]; rfl
theorem part_tt {n m k : Nat} (Z : Nat → Nat) (T : Nat → ByteArray) (h1 : k < n) (h2 : k < m) : part n m Z T k = le4 (Z k) ++ wr4 (T k) := by unfold part; rw [if_pos h1, if_pos h2]
theorem part_tf {n m k : Nat} (Z : Nat → Nat) (T : Nat → ByteArray) (h1 : k < n) (h2 : ¬ k < m) : part n m Z T k = le4 (Z k) := by unfold part; rw [if_pos h1, if_neg h2, app_nul]
theorem part_ft {n m k : Nat} (Z : Nat → Nat) (T : Nat → ByteArray) (h1 : ¬ k < n) (h2 : k < m) : part n m Z T k = wr4 (T k) := by unfold part; rw [if_neg h1, if_pos h2, nul_app]
/-- The reader ahead of the k-th part, and behind it. -/
def at_ (n m : Nat) (Z : Nat → Nat) (T : Nat → ByteArray) (N : Nat) (x : ByteArray) (k : Nat) : ByteArray := suf n m Z T k (N - k) ++ x
theorem at_step {n m N k : Nat} (Z : Nat → Nat) (T : Nat → ByteArray) (x : ByteArray) (hk : k < N) : at_ n m Z T N x k = part n m Z T k ++ at_ n m Z T N x (k + 1) := by
  unfold at_
  rw [show N - k = (N - (k + 1)) + 1 from by omega]
  show part n m Z T k ++ suf n m Z T (k + 1) (N - (k + 1)) ++ x = _
  rw [assoc]
theorem at_end (n m N : Nat) (Z : Nat → Nat) (T : Nat → ByteArray) (x : ByteArray) : at_ n m Z T N x N = x := by
  unfold at_
  rw [Nat.sub_self]
  exact nul_app x
theorem at_start (n m N : Nat) (Z : Nat → Nat) (T : Nat → ByteArray) (x : ByteArray) : at_ n m Z T N x 0 = built n m Z T N ++ x := by
  unfold at_
  rw [built_suf, Nat.sub_zero]
/-- All texts that were written fit. -/
theorem built_mono (n m : Nat) (Z : Nat → Nat) (T : Nat → ByteArray) (N k : Nat) (hk : k < N) (hm : k < m) : 4 + (T k).size ≤ (built n m Z T N).size := by
  induction N with
  | zero => omega
  | succ N ih =>
    show _ ≤ (built n m Z T N ++ part n m Z T N).size
    rw [ByteArray.size_append]
    by_cases e : k = N
    · subst e
      have : 4 + (T k).size ≤ (part n m Z T k).size := by
        unfold part
        rw [ByteArray.size_append, if_pos hm, wr4_size]
        omega
      omega
    · have := ih (by omega)
      omega
end Go.Proofs.Ytlbhibilhbhidaa
