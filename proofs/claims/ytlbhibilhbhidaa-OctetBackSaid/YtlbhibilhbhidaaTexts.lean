/- Numbers and texts as they are written, read again by the abstract reader: as they were; cut off, or above the limit: wrong; what is written is read in one way alone. Plain laws; no condition but the bounds that each names. -/
import Derived.Test.YtlbhibilhbhidaaRNum
namespace Go.Proofs.Ytlbhibilhbhidaa

theorem ba_ext {a b : ByteArray} (h : a.data.toList = b.data.toList) : a = b := by
  apply ByteArray.ext
  exact Array.toList_inj.1 h
theorem ex_list (a : ByteArray) (i j : Nat) : (a.extract i j).data.toList = (a.data.toList.drop i).take (j - i) := by
  rw [ByteArray.data_extract, Array.toList_extract]
theorem app_list (a b : ByteArray) : (a ++ b).data.toList = a.data.toList ++ b.data.toList := by simp
theorem size_list (a : ByteArray) : a.data.toList.length = a.size := by simp
theorem getD_list (a : ByteArray) (j : Nat) : a.data.getD j 0 = a.data.toList.getD j 0 := by
  by_cases h : j < a.data.size
  · rw [getD_at a j h, List.getD_eq_getElem?_getD, Array.getElem?_toList, Array.getElem?_eq_getElem h]; rfl
  · unfold Array.getD
    rw [dif_neg h, List.getD_eq_getElem?_getD, Array.getElem?_toList, Array.getElem?_eq_none (by omega)]; rfl
theorem le4_list (n : Nat) : (le4 n).data.toList = [UInt8.ofNat n, UInt8.ofNat (n / 256), UInt8.ofNat (n / 65536), UInt8.ofNat (n / 16777216)] := rfl
theorem num4_le4 (n : Nat) (r : ByteArray) (h : n < 4294967296) : num4 (le4 n ++ r) = n := by
  unfold num4
  rw [getD_list, getD_list, getD_list, getD_list, app_list, le4_list]
  simp
  omega
theorem app_size (n : Nat) (r : ByteArray) : (le4 n ++ r).size = 4 + r.size := by rw [ByteArray.size_append, le4_size]
theorem app_tail (n : Nat) (r : ByteArray) : (le4 n ++ r).extract 4 (le4 n ++ r).size = r := by
  apply ba_ext
  rw [ex_list, app_list, app_size, le4_list]
  simp
  exact List.take_of_length_le (by simp)
theorem numOut_some (r : ByteArray) (h : ¬ r.size < 4) : numOut (some r) = num4 r := if_neg h
theorem numOut_short (r : ByteArray) (h : r.size < 4) : numOut (some r) = 0 := if_pos h
theorem numSt_some (r : ByteArray) (h : ¬ r.size < 4) : numSt (some r) = some (r.extract 4 r.size) := if_neg (by omega)
theorem numSt_short (r : ByteArray) (h : r.size < 4) : numSt (some r) = none := if_pos (by omega)
theorem take_some (r : ByteArray) (n : Nat) (h : n ≤ r.size) : takeOut (some r) (n : Int) = r.extract 0 n ∧ takeSt (some r) (n : Int) = some (r.extract n r.size) := ⟨if_neg (by omega), if_neg (by omega)⟩
theorem take_short (r : ByteArray) (n : Nat) (h : r.size < n) : takeOut (some r) (n : Int) = nul ∧ takeSt (some r) (n : Int) = none := ⟨if_pos (by omega), if_pos (by omega)⟩
theorem num_back (n : Nat) (r : ByteArray) (h : n < 4294967296) : numOut (some (le4 n ++ r)) = n ∧ numSt (some (le4 n ++ r)) = some r := by
  have hs := app_size n r
  rw [numOut_some _ (by omega), numSt_some _ (by omega), num4_le4 n r h, app_tail]
  exact ⟨rfl, rfl⟩
theorem assoc (a b c : ByteArray) : a ++ b ++ c = a ++ (b ++ c) := by
  apply ba_ext
  rw [app_list, app_list, app_list, app_list, List.append_assoc]
theorem wr4_eq (s : ByteArray) (h : s.size < 4294967296) : wr4 s = le4 s.size ++ s := by
  unfold wr4; rw [Nat.mod_eq_of_lt h]
theorem head_ex (s r : ByteArray) : (s ++ r).extract 0 s.size = s := by
  apply ba_ext
  rw [ex_list, app_list]
  simp
theorem tail_ex (s r : ByteArray) : (s ++ r).extract s.size (s ++ r).size = r := by
  apply ba_ext
  rw [ex_list, app_list, ByteArray.size_append]
  simp
  exact List.take_of_length_le (by simp)
/-- A text that was written is read as it was. -/
theorem text_back (s r : ByteArray) (most : Int) (h : s.size < 4294967296) (hm : (s.size : Int) ≤ most) : textOut (some (wr4 s ++ r)) most = s ∧ textSt (some (wr4 s ++ r)) most = some r := by
  rw [wr4_eq s h, assoc]
  obtain ⟨e1, e2⟩ := num_back s.size (s ++ r) h
  have e3 : textMid (some (le4 s.size ++ (s ++ r))) most = some (s ++ r) := by
    unfold textMid
    rw [e1, e2, if_neg (by omega)]
  unfold textOut textSt
  rw [e3, e1]
  have hs : (s ++ r).size = s.size + r.size := ByteArray.size_append
  obtain ⟨e4, e5⟩ := take_some (s ++ r) s.size (by omega)
  rw [e4, e5, head_ex, tail_ex]
  exact ⟨rfl, rfl⟩
/-- A text above the limit. -/
theorem text_over (s : ByteArray) (most : Int) (h : s.size < 4294967296) (hm : most < (s.size : Int)) : textOut (some (wr4 s)) most = nul ∧ textSt (some (wr4 s)) most = none := by
  rw [wr4_eq s h]
  obtain ⟨e1, e2⟩ := num_back s.size s h
  have e3 : textMid (some (le4 s.size ++ s)) most = none := by
    unfold textMid
    rw [e1, if_pos hm]
  unfold textOut textSt
  rw [e3]
  exact ⟨rfl, rfl⟩
/-- A text that is cut off. -/
theorem text_cut (s : ByteArray) (k : Nat) (most : Int) (h : s.size < 4294967296) (hk : k < 4 + s.size) : textOut (some ((wr4 s).extract 0 k)) most = nul ∧ textSt (some ((wr4 s).extract 0 k)) most = none := by
  rw [wr4_eq s h]
  have hsz : ((le4 s.size ++ s).extract 0 k).size = k := by
    rw [ByteArray.size_extract, app_size]; omega
  by_cases h4 : k < 4
  · have e1 := numOut_short ((le4 s.size ++ s).extract 0 k) (by omega)
    have e2 := numSt_short ((le4 s.size ++ s).extract 0 k) (by omega)
    have e3 : textMid (some ((le4 s.size ++ s).extract 0 k)) most = none := by
      unfold textMid
      rw [e1, e2]; split <;> rfl
    unfold textOut textSt
    rw [e3]
    exact ⟨rfl, rfl⟩
  · have hd : (le4 s.size ++ s).extract 0 k = le4 s.size ++ s.extract 0 (k - 4) := by
      apply ba_ext
      rw [ex_list, app_list, app_list, ex_list, le4_list]
      rw [show k - 0 = (k - 4) + 4 from by omega]
      simp
    have hr : (s.extract 0 (k - 4)).size = k - 4 := by rw [ByteArray.size_extract]; omega
    rw [hd]
    obtain ⟨e1, e2⟩ := num_back s.size (s.extract 0 (k - 4)) h
    by_cases hm : most < (s.size : Int)
    · have e3 : textMid (some (le4 s.size ++ s.extract 0 (k - 4))) most = none := by
        unfold textMid
        rw [e1, if_pos hm]
      unfold textOut textSt
      rw [e3]
      exact ⟨rfl, rfl⟩
    · have e3 : textMid (some (le4 s.size ++ s.extract 0 (k - 4))) most = some (s.extract 0 (k - 4)) := by
        unfold textMid
        rw [e1, e2, if_neg hm]
      unfold textOut textSt
      rw [e3, e1]
      exact take_short _ _ (by omega)

/-- Unlike numbers have unlike bytes. -/
theorem le4_inj {a b : Nat} (ha : a < 4294967296) (hb : b < 4294967296) (h : le4 a = le4 b) : a = b := by
  have e1 := num4_le4 a nul ha
  have e2 := num4_le4 b nul hb
  rw [h] at e1
  omega
/-- Of two unlike texts, written, neither begins with the other. -/
theorem apart (s t : ByteArray) (n : Nat) (hs : s.size < 4294967296) (ht : t.size < 4294967296) (hn : n = min (4 + s.size) (4 + t.size)) : (wr4 s).extract 0 n = (wr4 t).extract 0 n ↔ s = t := by
  constructor
  · intro h
    rw [wr4_eq s hs, wr4_eq t ht] at h
    have hl := congrArg (fun x : ByteArray => x.data.toList.take 4) h
    simp only [ex_list, app_list, List.drop_zero, Nat.sub_zero, List.take_take] at hl
    rw [show min 4 n = 4 from by omega, List.take_append_of_le_length (by rw [le4_list]; simp), List.take_append_of_le_length (by rw [le4_list]; simp), List.take_of_length_le (by rw [le4_list]; simp), List.take_of_length_le (by rw [le4_list]; simp)] at hl
    have hlen := le4_inj hs ht (ba_ext hl)
    have h2 := congrArg (fun x : ByteArray => x.data.toList.drop 4) h
    have hn' : n = 4 + s.size := by omega
    have ls := size_list s
    have lt := size_list t
    simp only [ex_list, app_list, List.drop_zero, Nat.sub_zero] at h2
    rw [List.take_of_length_le (by simp [le4_list]; omega), List.take_of_length_le (by simp [le4_list]; omega)] at h2
    rw [List.drop_append_of_le_length (by simp [le4_list]), List.drop_append_of_le_length (by simp [le4_list])] at h2
    simp [le4_list] at h2
    exact ByteArray.ext h2
  · intro h; rw [h]
end Go.Proofs.Ytlbhibilhbhidaa
