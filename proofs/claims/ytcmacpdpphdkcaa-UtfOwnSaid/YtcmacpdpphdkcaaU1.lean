import Derived.Test.YtcmacpdpphdkcaaF4
import Derived.Test.YtcmacpdpphdkcaaF3
import Derived.Test.YtcmacpdpphdkcaaF2
import Derived.Test.YtcmacpdpphdkcaaF1
import Derived.Laws.Runes
namespace Go.Proofs.Ytcmacpdpphdkcaa.U
set_option linter.unusedVariables false
set_option linter.unusedSimpArgs false
open Go.RowKit Go.Proofs.Ytcmacpdpphdkcaa.F Go.Proofs.YtcmacpdpphdkcaaW.PrintWords Go.Proofs.YtcmacpdpphdkcaaW.PrintLast Go.Proofs.YtcmacpdpphdkcaaW.PrintMore

/-! ### bytes of strings -/
theorem bt_out (s : ByteArray) (i : Int) (h : (s.size : Int) ≤ i) : bt s i = 0 := by
  unfold bt
  rw [dif_neg (by omega)]
theorem bt_nat (s : ByteArray) (i : Nat) : bt s (i : Int) = ((s.data.toList.getD i 0).toNat : Int) := by
  unfold bt
  by_cases h : i < s.size
  · rw [dif_pos (by simpa using h)]
    have h2 : i < s.data.toList.length := by rw [data_length]; exact h
    rw [List.getD_eq_getElem?_getD, List.getElem?_eq_getElem h2]
    rfl
  · rw [dif_neg (by simpa using h)]
    have h2 : s.data.toList.length ≤ i := by rw [data_length]; omega
    rw [List.getD_eq_getElem?_getD, List.getElem?_eq_none h2]
    rfl
theorem bt_extract (s : ByteArray) (p : Nat) (i : Int) (h0 : 0 ≤ i) : bt (s.extract p s.size) i = bt s (p + i) := by
  obtain ⟨n, rfl⟩ := Int.eq_ofNat_of_zero_le h0
  rw [show ((p : Int) + (n : Int)) = ((p + n : Nat) : Int) from by omega, bt_nat, bt_nat]
  congr 2
  rw [ByteArray.data_extract, Array.toList_extract]
  simp only [List.extract_eq_take_drop, List.getD_eq_getElem?_getD, List.getElem?_take, List.getElem?_drop]
  split
  · rfl
  · rename_i hn
    rw [List.getElem?_eq_none (by rw [data_length]; omega)]
theorem extract_size (s : ByteArray) (p : Nat) : (s.extract p s.size).size = s.size - p := by simp
theorem bt_append (s t : ByteArray) (i : Nat) : bt (s ++ t) (i : Int) = if i < s.size then bt s (i : Int) else bt t ((i - s.size : Nat) : Int) := by
  rw [bt_nat, bt_nat, bt_nat]
  have h : (s ++ t).data.toList = s.data.toList ++ t.data.toList := by simp
  rw [h, List.getD_eq_getElem?_getD, List.getElem?_append, data_length]
  split <;> simp [List.getD_eq_getElem?_getD]

/-! ### the first scalar of some bytes, and how many bytes it has -/
def cont (b : Int) : Prop := 128 ≤ b ∧ b ≤ 191
instance (b : Int) : Decidable (cont b) := inferInstanceAs (Decidable (_ ∧ _))
def nxL (av b0 b1 b2 b3 : Int) : Int × Int :=
  if b0 < 128 then (b0, 1)
  else if 194 ≤ b0 ∧ b0 ≤ 223 then (if 1 < av ∧ cont b1 then (b0 % 32 * 64 + b1 % 64, 2) else (65533, 1))
  else if 224 ≤ b0 ∧ b0 ≤ 239 then
    (if 1 < av ∧ loB b0 ≤ b1 ∧ b1 ≤ hiB b0 then (if 2 < av ∧ cont b2 then (b0 % 16 * 4096 + b1 % 64 * 64 + b2 % 64, 3) else (65533, 2)) else (65533, 1))
  else if 240 ≤ b0 ∧ b0 ≤ 244 then
    (if 1 < av ∧ loB b0 ≤ b1 ∧ b1 ≤ hiB b0 then (if 2 < av ∧ cont b2 then (if 3 < av ∧ cont b3 then (b0 % 8 * 262144 + b1 % 64 * 4096 + b2 % 64 * 64 + b3 % 64, 4) else (65533, 3)) else (65533, 2)) else (65533, 1))
  else (65533, 1)
def nx (s : ByteArray) (p : Nat) : Int × Int := nxL ((s.size : Int) - p) (bt s p) (bt s (p + 1)) (bt s (p + 2)) (bt s (p + 3))
theorem nx_extract (s : ByteArray) (p : Nat) (h : p ≤ s.size) : nx (s.extract p s.size) 0 = nx s p := by
  unfold nx
  rw [show ((0 : Nat) : Int) = 0 from rfl, Int.zero_add, Int.zero_add, Int.zero_add, Int.sub_zero]
  rw [bt_extract s p 0 (by omega), bt_extract s p 1 (by omega), bt_extract s p 2 (by omega), bt_extract s p 3 (by omega), extract_size, Int.add_zero]
  congr 1
  omega
theorem nxL_len (av b0 b1 b2 b3 : Int) (h : 0 < av) : 1 ≤ (nxL av b0 b1 b2 b3).2 ∧ (nxL av b0 b1 b2 b3).2 ≤ 4 ∧ (nxL av b0 b1 b2 b3).2 ≤ av := by
  unfold nxL
  repeat' split
  all_goals first | (simp only []; omega) | (rename_i h1; simp only []; omega)

/-- 'long': how many bytes. -/
theorem long_nx (s : ByteArray) (h : 0 < s.size) : longN s = (nx s 0).2 := by
  have hb := bt_range s 0
  unfold longN nx
  rw [show ((0 : Nat) : Int) = 0 from rfl, Int.zero_add, Int.zero_add, Int.zero_add, Int.sub_zero]
  simp only [longFrom, Int.zero_add, show (1 : Int) + 1 = 2 from rfl, show (2 : Int) + 1 = 3 from rfl]
  generalize bt s 0 = b0 at *
  generalize bt s 1 = b1 at *
  generalize bt s 2 = b2 at *
  generalize bt s 3 = b3 at *
  have e1 : mayB b0 0 b1 = true ↔ loB b0 ≤ b1 ∧ b1 ≤ hiB b0 := by simp [mayB]
  have e2 : mayB b0 1 b2 = true ↔ cont b2 := by simp [mayB, cont]
  have e3 : mayB b0 2 b3 = true ↔ cont b3 := by simp [mayB, cont]
  simp only [e1, e2, e3]
  unfold nxL
  by_cases h1 : b0 < 128
  · have hm : manyB b0 = 0 := by unfold manyB; repeat' split <;> omega
    rw [hm, if_pos h1]
    rfl
  by_cases h2 : 194 ≤ b0 ∧ b0 ≤ 223
  · have hm : manyB b0 = 1 := by unfold manyB; rw [if_pos h2]
    have hl : loB b0 = 128 := by unfold loB; repeat' split <;> omega
    have hh : hiB b0 = 191 := by unfold hiB; repeat' split <;> omega
    rw [hm, if_neg h1, if_pos h2, hl, hh]
    have e4 : cont b1 ↔ (128 ≤ b1 ∧ b1 ≤ 191) := Iff.rfl
    simp only [e4]
    by_cases hA : (128 : Int) ≤ b1 ∧ b1 ≤ 191 <;> by_cases hS : 1 < (s.size : Int) <;> simp [hA, hS]
  by_cases h3 : 224 ≤ b0 ∧ b0 ≤ 239
  · have hm : manyB b0 = 2 := by unfold manyB; rw [if_neg h2, if_pos h3]
    rw [hm, if_neg h1, if_neg h2, if_pos h3]
    by_cases hA : loB b0 ≤ b1 ∧ b1 ≤ hiB b0 <;> by_cases hB : cont b2 <;> by_cases hS : 1 < (s.size : Int) <;> by_cases hS2 : 2 < (s.size : Int) <;> simp [hA, hB, hS, hS2]
  by_cases h4 : 240 ≤ b0 ∧ b0 ≤ 244
  · have hm : manyB b0 = 3 := by unfold manyB; rw [if_neg h2, if_neg h3, if_pos h4]
    rw [hm, if_neg h1, if_neg h2, if_neg h3, if_pos h4]
    by_cases hA : loB b0 ≤ b1 ∧ b1 ≤ hiB b0 <;> by_cases hB : cont b2 <;> by_cases hC : cont b3 <;> by_cases hS : 1 < (s.size : Int) <;> by_cases hS2 : 2 < (s.size : Int) <;> by_cases hS3 : 3 < (s.size : Int) <;> simp [hA, hB, hC, hS, hS2, hS3]
  · have hm : manyB b0 = 0 := by unfold manyB; rw [if_neg h2, if_neg h3, if_neg h4]
    rw [hm, if_neg h1, if_neg h2, if_neg h3, if_neg h4]
    rfl

/-! ### the model's own decode -/
theorem get_bt (s : ByteArray) (i : Nat) : ((s.get! i).toNat : Int) = bt s (i : Int) := by
  rw [bt_nat]
  congr 2
  show s.data[i]! = _
  rw [List.getD_eq_getElem?_getD, Array.getElem!_eq_getD, Array.getD_eq_getD_getElem?, Array.getElem?_toList]
  rfl
def dec0 (av n0 n1 n2 n3 : Nat) : Nat × Nat :=
  if n0 < 128 then (n0, 1)
  else if n0 / 32 = 6 ∧ 1 < av ∧ n1 / 64 = 2 then
    (if n0 % 32 * 64 + n1 % 64 ≥ 128 then (n0 % 32 * 64 + n1 % 64, 2) else (65533, 1))
  else if n0 / 16 = 14 ∧ (1 < av ∧ n1 / 64 = 2) ∧ 2 < av ∧ n2 / 64 = 2 then
    (if n0 % 16 * 4096 + n1 % 64 * 64 + n2 % 64 ≥ 2048 ∧ Utf8.valid ((n0 % 16 * 4096 + n1 % 64 * 64 + n2 % 64 : Nat) : Int) = true then (n0 % 16 * 4096 + n1 % 64 * 64 + n2 % 64, 3) else (65533, 1))
  else if n0 / 8 = 30 ∧ (1 < av ∧ n1 / 64 = 2) ∧ (2 < av ∧ n2 / 64 = 2) ∧ 3 < av ∧ n3 / 64 = 2 then
    (if n0 % 8 * 262144 + n1 % 64 * 4096 + n2 % 64 * 64 + n3 % 64 ≥ 65536 ∧ Utf8.valid ((n0 % 8 * 262144 + n1 % 64 * 4096 + n2 % 64 * 64 + n3 % 64 : Nat) : Int) = true then (n0 % 8 * 262144 + n1 % 64 * 4096 + n2 % 64 * 64 + n3 % 64, 4) else (65533, 1))
  else (65533, 1)
theorem decode_dec0 (s : ByteArray) (p : Nat) : Utf8.decode s p = dec0 (s.size - p) (s.get! (p + 0)).toNat (s.get! (p + 1)).toNat (s.get! (p + 2)).toNat (s.get! (p + 3)).toNat := by
  have e1 : p + 1 < s.size ↔ 1 < s.size - p := by omega
  have e2 : p + 2 < s.size ↔ 2 < s.size - p := by omega
  have e3 : p + 3 < s.size ↔ 3 < s.size - p := by omega
  unfold Utf8.decode dec0
  simp only [Bool.and_eq_true, decide_eq_true_eq, beq_iff_eq, and_assoc, e1, e2, e3, Utf8.runeError]
theorem valid_iff (n : Nat) : Utf8.valid (n : Int) = true ↔ n < 55296 ∨ (57344 ≤ n ∧ n ≤ 1114111) := by
  simp only [Utf8.valid, Bool.or_eq_true, Bool.and_eq_true, decide_eq_true_eq]
  omega
/-- What the model's own decode says of the first scalar, against what the document says. -/
def Good (b1 b2 : Int) (x : Nat × Nat) (y : Int × Int) : Prop := (x.1 : Int) = y.1 ∧ ((x.2 : Int) = y.2 ∨ x.2 = 1 ∧ (y.2 = 1 ∨ y.2 = 2 ∧ cont b1 ∨ y.2 = 3 ∧ cont b1 ∧ cont b2))
theorem dec0_nxL (av n0 n1 n2 n3 : Nat) (h0 : n0 < 256) (h1 : n1 < 256) (h2 : n2 < 256) (h3 : n3 < 256) : Good n1 n2 (dec0 av n0 n1 n2 n3) (nxL av n0 n1 n2 n3) := by
  unfold dec0 nxL
  simp only [valid_iff]
  by_cases c0 : n0 < 128
  · have c0' : (n0 : Int) < 128 := by omega
    rw [if_pos c0, if_pos c0']
    exact ⟨rfl, .inl rfl⟩
  have c0' : ¬ (n0 : Int) < 128 := by omega
  rw [if_neg c0, if_neg c0']
  by_cases c1 : 194 ≤ (n0 : Int) ∧ (n0 : Int) ≤ 223
  · rw [if_pos c1]
    have d2 : ¬ (n0 / 16 = 14 ∧ (1 < av ∧ n1 / 64 = 2) ∧ 2 < av ∧ n2 / 64 = 2) := by omega
    have d3 : ¬ (n0 / 8 = 30 ∧ (1 < av ∧ n1 / 64 = 2) ∧ (2 < av ∧ n2 / 64 = 2) ∧ 3 < av ∧ n3 / 64 = 2) := by omega
    rw [if_neg d2, if_neg d3]
    repeat' split
    all_goals (simp only [Good, cont, true_and] at *; omega)
  rw [if_neg c1]
  by_cases c2 : 224 ≤ (n0 : Int) ∧ (n0 : Int) ≤ 239
  · rw [if_pos c2]
    have d1 : ¬ (n0 / 32 = 6 ∧ 1 < av ∧ n1 / 64 = 2) := by omega
    have d3 : ¬ (n0 / 8 = 30 ∧ (1 < av ∧ n1 / 64 = 2) ∧ (2 < av ∧ n2 / 64 = 2) ∧ 3 < av ∧ n3 / 64 = 2) := by omega
    rw [if_neg d1, if_neg d3]
    have e : (loB n0 ≤ (n1 : Int) ∧ (n1 : Int) ≤ hiB n0) ↔ (if (n0 : Int) = 224 then 160 ≤ (n1 : Int) ∧ (n1 : Int) ≤ 191 else if (n0 : Int) = 237 then 128 ≤ (n1 : Int) ∧ (n1 : Int) ≤ 159 else 128 ≤ (n1 : Int) ∧ (n1 : Int) ≤ 191) := by
      unfold loB hiB
      repeat' split
      all_goals omega
    simp only [e]
    clear e
    by_cases f1 : (n0 : Int) = 224
    · simp only [if_pos f1]
      repeat' split
      all_goals (simp only [Good, cont, true_and] at *; omega)
    by_cases f2 : (n0 : Int) = 237
    · simp only [if_neg f1, if_pos f2]
      repeat' split
      all_goals (simp only [Good, cont, true_and] at *; omega)
    simp only [if_neg f1, if_neg f2]
    repeat' split
    all_goals (simp only [Good, cont, true_and] at *; omega)
  rw [if_neg c2]
  have d1 : ¬ (n0 / 16 = 14 ∧ (1 < av ∧ n1 / 64 = 2) ∧ 2 < av ∧ n2 / 64 = 2) := by omega
  rw [if_neg d1]
  by_cases c3 : 240 ≤ (n0 : Int) ∧ (n0 : Int) ≤ 244
  · rw [if_pos c3]
    have d1 : ¬ (n0 / 32 = 6 ∧ 1 < av ∧ n1 / 64 = 2) := by omega
    rw [if_neg d1]
    have e : (loB n0 ≤ (n1 : Int) ∧ (n1 : Int) ≤ hiB n0) ↔ (if (n0 : Int) = 240 then 144 ≤ (n1 : Int) ∧ (n1 : Int) ≤ 191 else if (n0 : Int) = 244 then 128 ≤ (n1 : Int) ∧ (n1 : Int) ≤ 143 else 128 ≤ (n1 : Int) ∧ (n1 : Int) ≤ 191) := by
      unfold loB hiB
      repeat' split
      all_goals omega
    simp only [e]
    clear e
    by_cases f1 : (n0 : Int) = 240
    · simp only [if_pos f1]
      repeat' split
      all_goals (simp only [Good, cont, true_and] at *; omega)
    by_cases f2 : (n0 : Int) = 244
    · simp only [if_neg f1, if_pos f2]
      repeat' split
      all_goals (simp only [Good, cont, true_and] at *; omega)
    simp only [if_neg f1, if_neg f2]
    repeat' split
    all_goals (simp only [Good, cont, true_and] at *; omega)
  rw [if_neg c3]
  repeat' split
  all_goals (simp only [Good, cont, true_and] at *; omega)
theorem decode_nx (s : ByteArray) (p : Nat) (h : p ≤ s.size) : Good (bt s (p + 1)) (bt s (p + 2)) (Utf8.decode s p) (nx s p) := by
  have g0 := get_bt s (p + 0)
  have g1 := get_bt s (p + 1)
  have g2 := get_bt s (p + 2)
  have g3 := get_bt s (p + 3)
  rw [decode_dec0]
  unfold nx
  rw [show ((p : Int)) = ((p + 0 : Nat) : Int) from by omega, ← g0, show (((p + 0 : Nat) : Int) + 1) = ((p + 1 : Nat) : Int) from by omega, show (((p + 0 : Nat) : Int) + 2) = ((p + 2 : Nat) : Int) from by omega, show (((p + 0 : Nat) : Int) + 3) = ((p + 3 : Nat) : Int) from by omega, ← g1, ← g2, ← g3]
  rw [show ((s.size : Int) - ((p + 0 : Nat) : Int)) = ((s.size - p : Nat) : Int) from by omega]
  exact dec0_nxL _ _ _ _ _ (UInt8.toNat_lt _) (UInt8.toNat_lt _) (UInt8.toNat_lt _) (UInt8.toNat_lt _)
end Go.Proofs.Ytcmacpdpphdkcaa.U
