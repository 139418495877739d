import Derived.Test.YtcmacpdpphdkcaaU3
namespace Go.Proofs.Ytcmacpdpphdkcaa.U
set_option linter.unusedVariables false
set_option linter.unusedSimpArgs false
open Go.RowKit Go.Proofs.Ytcmacpdpphdkcaa.F Go.Proofs.YtcmacpdpphdkcaaW.PrintWords Go.Proofs.YtcmacpdpphdkcaaW.PrintLast Go.Proofs.YtcmacpdpphdkcaaW.PrintMore

/-! ### Encode is encL -/
theorem Encode_go (xs : List Int) (hw : ∀ x ∈ xs, wf x) (hb : xs.length ≤ 17592186044416) : ∀ (k i : Nat) (acc : List UInt8), xs.length < i + k → i ≤ xs.length → acc.length ≤ 4 * i →
    utf_Encode.l0 k (acc.map fun b => (b.toNat : Int)) xs (xs.length : Int) (i : Int) = some (str (acc ++ encL (xs.drop i)))
  | 0, i, acc, h, hi, ha => by omega
  | k + 1, i, acc, h, hi, ha => by
    simp only [utf_Encode.l0]
    by_cases hlt : i < xs.length
    · rw [if_pos (by omega), if_pos (by omega), if_pos (by omega)]
      have ea : rd xs (i : Int) = xs[i] := by simp [rd, List.getD_eq_getElem?_getD, hlt]
      have hwx := hw xs[i] (List.getElem_mem hlt)
      rw [ea, Scalar_eq, List.drop_eq_getElem_cons hlt]
      have hsz := encode_size xs[i]
      have hsz2 := encode_size 65533
      have hl : ∀ n, (Utf8.encode n).data.toList.length = (Utf8.encode n).size := fun n => data_length _
      have go : ∀ n, (acc.map fun b => (b.toNat : Int)) ++ bytesOf (Utf8.encode n) = (acc ++ (Utf8.encode n).data.toList).map fun b => (b.toNat : Int) := fun n => by rw [bytesOf_eq, List.map_append]
      have eq : Utf8.encode xs[i] = Utf8.encode (if Utf8.valid xs[i] = true then xs[i] else 65533) := by
        cases hv : Utf8.valid xs[i] with
        | true => simp
        | false => simp [encode_bad _ hv]
      have fin : ∀ n, Utf8.encode xs[i] = Utf8.encode n → utf_Encode.l0 k ((acc.map fun b => (b.toNat : Int)) ++ bytesOf (Utf8.encode n)) xs (xs.length : Int) (wrap64 ((i : Int) + 1)) = some (str (acc ++ encL (xs[i] :: xs.drop (i + 1)))) := by
        intro n hn
        have hsn := encode_size n
        rw [wrap_id _ (by omega) (by omega), show ((i : Int) + 1) = ((i + 1 : Nat) : Int) from by omega, go, Encode_go xs hw hb k (i + 1) _ (by omega) (by omega) (by rw [List.length_append, hl]; omega)]
        simp only [encL, List.flatMap_cons, hn, List.append_assoc]
      simp only [Option.bind_some]
      cases hv : Utf8.valid xs[i] with
      | true =>
        have h32 : wrap32 xs[i] = xs[i] := by
          have := (valid_int _).1 hv
          unfold wrap32
          omega
        rw [if_pos rfl, h32, if_pos (by rw [List.length_map]; omega)]
        exact fin _ rfl
      | false =>
        rw [if_neg (by simp), if_pos (by rw [List.length_map]; omega)]
        exact fin _ (encode_bad _ hv)
    · rw [if_neg (by omega), strOfNums_bytes, List.drop_eq_nil_of_le (by omega)]
      simp [encL]
theorem Encode_eq (k : Nat) (xs : List Int) (hw : ∀ x ∈ xs, wf x) (hb : xs.length ≤ 17592186044416) (hk : xs.length < k) : utf_Encode.f k xs = some (str (encL xs)) := by
  unfold utf_Encode.f
  have := Encode_go xs hw hb k 0 [] (by omega) (by omega) (by simp)
  simpa using this

/-! ### a scalar's bytes are read as that scalar -/
def enc1 (n : Nat) : List Nat :=
  if n < 128 then [n] else if n < 2048 then [192 + n / 64, 128 + n % 64] else if n < 65536 then [224 + n / 4096, 128 + n / 64 % 64, 128 + n % 64] else [240 + n / 262144, 128 + n / 4096 % 64, 128 + n / 64 % 64, 128 + n % 64]
theorem encode_enc1 (n : Nat) (hv : Utf8.valid (n : Int) = true) : (Utf8.encode n).data.toList = (enc1 n).map UInt8.ofNat := by
  have e : (if Utf8.valid (n : Int) = true then (n : Int).toNat else Utf8.runeError) = n := by rw [if_pos hv, Int.toNat_natCast]
  unfold Utf8.encode
  simp only [e]
  clear e hv
  unfold enc1
  by_cases h1 : n < 128
  · rw [if_pos h1, if_pos h1, List.map_cons, List.map_nil]
  rw [if_neg h1, if_neg h1]
  by_cases h2 : n < 2048
  · rw [if_pos h2, if_pos h2, List.map_cons, List.map_cons, List.map_nil]
  rw [if_neg h2, if_neg h2]
  by_cases h3 : n < 65536
  · rw [if_pos h3, if_pos h3, List.map_cons, List.map_cons, List.map_cons, List.map_nil]
  rw [if_neg h3, if_neg h3, List.map_cons, List.map_cons, List.map_cons, List.map_cons, List.map_nil]
theorem enc1_lt (n : Nat) (hn : n ≤ 1114111) : ∀ b ∈ enc1 n, b < 256 := by
  unfold enc1
  intro b hb
  by_cases h1 : n < 128
  · rw [if_pos h1] at hb
    simp only [List.mem_cons, List.not_mem_nil, or_false] at hb
    omega
  rw [if_neg h1] at hb
  by_cases h2 : n < 2048
  · rw [if_pos h2] at hb
    simp only [List.mem_cons, List.not_mem_nil, or_false] at hb
    omega
  rw [if_neg h2] at hb
  by_cases h3 : n < 65536
  · rw [if_pos h3] at hb
    simp only [List.mem_cons, List.not_mem_nil, or_false] at hb
    omega
  rw [if_neg h3] at hb
  simp only [List.mem_cons, List.not_mem_nil, or_false] at hb
  omega
/-- Where a scalar's bytes stand, that scalar is read. -/
theorem nx_encode (s : ByteArray) (p n : Nat) (hv : Utf8.valid (n : Int) = true) (hsz : p + (enc1 n).length ≤ s.size) (hb : ∀ i : Nat, i < (enc1 n).length → bt s ((p + i : Nat) : Int) = ((enc1 n).getD i 0 : Nat)) : nx s p = ((n : Int), ((enc1 n).length : Int)) := by
  have hn := (valid_iff n).1 hv
  have b0 := hb 0
  have b1 := hb 1
  have b2 := hb 2
  have b3 := hb 3
  rw [show ((p + 0 : Nat) : Int) = (p : Int) from by omega] at b0
  rw [show ((p + 1 : Nat) : Int) = (p : Int) + 1 from by omega] at b1
  rw [show ((p + 2 : Nat) : Int) = (p : Int) + 2 from by omega] at b2
  rw [show ((p + 3 : Nat) : Int) = (p : Int) + 3 from by omega] at b3
  unfold nx
  clear hb hv
  generalize bt s (p : Int) = c0 at *
  generalize bt s ((p : Int) + 1) = c1 at *
  generalize bt s ((p : Int) + 2) = c2 at *
  generalize bt s ((p : Int) + 3) = c3 at *
  unfold enc1 at hsz b0 b1 b2 b3 ⊢
  unfold nxL loB hiB cont
  by_cases h1 : n < 128
  · simp only [h1, if_true, List.length_cons, List.length_nil, List.getD_cons_zero] at hsz b0 b1 b2 b3 ⊢
    have e0 := b0 (by omega)
    rw [if_pos (by omega), e0]
    rfl
  simp only [h1, if_false] at hsz b0 b1 b2 b3 ⊢
  by_cases h2 : n < 2048
  · simp only [h2, if_true, List.length_cons, List.length_nil, List.getD_cons_zero, List.getD_cons_succ] at hsz b0 b1 b2 b3 ⊢
    have e0 := b0 (by omega)
    have e1 := b1 (by omega)
    rw [if_neg (by omega), if_pos (by omega), if_pos (by omega)]
    ext <;> simp only [] <;> omega
  simp only [h2, if_false] at hsz b0 b1 b2 b3 ⊢
  by_cases h3 : n < 65536
  · simp only [h3, if_true, List.length_cons, List.length_nil, List.getD_cons_zero, List.getD_cons_succ] at hsz b0 b1 b2 b3 ⊢
    have e0 := b0 (by omega)
    have e1 := b1 (by omega)
    have e2 := b2 (by omega)
    rw [if_neg (by omega), if_neg (by omega), if_pos (by omega)]
    have f1 : (1 < (s.size : Int) - p ∧ (if c0 = 224 then (160 : Int) else if c0 = 240 then 144 else 128) ≤ c1 ∧ c1 ≤ (if c0 = 237 then (159 : Int) else if c0 = 244 then 143 else 191)) := by
      repeat' split
      all_goals omega
    rw [if_pos f1, if_pos (by omega)]
    ext <;> simp only [] <;> omega
  · simp only [h3, if_false, List.length_cons, List.length_nil, List.getD_cons_zero, List.getD_cons_succ] at hsz b0 b1 b2 b3 ⊢
    have e0 := b0 (by omega)
    have e1 := b1 (by omega)
    have e2 := b2 (by omega)
    have e3 := b3 (by omega)
    rw [if_neg (by omega), if_neg (by omega), if_neg (by omega), if_pos (by omega)]
    have f1 : (1 < (s.size : Int) - p ∧ (if c0 = 224 then (160 : Int) else if c0 = 240 then 144 else 128) ≤ c1 ∧ c1 ≤ (if c0 = 237 then (159 : Int) else if c0 = 244 then 143 else 191)) := by
      repeat' split
      all_goals omega
    rw [if_pos f1, if_pos (by omega), if_pos (by omega)]
    ext <;> simp only [] <;> omega
end Go.Proofs.Ytcmacpdpphdkcaa.U
