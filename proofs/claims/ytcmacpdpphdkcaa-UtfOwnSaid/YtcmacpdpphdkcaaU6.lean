import Derived.Test.YtcmacpdpphdkcaaU5
namespace Go.Proofs.Ytcmacpdpphdkcaa.U
set_option linter.unusedVariables false
set_option linter.unusedSimpArgs false
open Go.RowKit Go.Proofs.Ytcmacpdpphdkcaa.F Go.Proofs.YtcmacpdpphdkcaaW.PrintWords Go.Proofs.YtcmacpdpphdkcaaW.PrintLast Go.Proofs.YtcmacpdpphdkcaaW.PrintMore

/-! ### decoding what was encoded -/
def Scalars (l : List Int) : Prop := ∀ n ∈ l, Utf8.valid n = true
theorem bt_list (l : List UInt8) (i : Nat) : bt (str l) (i : Int) = ((l.getD i 0).toNat : Int) := bt_nat _ _
theorem nx_at (pre rest : List UInt8) (n : Int) (hv : Utf8.valid n = true) : nx (str (pre ++ ((Utf8.encode n).data.toList ++ rest))) pre.length = (n, ((Utf8.encode n).size : Int)) := by
  have h0 := (valid_int n).1 hv
  obtain ⟨m, rfl⟩ := Int.eq_ofNat_of_zero_le (show 0 ≤ n by omega)
  have he := encode_enc1 m hv
  have hl : (Utf8.encode (m : Int)).size = (enc1 m).length := by rw [← data_length, he, List.length_map]
  rw [hl]
  refine nx_encode _ _ _ hv ?_ ?_
  · rw [str_size, he]; simp
  · intro i hi
    rw [bt_list, he]
    have e1 : (pre ++ (List.map UInt8.ofNat (enc1 m) ++ rest)).getD (pre.length + i) 0 = UInt8.ofNat ((enc1 m).getD i 0) := by
      rw [List.getD_eq_getElem?_getD, List.getElem?_append_right (by omega), Nat.add_sub_cancel_left, List.getElem?_append_left (by simpa using hi), List.getElem?_map, List.getElem?_eq_getElem hi, List.getD_eq_getElem?_getD, List.getElem?_eq_getElem hi]
      rfl
    rw [e1]
    have h2 := enc1_lt m (by omega) ((enc1 m).getD i 0) (by rw [List.getD_eq_getElem?_getD, List.getElem?_eq_getElem hi]; exact List.getElem_mem hi)
    rw [UInt8.toNat_ofNat']
    omega
theorem dec_encL (rest : List UInt8) : ∀ (l : List Int) (pre : List UInt8), Scalars l → ∀ m j, (str (pre ++ (encL l ++ rest))).size ≤ pre.length + m → (str (pre ++ (encL l ++ rest))).size ≤ pre.length + (encL l).length + j →
    (dec (str (pre ++ (encL l ++ rest))) m pre.length).map (·.1) = l ++ (dec (str (pre ++ (encL l ++ rest))) j (pre.length + (encL l).length)).map (·.1)
  | [], pre, hs, m, j, hm, hj => by
    simp only [encL, List.flatMap_nil, List.nil_append, List.length_nil, Nat.add_zero] at *
    rw [dec_same _ m j _ hm hj]
  | n :: l, pre, hs, m, j, hm, hj => by
    have hsz := encode_size n
    have hv := hs n (by simp)
    have hlen : (Utf8.encode n).data.toList.length = (Utf8.encode n).size := data_length _
    have e : encL (n :: l) = (Utf8.encode n).data.toList ++ encL l := rfl
    have hnx := nx_at pre (encL l ++ rest) n hv
    rw [e, List.append_assoc] at hm hj ⊢
    have hz : (str (pre ++ ((Utf8.encode n).data.toList ++ (encL l ++ rest)))).size = pre.length + ((Utf8.encode n).size + ((encL l).length + rest.length)) := by rw [str_size]; simp only [List.length_append, hlen]
    cases m with
    | zero => omega
    | succ m =>
      rw [dec, if_pos (by omega), hnx, Int.toNat_natCast, List.map_cons]
      have ih := dec_encL rest l (pre ++ (Utf8.encode n).data.toList) (fun x hx => hs x (by simp [hx])) m j
      simp only [List.append_assoc, List.length_append, hlen] at ih
      rw [ih (by omega) (by simp only [List.length_append, hlen] at hj; omega)]
      simp only [List.cons_append, List.length_append, hlen, Nat.add_assoc]
theorem dec_nil (s : ByteArray) (m p : Nat) (h : s.size ≤ p) : dec s m p = [] := by
  cases m with
  | zero => rfl
  | succ m => rw [dec, if_neg (by omega)]
theorem scal_encL (l : List Int) (h : Scalars l) : scal (str (encL l)) = l := by
  have := dec_encL [] l [] h (str (encL l)).size (str (encL l)).size
  simp only [List.nil_append, List.append_nil, List.length_nil, Nat.zero_add] at this
  unfold scal
  rw [this (by omega) (by omega), dec_nil _ _ _ (by rw [str_size]; omega)]
  simp
theorem offs_length (s : ByteArray) : (offs s).length = (scal s).length + 1 := by simp [offs, scal]
theorem nx_shift (pre t : List UInt8) (p : Nat) : nx (str (pre ++ t)) (pre.length + p) = nx (str t) p := by
  have h : ∀ i : Nat, bt (str (pre ++ t)) ((pre.length + p + i : Nat) : Int) = bt (str t) ((p + i : Nat) : Int) := by
    intro i
    rw [bt_list, bt_list, List.getD_eq_getElem?_getD, List.getElem?_append_right (by omega), List.getD_eq_getElem?_getD, show pre.length + p + i - pre.length = p + i from by omega]
  have h0 := h 0
  have h1 := h 1
  have h2 := h 2
  have h3 := h 3
  unfold nx
  rw [show ((pre.length + p : Nat) : Int) + 1 = ((pre.length + p + 1 : Nat) : Int) from by omega, show ((pre.length + p : Nat) : Int) + 2 = ((pre.length + p + 2 : Nat) : Int) from by omega, show ((pre.length + p : Nat) : Int) + 3 = ((pre.length + p + 3 : Nat) : Int) from by omega, h1, h2, h3, show ((pre.length + p : Nat) : Int) = ((pre.length + p + 0 : Nat) : Int) from by omega, h0, str_size, str_size]
  rw [show ((p + 0 : Nat) : Int) = (p : Int) from by omega, show ((p + 1 : Nat) : Int) = (p : Int) + 1 from by omega, show ((p + 2 : Nat) : Int) = (p : Int) + 2 from by omega, show ((p + 3 : Nat) : Int) = (p : Int) + 3 from by omega]
  congr 1
  rw [List.length_append]
  omega
theorem dec_shift (pre t : List UInt8) : ∀ (m p : Nat), (dec (str (pre ++ t)) m (pre.length + p)).map (·.1) = (dec (str t) m p).map (·.1)
  | 0, p => rfl
  | m + 1, p => by
    simp only [dec, str_size, List.length_append, nx_shift]
    by_cases h : p < t.length
    · rw [if_pos (by omega), if_pos h, List.map_cons, List.map_cons, Nat.add_assoc, dec_shift pre t m]
    · rw [if_neg (by omega), if_neg h]
theorem scal_cat (l : List Int) (t : List UInt8) (h : Scalars l) : scal (str (encL l ++ t)) = l ++ scal (str t) := by
  have := dec_encL t l [] h (str (encL l ++ t)).size (str (encL l ++ t)).size
  simp only [List.nil_append, List.length_nil, Nat.zero_add] at this
  unfold scal
  rw [this (by omega) (by omega)]
  congr 1
  have h2 := dec_shift (encL l) t (str (encL l ++ t)).size 0
  rw [Nat.add_zero] at h2
  rw [h2, dec_same _ _ (str t).size 0 (by rw [str_size, str_size, List.length_append]; omega) (by omega)]

/-! ### the reference's Encode -/
theorem refScalar_eq (n : Int) : hyphenref2_Scalar.f n = some (Utf8.valid n) := Scalar_eq n
theorem or_all (m : Int) (K : Nat) (f : Int → Int) (h : ∀ c : Fin K, (Go.bits .or .i64 m (c.val : Int)) % 256 = f (c.val : Int)) (b : Int) (h0 : 0 ≤ b) (h1 : b < K) : (Go.bits .or .i64 m b) % 256 = f b := by
  have := h ⟨b.toNat, by omega⟩
  simpa [Int.toNat_of_nonneg h0] using this
theorem and63n (b : Int) (h0 : 0 ≤ b) (h1 : b ≤ 1114111) : Go.bits .and .i64 b 63 = b % 64 := by
  obtain ⟨n, rfl⟩ := Int.eq_ofNat_of_zero_le h0
  have hx : n &&& 63 < 2 ^ 63 := Nat.and_lt_two_pow _ (by omega)
  show IntKind.i64.wrap ((BitVec.ofInt 64 (n : Int) &&& BitVec.ofInt 64 ((63 : Nat) : Int)).toNat : Int) = _
  rw [BitVec.toNat_and, ofInt_i64 n (by omega), ofInt_i64 63 (by omega), IntKind.wrap_i64, show (63 : Nat) = 2 ^ 6 - 1 from rfl, Nat.and_two_pow_sub_one_eq_mod]
  omega
theorem or128 (b : Int) (h0 : 0 ≤ b) (h1 : b < 64) : (Go.bits .or .i64 128 b) % 256 = 128 + b := or_all 128 64 (128 + ·) (by decide +kernel) b h0 h1
theorem or192 (b : Int) (h0 : 0 ≤ b) (h1 : b < 32) : (Go.bits .or .i64 192 b) % 256 = 192 + b := or_all 192 32 (192 + ·) (by decide +kernel) b h0 h1
theorem or224 (b : Int) (h0 : 0 ≤ b) (h1 : b < 16) : (Go.bits .or .i64 224 b) % 256 = 224 + b := or_all 224 16 (224 + ·) (by decide +kernel) b h0 h1
theorem or240 (b : Int) (h0 : 0 ≤ b) (h1 : b < 8) : (Go.bits .or .i64 240 b) % 256 = 240 + b := or_all 240 8 (240 + ·) (by decide +kernel) b h0 h1
theorem strOfNums_nats (l : List Nat) : strOfNums (l.map fun (n : Nat) => (n : Int)) = str (l.map UInt8.ofNat) := by
  unfold strOfNums str
  rw [List.map_map]
  rfl
theorem one_valid (k m : Nat) (hv : Utf8.valid (m : Int) = true) : hyphenref2_one.f (k + 1) (m : Int) = some (Utf8.encode (m : Int)) := by
  have hn := (valid_iff m).1 hv
  have he : Utf8.encode (m : Int) = str ((enc1 m).map UInt8.ofNat) := (str_of _).symm.trans (by rw [encode_enc1 m hv])
  rw [he, ← strOfNums_nats]
  simp only [hyphenref2_one.f]
  rw [refScalar_eq, hv]
  simp only [Option.bind_some, if_true]
  unfold enc1
  by_cases h1 : m < 128
  · rw [if_pos (by omega), if_pos h1]
    rw [List.map_cons, List.map_nil, Int.emod_eq_of_lt (by omega) (by omega)]
  rw [if_neg (by omega), if_neg h1]
  by_cases h2 : m < 2048
  · rw [if_pos (by omega), if_pos h2, and63n _ (by omega) (by omega), or192 _ (by omega) (by omega), or128 _ (by omega) (by omega)]
    congr 2
  rw [if_neg (by omega), if_neg h2]
  by_cases h3 : m < 65536
  · rw [if_pos (by omega), if_pos h3, and63n _ (by omega) (by omega), and63n _ (by omega) (by omega), or224 _ (by omega) (by omega), or128 _ (by omega) (by omega), or128 _ (by omega) (by omega)]
    congr 2
  rw [if_neg (by omega), if_neg h3, and63n _ (by omega) (by omega), and63n _ (by omega) (by omega), and63n _ (by omega) (by omega), or240 _ (by omega) (by omega), or128 _ (by omega) (by omega), or128 _ (by omega) (by omega), or128 _ (by omega) (by omega)]
  congr 2
theorem one_eq (k : Nat) (n : Int) : hyphenref2_one.f (k + 2) n = some (Utf8.encode n) := by
  cases hv : Utf8.valid n with
  | true =>
    have := (valid_int n).1 hv
    obtain ⟨m, rfl⟩ := Int.eq_ofNat_of_zero_le (show 0 ≤ n by omega)
    exact one_valid (k + 1) m hv
  | false =>
    rw [encode_bad n hv, hyphenref2_one.f, refScalar_eq, hv]
    simp only [Option.bind_some]
    rw [if_neg (by simp), show (65533 : Int) = ((65533 : Nat) : Int) from rfl, one_valid k 65533 (by decide)]
    rfl
theorem refEncode_go (xs : List Int) (hb : xs.length ≤ 17592186044416) : ∀ (k i : Nat) (acc : List UInt8), xs.length + 2 < i + k → i ≤ xs.length → acc.length ≤ 4 * i →
    hyphenref2_Encode.l0 k xs (str acc) (i : Int) = some (str (acc ++ encL (xs.drop i)))
  | 0, i, acc, h, hi, ha => by omega
  | k + 1, i, acc, h, hi, ha => by
    simp only [hyphenref2_Encode.l0]
    by_cases hlt : i < xs.length
    · obtain ⟨k', rfl⟩ : ∃ k', k = k' + 2 := ⟨k - 2, by omega⟩
      have ea : rd xs (i : Int) = xs[i] := by simp [rd, List.getD_eq_getElem?_getD, hlt]
      have hsz := encode_size xs[i]
      have hl : (Utf8.encode xs[i]).data.toList.length = (Utf8.encode xs[i]).size := data_length _
      rw [if_pos (by omega), if_pos (by omega), ea, one_eq]
      simp only [Option.bind_some]
      rw [if_pos (by rw [str_size]; omega), wrap_id _ (by omega) (by omega), show ((i : Int) + 1) = ((i + 1 : Nat) : Int) from by omega, ← str_of (Utf8.encode xs[i]), str_append, refEncode_go xs hb (k' + 2) (i + 1) _ (by omega) (by omega) (by rw [List.length_append, hl]; omega), List.drop_eq_getElem_cons hlt]
      simp only [encL, List.flatMap_cons, List.append_assoc]
    · rw [if_neg (by omega), List.drop_eq_nil_of_le (by omega)]
      simp [encL]
theorem refEncode_eq (k : Nat) (xs : List Int) (hb : xs.length ≤ 17592186044416) (hk : xs.length + 2 < k) : hyphenref2_Encode.f k xs = some (str (encL xs)) := by
  unfold hyphenref2_Encode.f
  have := refEncode_go xs hb k 0 [] (by omega) (by omega) (by simp)
  simp only [List.nil_append, List.drop_zero] at this
  exact this
end Go.Proofs.Ytcmacpdpphdkcaa.U
