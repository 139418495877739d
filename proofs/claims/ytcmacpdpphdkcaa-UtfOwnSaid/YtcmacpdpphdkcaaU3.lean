import Derived.Test.YtcmacpdpphdkcaaU2
namespace Go.Proofs.Ytcmacpdpphdkcaa.U
set_option linter.unusedVariables false
set_option linter.unusedSimpArgs false
open Go.RowKit Go.Proofs.Ytcmacpdpphdkcaa.F Go.Proofs.YtcmacpdpphdkcaaW.PrintWords Go.Proofs.YtcmacpdpphdkcaaW.PrintLast Go.Proofs.YtcmacpdpphdkcaaW.PrintMore

theorem wrap_id (x : Int) (h0 : -9223372036854775808 ≤ x) (h1 : x ≤ 9223372036854775807) : wrap64 x = x := by unfold wrap64; omega

/-! ### Ints -/
theorem Ints_go (a b : List Int) (hl : a.length = b.length) (hb : a.length ≤ 4611686018427387904) : ∀ (k i : Nat), a.length < i + k → i ≤ a.length →
    hyphenref1_Ints.l0 k a b (i : Int) = some (decide (a.drop i = b.drop i))
  | 0, i, h, hi => by omega
  | k + 1, i, h, hi => by
    simp only [hyphenref1_Ints.l0]
    by_cases hlt : i < a.length
    · have hlt2 : i < b.length := by omega
      rw [if_pos (by omega), if_pos (by omega), if_pos (by omega), wrap_id _ (by omega) (by omega)]
      have ea : rd a (i : Int) = a[i] := by simp [rd, List.getD_eq_getElem?_getD, hlt]
      have eb : rd b (i : Int) = b[i] := by simp [rd, List.getD_eq_getElem?_getD, hlt2]
      rw [ea, eb, List.drop_eq_getElem_cons hlt, List.drop_eq_getElem_cons hlt2]
      by_cases e : a[i] = b[i]
      · rw [if_pos e, show ((i : Int) + 1) = ((i + 1 : Nat) : Int) from by omega, Ints_go a b hl hb k (i + 1) (by omega) (by omega)]
        congr 1
        apply decide_eq_decide.2
        rw [e, List.cons.injEq]
        exact ⟨fun h => ⟨rfl, h⟩, fun h => h.2⟩
      · rw [if_neg e]
        congr 1
        symm
        apply decide_eq_false
        rw [List.cons.injEq]
        exact fun h => e h.1
    · rw [if_neg (by omega), List.drop_eq_nil_of_le (by omega), List.drop_eq_nil_of_le (by omega)]
      simp
theorem Ints_eq (k : Nat) (a b : List Int) (hk : a.length < k) (hb : a.length ≤ 4611686018427387904) : hyphenref1_Ints.f k a b = some (decide (a = b)) := by
  unfold hyphenref1_Ints.f
  by_cases h : a.length = b.length
  · rw [if_pos (by omega), show (0 : Int) = ((0 : Nat) : Int) from rfl, Ints_go a b h hb k 0 (by omega) (by omega)]
    simp
  · rw [if_neg (by omega)]
    have : ¬ a = b := fun e => h (by rw [e])
    simp [this]

/-! ### within -/
def win (a n : Int) : Int := if Int.tmod a n < 0 then Int.tmod a n + n else Int.tmod a n
theorem win_range (a n : Int) (h : 0 < n) : 0 ≤ win a n ∧ win a n < n := by
  have h1 := Int.tmod_lt_of_pos a h
  have h2 := Int.lt_tmod_of_pos a h
  unfold win
  split <;> omega
theorem within_eq (a n : Int) (h : 0 < n) (hn : n ≤ 4611686018427387904) : hyphenlaw2_within.f a n = some (win a n) := by
  have h1 := Int.tmod_lt_of_pos a h
  have h2 := Int.lt_tmod_of_pos a h
  unfold hyphenlaw2_within.f win
  rw [if_neg (by omega)]
  split
  · rw [wrap_id _ (by omega) (by omega)]
  · rfl

/-! ### Encode -/
/-- Scalars as bytes. -/
def encL (l : List Int) : List UInt8 := l.flatMap fun n => (Utf8.encode n).data.toList
theorem encode_bad (n : Int) (h : Utf8.valid n = false) : Utf8.encode n = Utf8.encode 65533 := by
  unfold Utf8.encode
  rw [h, show Utf8.valid 65533 = true from by decide]
  simp [Utf8.runeError]
theorem valid_int (n : Int) : Utf8.valid n = true ↔ (0 ≤ n ∧ n < 55296) ∨ (57344 ≤ n ∧ n ≤ 1114111) := by
  simp only [Utf8.valid, Bool.or_eq_true, Bool.and_eq_true, decide_eq_true_eq, ge_iff_le]
theorem Scalar_eq (n : Int) : utf_Scalar.f n = some (Utf8.valid n) := by
  have hv := valid_int n
  unfold utf_Scalar.f
  cases hb : Utf8.valid n with
  | true =>
    have := hv.1 hb
    rw [if_pos (by omega), if_pos (by omega)]
    by_cases h3 : n < 55296
    · rw [if_pos h3]
    · rw [if_neg h3, decide_eq_true (by omega)]
  | false =>
    have h2 : ¬ ((0 ≤ n ∧ n < 55296) ∨ (57344 ≤ n ∧ n ≤ 1114111)) := fun h => by rw [hv.2 h] at hb; cases hb
    by_cases h3 : n ≥ 0
    · rw [if_pos h3]
      by_cases h4 : n ≤ 1114111
      · rw [if_pos h4, if_neg (by omega), decide_eq_false (by omega)]
      · rw [if_neg h4]
    · rw [if_neg h3]
theorem encode_size (n : Int) : 1 ≤ (Utf8.encode n).size ∧ (Utf8.encode n).size ≤ 4 := by
  unfold Utf8.encode
  simp only []
  generalize (if Utf8.valid n = true then n.toNat else Utf8.runeError) = c
  repeat' split
  all_goals simp [ByteArray.size]
theorem encL_length (l : List Int) : l.length ≤ (encL l).length ∧ (encL l).length ≤ 4 * l.length := by
  induction l with
  | nil => simp [encL]
  | cons n l ih =>
    have h := encode_size n
    have h2 : (Utf8.encode n).data.toList.length = (Utf8.encode n).size := data_length _
    simp only [encL, List.flatMap_cons, List.length_append, List.length_cons, h2] at *
    omega
theorem encL_append (l m : List Int) : encL (l ++ m) = encL l ++ encL m := by simp [encL]
/-- Bytes as a string. -/
def str (l : List UInt8) : ByteArray := ⟨l.toArray⟩
theorem str_data (l : List UInt8) : (str l).data.toList = l := rfl
theorem str_size (l : List UInt8) : (str l).size = l.length := by rw [← data_length, str_data]
theorem str_of (s : ByteArray) : str s.data.toList = s := rfl
theorem str_append (l m : List UInt8) : str l ++ str m = str (l ++ m) := by
  apply ByteArray.ext
  rw [ByteArray.data_append]
  simp [str]
theorem strOfNums_bytes (l : List UInt8) : strOfNums (l.map fun b => (b.toNat : Int)) = str l := by
  unfold strOfNums str
  congr 1
  rw [List.map_map]
  congr 1
  conv => rhs; rw [← List.map_id l]
  congr 1
  funext b
  simp
theorem bytesOf_eq (s : ByteArray) : bytesOf s = s.data.toList.map fun b => (b.toNat : Int) := rfl
def wf (n : Int) : Prop := -9223372036854775808 ≤ n ∧ n ≤ 9223372036854775807
theorem wf_iff (n : Int) : (Lit.int .i64 n).wf = true ↔ wf n := by
  simp [Lit.wf, IntKind.min, IntKind.max, wf, IntKind.signed, IntKind.bits]
end Go.Proofs.Ytcmacpdpphdkcaa.U
