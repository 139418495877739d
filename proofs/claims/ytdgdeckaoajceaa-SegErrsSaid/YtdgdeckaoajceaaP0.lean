/- Plain laws. Conditions: none. -/
import Derived.Laws.Runes
import Derived.Laws.Strings
import Derived.Laws.BitsAllLaws
import Derived.Laws.BitsLemmas
import Derived.Test.YtdgdeckaoajceaaG1
/- Plain laws: numbers, loops. Conditions: none. -/
set_option linter.unusedSimpArgs false
set_option linter.unusedVariables false
namespace Go.Proofs.YtdgdeckaoajceaaE
theorem w64 (x : Int) (h : -9223372036854775808 ≤ x) (h2 : x ≤ 9223372036854775807) : IntKind.wrap .i64 x = x := by
  simp only [IntKind.wrap, IntKind.signed, IntKind.bits, Bool.true_and]
  split
  · rename_i hc
    have hc' := of_decide_eq_true hc
    omega
  · rename_i hc
    have hc' : ¬ _ := fun h => hc (decide_eq_true h)
    omega
theorem wu8 (x : Int) : IntKind.wrap .u8 x = x % 256 := by
  simp only [IntKind.wrap, IntKind.signed, IntKind.bits]
  simp
theorem wu64 (x : Int) (h : 0 ≤ x) (h2 : x ≤ 18446744073709551615) : IntKind.wrap .u64 x = x := by
  simp only [IntKind.wrap, IntKind.signed, IntKind.bits, Bool.false_and]
  simp
  omega
theorem getD_lt {α : Type} (l : List α) (i : Nat) (d : α) (h : i < l.length) : List.getD l i d = l[i] := by
  simp [List.getD_eq_getElem?_getD, List.getElem?_eq_getElem h]
theorem inR {i n : Nat} (h : i < n) : (0 : Int) ≤ (i : Int) ∧ (i : Int) < ((n : Nat) : Int) := by omega
theorem dlt {i n : Nat} (h : i < n) : decide ((i : Int) < ((n : Nat) : Int)) = true := by simpa using h
theorem dnlt (n : Nat) : decide ((n : Int) < ((n : Nat) : Int)) = false := by simp
theorem wsucc (i n : Nat) (h : i < n) (hn : n ≤ 9223372036854775807) : IntKind.wrap .i64 ((i : Int) + 1) = ((i + 1 : Nat) : Int) := by
  rw [w64 _ (by omega) (by omega)]; omega
/-- A loop over a list: `G l s` is what is left to be told of the rest `l` in the state `s`. -/
theorem loop_list {α S R : Type} (F : Nat → Int → S → Option R) (l : List α) (G : List α → S → R) (I : Nat → S → Prop)
    (h0 : ∀ n s, I l.length s → F (n + 1) ((l.length : Nat) : Int) s = some (G [] s))
    (h1 : ∀ n i s (h : i < l.length), I i s → (F (n + 1) (i : Int) s = some (G (l[i] :: l.drop (i + 1)) s)) ∨ ∃ s', I (i + 1) s' ∧ F (n + 1) (i : Int) s = F n ((i + 1 : Nat) : Int) s' ∧ G (l[i] :: l.drop (i + 1)) s = G (l.drop (i + 1)) s') :
    ∀ n i s, i ≤ l.length → l.length - i < n → I i s → F n (i : Int) s = some (G (l.drop i) s)
  | 0, i, s, _, hn, _ => by omega
  | n + 1, i, s, hi, hn, hI => by
    by_cases hlt : i < l.length
    · rw [List.drop_eq_getElem_cons hlt]
      rcases h1 n i s hlt hI with h | ⟨s', hI', e, eG⟩
      · exact h
      · rw [e, eG]
        exact loop_list F l G I h0 h1 n (i + 1) s' hlt (by omega) hI'
    · obtain rfl : i = l.length := by omega
      rw [h0 n s hI, List.drop_length]
/-- From its beginning on. -/
theorem loop_list0 {α S R : Type} (F : Nat → Int → S → Option R) (l : List α) (G : List α → S → R) (I : Nat → S → Prop)
    (h0 : ∀ n s, I l.length s → F (n + 1) ((l.length : Nat) : Int) s = some (G [] s))
    (h1 : ∀ n i s (h : i < l.length), I i s → (F (n + 1) (i : Int) s = some (G (l[i] :: l.drop (i + 1)) s)) ∨ ∃ s', I (i + 1) s' ∧ F (n + 1) (i : Int) s = F n ((i + 1 : Nat) : Int) s' ∧ G (l[i] :: l.drop (i + 1)) s = G (l.drop (i + 1)) s') (n : Nat) (s : S) (hn : l.length < n) (hI : I 0 s) : F n 0 s = some (G l s) := by
  have := loop_list F l G I h0 h1 n 0 s (Nat.zero_le _) (by omega) hI
  simpa using this
/-- A loop by a count. -/
theorem loop_count {S R : Type} (F : Nat → Int → S → Option R) (m : Nat) (G : Nat → S → R) (I : Nat → S → Prop)
    (h0 : ∀ n s, I m s → F (n + 1) ((m : Nat) : Int) s = some (G 0 s))
    (h1 : ∀ n i j s (h : i < m) (hj : m - i = j + 1), I i s → (F (n + 1) (i : Int) s = some (G (j + 1) s)) ∨ ∃ s', I (i + 1) s' ∧ F (n + 1) (i : Int) s = F n ((i + 1 : Nat) : Int) s' ∧ G (j + 1) s = G j s') :
    ∀ n i s, i ≤ m → m - i < n → I i s → F n (i : Int) s = some (G (m - i) s)
  | 0, i, s, _, hn, _ => by omega
  | n + 1, i, s, hi, hn, hI => by
    by_cases hlt : i < m
    · obtain ⟨j, hj⟩ : ∃ j, m - i = j + 1 := ⟨m - i - 1, by omega⟩
      rw [hj]
      rcases h1 n i j s hlt hj hI with h | ⟨s', hI', e, eG⟩
      · exact h
      · rw [e, eG]
        have := loop_count F m G I h0 h1 n (i + 1) s' hlt (by omega) hI'
        rwa [show m - (i + 1) = j by omega] at this
    · obtain rfl : i = m := by omega
      rw [h0 n s hI, Nat.sub_self]
theorem loop_count0 {S R : Type} (F : Nat → Int → S → Option R) (m : Nat) (G : Nat → S → R) (I : Nat → S → Prop)
    (h0 : ∀ n s, I m s → F (n + 1) ((m : Nat) : Int) s = some (G 0 s))
    (h1 : ∀ n i j s (h : i < m) (hj : m - i = j + 1), I i s → (F (n + 1) (i : Int) s = some (G (j + 1) s)) ∨ ∃ s', I (i + 1) s' ∧ F (n + 1) (i : Int) s = F n ((i + 1 : Nat) : Int) s' ∧ G (j + 1) s = G j s') (n : Nat) (s : S) (hn : m < n) (hI : I 0 s) : F n 0 s = some (G m s) := by
  have := loop_count F m G I h0 h1 n 0 s (Nat.zero_le _) (by omega) hI
  simpa using this
/-- A number's eight bytes. -/
def be8 (n : Int) : List Int := [n / 72057594037927936 % 256, n / 281474976710656 % 256, n / 1099511627776 % 256, n / 4294967296 % 256, n / 16777216 % 256, n / 65536 % 256, n / 256 % 256, n % 256]
/-- A number that eight bytes say. -/
def valL (l : List Int) : Int := l.foldl (fun n c => IntKind.wrap .i64 (n * 256 + c)) 0
def IsB (l : List Int) : Prop := ∀ x ∈ l, 0 ≤ x ∧ x ≤ 255
def I64 (n : Int) : Prop := -9223372036854775808 ≤ n ∧ n ≤ 9223372036854775807
theorem be8_len (n : Int) : (be8 n).length = 8 := rfl
theorem be8_isB (n : Int) : IsB (be8 n) := by
  intro x hx
  simp only [be8, List.mem_cons, List.not_mem_nil, or_false] at hx
  omega
theorem wrap_I64 (x : Int) : I64 (IntKind.wrap .i64 x) := by
  unfold I64
  simp only [IntKind.wrap, IntKind.signed, IntKind.bits, Bool.true_and]
  split
  · rename_i hc
    have hc' := of_decide_eq_true hc
    omega
  · rename_i hc
    have hc' : ¬ _ := fun h => hc (decide_eq_true h)
    omega
theorem wrap_mod (x : Int) : IntKind.wrap .i64 x % 18446744073709551616 = x % 18446744073709551616 := by
  simp only [IntKind.wrap, IntKind.signed, IntKind.bits, Bool.true_and]
  split
  · omega
  · omega
theorem wrap_eq {x y : Int} (h : x % 18446744073709551616 = y % 18446744073709551616) : IntKind.wrap .i64 x = IntKind.wrap .i64 y := by
  simp only [IntKind.wrap]
  have : (2 : Int) ^ IntKind.bits .i64 = 18446744073709551616 := rfl
  simp only [this, h]
theorem valL_be8 (n : Int) (h : I64 n) : valL (be8 n) = n := by
  unfold I64 at h
  simp only [valL, be8, List.foldl_cons, List.foldl_nil]
  rw [w64 (0 * 256 + _) (by omega) (by omega)]
  rw [w64 ((0 * 256 + n / 72057594037927936 % 256) * 256 + n / 281474976710656 % 256) (by omega) (by omega)]
  rw [show ((0 * 256 + n / 72057594037927936 % 256) * 256 + n / 281474976710656 % 256) = n / 281474976710656 % 65536 by omega]
  rw [w64 (n / 281474976710656 % 65536 * 256 + n / 1099511627776 % 256) (by omega) (by omega)]
  rw [show (n / 281474976710656 % 65536 * 256 + n / 1099511627776 % 256) = n / 1099511627776 % 16777216 by omega]
  rw [w64 (n / 1099511627776 % 16777216 * 256 + n / 4294967296 % 256) (by omega) (by omega)]
  rw [show (n / 1099511627776 % 16777216 * 256 + n / 4294967296 % 256) = n / 4294967296 % 4294967296 by omega]
  rw [w64 (n / 4294967296 % 4294967296 * 256 + n / 16777216 % 256) (by omega) (by omega)]
  rw [show (n / 4294967296 % 4294967296 * 256 + n / 16777216 % 256) = n / 16777216 % 1099511627776 by omega]
  rw [w64 (n / 16777216 % 1099511627776 * 256 + n / 65536 % 256) (by omega) (by omega)]
  rw [show (n / 16777216 % 1099511627776 * 256 + n / 65536 % 256) = n / 65536 % 281474976710656 by omega]
  rw [w64 (n / 65536 % 281474976710656 * 256 + n / 256 % 256) (by omega) (by omega)]
  rw [show (n / 65536 % 281474976710656 * 256 + n / 256 % 256) = n / 256 % 72057594037927936 by omega]
  rw [wrap_eq (y := n) (by omega), w64 n h.1 h.2]
/-- Eight bytes are those of the number that they say. -/
theorem be8_valL (l : List Int) (hb : IsB l) (hl : l.length = 8) : be8 (valL l) = l := by
  match l, hl with
  | [a, b, c, d, e, f, g, h], _ =>
    have ha := hb a (by simp)
    have hb' := hb b (by simp)
    have hc := hb c (by simp)
    have hd := hb d (by simp)
    have he := hb e (by simp)
    have hf := hb f (by simp)
    have hg := hb g (by simp)
    have hh := hb h (by simp)
    have hw : valL [a, b, c, d, e, f, g, h] % 18446744073709551616 = (((((((a * 256 + b) * 256 + c) * 256 + d) * 256 + e) * 256 + f) * 256 + g) * 256 + h) := by
      simp only [valL, List.foldl_cons, List.foldl_nil]
      rw [w64 (0 * 256 + a) (by omega) (by omega), w64 ((0 * 256 + a) * 256 + b) (by omega) (by omega)]
      rw [w64 (((0 * 256 + a) * 256 + b) * 256 + c) (by omega) (by omega), w64 ((((0 * 256 + a) * 256 + b) * 256 + c) * 256 + d) (by omega) (by omega)]
      rw [w64 (((((0 * 256 + a) * 256 + b) * 256 + c) * 256 + d) * 256 + e) (by omega) (by omega), w64 ((((((0 * 256 + a) * 256 + b) * 256 + c) * 256 + d) * 256 + e) * 256 + f) (by omega) (by omega)]
      rw [w64 (((((((0 * 256 + a) * 256 + b) * 256 + c) * 256 + d) * 256 + e) * 256 + f) * 256 + g) (by omega) (by omega), wrap_mod]
      omega
    generalize valL [a, b, c, d, e, f, g, h] = v at hw
    simp only [be8]
    rw [show v % 256 = h by omega]
    have h7 : v / 256 % 72057594037927936 = ((((((a * 256 + b) * 256 + c) * 256 + d) * 256 + e) * 256 + f) * 256 + g) := by omega
    rw [show v / 256 % 256 = g by omega]
    have h6 : v / 65536 % 281474976710656 = (((((a * 256 + b) * 256 + c) * 256 + d) * 256 + e) * 256 + f) := by omega
    rw [show v / 65536 % 256 = f by omega]
    have h5 : v / 16777216 % 1099511627776 = ((((a * 256 + b) * 256 + c) * 256 + d) * 256 + e) := by omega
    rw [show v / 16777216 % 256 = e by omega]
    have h4 : v / 4294967296 % 4294967296 = (((a * 256 + b) * 256 + c) * 256 + d) := by omega
    rw [show v / 4294967296 % 256 = d by omega]
    have h3 : v / 1099511627776 % 16777216 = ((a * 256 + b) * 256 + c) := by omega
    rw [show v / 1099511627776 % 256 = c by omega]
    have h2 : v / 281474976710656 % 65536 = (a * 256 + b) := by omega
    rw [show v / 281474976710656 % 256 = b by omega, show v / 72057594037927936 % 256 = a by omega]
/-- A byte behind a number. -/
theorem or_byte (n c : Int) (h0 : 0 ≤ c) (h1 : c ≤ 255) : IntKind.wrap .i64 (((BitVec.ofInt 64 (IntKind.wrap .i64 (n * 256)) ||| BitVec.ofInt 64 (IntKind.wrap .i64 c)).toNat : Nat) : Int) = IntKind.wrap .i64 (n * 256 + c) := by
  rw [w64 c (by omega) (by omega)]
  apply wrap_eq
  rw [BitVec.toNat_or, BitVec.toNat_ofInt, BitVec.toNat_ofInt]
  have e1 : (IntKind.wrap .i64 (n * 256) % ((2 ^ 64 : Nat) : Int)).toNat = (n % 72057594037927936).toNat * 256 := by
    have h := wrap_mod (n * 256)
    rw [show ((2 ^ 64 : Nat) : Int) = 18446744073709551616 from rfl, h]
    omega
  have e2 : (c % ((2 ^ 64 : Nat) : Int)).toNat = c.toNat := by
    rw [show ((2 ^ 64 : Nat) : Int) = 18446744073709551616 from rfl]
    omega
  rw [e1, e2]
  have h3 := Nat.shiftLeft_add_eq_or_of_lt (b := c.toNat) (i := 8) (by omega) (n % 72057594037927936).toNat
  rw [Nat.shiftLeft_eq, show 2 ^ 8 = 256 from rfl] at h3
  rw [← h3]
  omega
/-- A loop that ends early at the first index that something holds of. -/
theorem loop_all {R : Type} (F : Nat → Int → Option R) (m : Nat) (p : Nat → Bool) (no : R) (yes : Nat → R)
    (h0 : ∀ n, F (n + 1) (m : Int) = some no) (h1 : ∀ n i, i < m → p i = true → F (n + 1) (i : Int) = some (yes i))
    (h2 : ∀ n i, i < m → p i = false → F (n + 1) (i : Int) = F n ((i + 1 : Nat) : Int)) (n : Nat) (hn : m < n) :
    ((∀ i, i < m → p i = false) ∧ F n 0 = some no) ∨ (∃ i, i < m ∧ p i = true ∧ F n 0 = some (yes i)) := by
  have go : ∀ n i, i ≤ m → m - i < n → ((∀ j, i ≤ j → j < m → p j = false) ∧ F n (i : Int) = some no) ∨ (∃ j, i ≤ j ∧ j < m ∧ p j = true ∧ F n (i : Int) = some (yes j)) := by
    intro n
    induction n with
    | zero => intro i h h'; omega
    | succ n ih =>
      intro i hi hn
      by_cases hlt : i < m
      · cases hp : p i with
        | true => exact .inr ⟨i, Nat.le_refl _, hlt, hp, h1 n i hlt hp⟩
        | false =>
          rw [h2 n i hlt hp]
          rcases ih (i + 1) hlt (by omega) with ⟨h, e⟩ | ⟨j, hj, hj2, hpj, e⟩
          · refine .inl ⟨fun j hj hj2 => ?_, e⟩
            by_cases hij : j = i
            · rw [hij]; exact hp
            · exact h j (by omega) hj2
          · exact .inr ⟨j, by omega, hj2, hpj, e⟩
      · obtain rfl : i = m := by omega
        exact .inl ⟨fun j hj hj2 => by omega, h0 n⟩
  rcases go n 0 (Nat.zero_le _) (by omega) with ⟨h, e⟩ | ⟨j, _, hj, hp, e⟩
  · exact .inl ⟨fun j hj => h j (Nat.zero_le _) hj, e⟩
  · exact .inr ⟨j, hj, hp, e⟩
/-- The same of a list's items. -/
theorem loop_any {α R : Type} (F : Nat → Int → Option R) (l : List α) (p : α → Bool) (no : R) (yes : Nat → R)
    (h0 : ∀ n, F (n + 1) ((l.length : Nat) : Int) = some no) (h1 : ∀ n i (h : i < l.length), p l[i] = true → F (n + 1) (i : Int) = some (yes i))
    (h2 : ∀ n i (h : i < l.length), p l[i] = false → F (n + 1) (i : Int) = F n ((i + 1 : Nat) : Int)) (n : Nat) (hn : l.length < n) :
    (l.any p = false ∧ F n 0 = some no) ∨ (l.any p = true ∧ ∃ i, i < l.length ∧ F n 0 = some (yes i)) := by
  rcases loop_all F l.length (fun i => if h : i < l.length then p l[i] else false) no yes h0 (fun n i h hp => h1 n i h (by simpa [h] using hp)) (fun n i h hp => h2 n i h (by simpa [h] using hp)) n hn with ⟨h, e⟩ | ⟨i, hi, hp, e⟩
  · refine .inl ⟨?_, e⟩
    rw [List.any_eq_false]
    intro x hx
    obtain ⟨i, hi, rfl⟩ := List.getElem_of_mem hx
    have := h i hi
    simp only [hi, dif_pos] at this
    simp [this]
  · refine .inr ⟨?_, i, hi, e⟩
    rw [List.any_eq_true]
    simp only [hi, dif_pos] at hp
    exact ⟨l[i], List.getElem_mem hi, hp⟩
/-- A loop that keeps something. -/
theorem loop_inv {S R : Type} (F : Nat → Int → S → Option R) (m : Nat) (I : Nat → S → Prop) (Q : R → Prop)
    (h0 : ∀ n s, I m s → ∃ r, F (n + 1) (m : Int) s = some r ∧ Q r)
    (h1 : ∀ n i s, i < m → I i s → (∃ r, F (n + 1) (i : Int) s = some r ∧ Q r) ∨ ∃ s', I (i + 1) s' ∧ F (n + 1) (i : Int) s = F n ((i + 1 : Nat) : Int) s') (n : Nat) (s : S) (hn : m < n) (hI : I 0 s) : ∃ r, F n 0 s = some r ∧ Q r := by
  have go : ∀ n i s, i ≤ m → m - i < n → I i s → ∃ r, F n (i : Int) s = some r ∧ Q r := by
    intro n
    induction n with
    | zero => intro i s a b; omega
    | succ n ih =>
      intro i s a b hI
      by_cases hi : i < m
      · rcases h1 n i s hi hI with h | ⟨s', hI', e⟩
        · exact h
        · rw [e]
          exact ih (i + 1) s' (by omega) (by omega) hI'
      · obtain rfl : i = m := by omega
        exact h0 n s hI
  exact go n 0 s (Nat.zero_le _) (by omega) hI
theorem all_append {α : Type} {P : α → Prop} {l : List α} {a : α} (h : ∀ x ∈ l, P x) (ha : P a) : ∀ x ∈ l ++ [a], P x := fun x hx => by
  rcases List.mem_append.1 hx with hx | hx
  · exact h x hx
  · rw [List.mem_singleton.1 hx]
    exact ha
theorem nz {n : Nat} (h : 0 < n) : (((n : Nat) : Int) == 0) = false := beq_false_of_ne (by omega)
end Go.Proofs.YtdgdeckaoajceaaE
/- Texts and their scalars: plain. Conditions: none. -/
set_option linter.unusedVariables false
set_option linter.unusedSimpArgs false
namespace Go.Proofs.YtdgdeckaoajceaaU
open Go.Proofs.YtdgdeckaoajceaaE (byteAt bstr rune width)
abbrev bt (s : ByteArray) (i : Int) : Int := byteAt s i
theorem data_length (s : ByteArray) : s.data.toList.length = s.size := Array.length_toList
theorem get?_eq (s : ByteArray) (i : Nat) : s[i]? = s.data.toList[i]? := by
  by_cases h : i < s.size
  · have h2 : i < s.data.toList.length := by rw [data_length]; exact h
    rw [List.getElem?_eq_getElem h2, getElem?_pos s i h]
    rfl
  · have h2 : s.data.toList.length ≤ i := by rw [data_length]; omega
    rw [List.getElem?_eq_none h2, getElem?_neg s i h]
theorem bt_nat (s : ByteArray) (i : Nat) : bt s (i : Int) = ((s.data.toList.getD i 0).toNat : Int) := by
  show ((s[(i : Int).toNat]?).map fun u => (u.toNat : Int)).getD 0 = _
  rw [Int.toNat_natCast, get?_eq, List.getD_eq_getElem?_getD]
  cases s.data.toList[i]? <;> rfl
theorem bt_range (s : ByteArray) (i : Int) : 0 ≤ bt s i ∧ bt s i ≤ 255 := by
  have := Go.Proofs.YtdgdeckaoajceaaE.byteAt_range s i
  exact this
def manyB (c : Int) : Int := if 194 ≤ c ∧ c ≤ 223 then 1 else if 224 ≤ c ∧ c ≤ 239 then 2 else if 240 ≤ c ∧ c ≤ 244 then 3 else 0
def loB (c : Int) : Int := if c = 224 then 160 else if c = 240 then 144 else 128
def hiB (c : Int) : Int := if c = 237 then 159 else if c = 244 then 143 else 191
def mayB (c : Int) (n : Int) (d : Int) : Bool := if n = 0 then decide (loB c ≤ d) && decide (d ≤ hiB c) else decide (128 ≤ d) && decide (d ≤ 191)
/-- From so many on: how many follow. -/
def longFrom (s : ByteArray) : Nat → Int → Int
  | 0, n => n
  | k + 1, n => if n < manyB (bt s 0) ∧ n + 1 < (s.size : Int) ∧ mayB (bt s 0) n (bt s (n + 1)) = true then longFrom s k (n + 1) else n
def longN (s : ByteArray) : Int := longFrom s 3 0 + 1
theorem bt_extract (s : ByteArray) (p : Nat) (i : Int) (h0 : 0 ≤ i) : bt (s.extract p s.size) i = bt s (p + i) := by
  obtain ⟨n, rfl⟩ := Int.eq_ofNat_of_zero_le h0
  rw [show ((p : Int) + (n : Int)) = ((p + n : Nat) : Int) from by omega, bt_nat, bt_nat]
  congr 2
  rw [ByteArray.data_extract, Array.toList_extract]
  simp only [List.extract_eq_take_drop, List.getD_eq_getElem?_getD, List.getElem?_take, List.getElem?_drop]
  split
  · rfl
  · rename_i hn
    rw [List.getElem?_eq_none (by rw [data_length]; omega)]
theorem extract_size (s : ByteArray) (p : Nat) : (s.extract p s.size).size = s.size - p := by simp
theorem bt_append (s t : ByteArray) (i : Nat) : bt (s ++ t) (i : Int) = if i < s.size then bt s (i : Int) else bt t ((i - s.size : Nat) : Int) := by
  rw [bt_nat, bt_nat, bt_nat]
  have h : (s ++ t).data.toList = s.data.toList ++ t.data.toList := by simp
  rw [h, List.getD_eq_getElem?_getD, List.getElem?_append, data_length]
  split <;> simp [List.getD_eq_getElem?_getD]

/-! ### the first scalar of some bytes, and how many bytes it has -/
def cont (b : Int) : Prop := 128 ≤ b ∧ b ≤ 191
instance (b : Int) : Decidable (cont b) := inferInstanceAs (Decidable (_ ∧ _))
def nxL (av b0 b1 b2 b3 : Int) : Int × Int :=
  if b0 < 128 then (b0, 1)
  else if 194 ≤ b0 ∧ b0 ≤ 223 then (if 1 < av ∧ cont b1 then (b0 % 32 * 64 + b1 % 64, 2) else (65533, 1))
  else if 224 ≤ b0 ∧ b0 ≤ 239 then
    (if 1 < av ∧ loB b0 ≤ b1 ∧ b1 ≤ hiB b0 then (if 2 < av ∧ cont b2 then (b0 % 16 * 4096 + b1 % 64 * 64 + b2 % 64, 3) else (65533, 2)) else (65533, 1))
  else if 240 ≤ b0 ∧ b0 ≤ 244 then
    (if 1 < av ∧ loB b0 ≤ b1 ∧ b1 ≤ hiB b0 then (if 2 < av ∧ cont b2 then (if 3 < av ∧ cont b3 then (b0 % 8 * 262144 + b1 % 64 * 4096 + b2 % 64 * 64 + b3 % 64, 4) else (65533, 3)) else (65533, 2)) else (65533, 1))
  else (65533, 1)
def nx (s : ByteArray) (p : Nat) : Int × Int := nxL ((s.size : Int) - p) (bt s p) (bt s (p + 1)) (bt s (p + 2)) (bt s (p + 3))
theorem nx_extract (s : ByteArray) (p : Nat) (h : p ≤ s.size) : nx (s.extract p s.size) 0 = nx s p := by
  unfold nx
  rw [show ((0 : Nat) : Int) = 0 from rfl, Int.zero_add, Int.zero_add, Int.zero_add, Int.sub_zero]
  rw [bt_extract s p 0 (by omega), bt_extract s p 1 (by omega), bt_extract s p 2 (by omega), bt_extract s p 3 (by omega), extract_size, Int.add_zero]
  congr 1
  omega
theorem nxL_len (av b0 b1 b2 b3 : Int) (h : 0 < av) : 1 ≤ (nxL av b0 b1 b2 b3).2 ∧ (nxL av b0 b1 b2 b3).2 ≤ 4 ∧ (nxL av b0 b1 b2 b3).2 ≤ av := by
  unfold nxL
  repeat' split
  all_goals first | (simp only []; omega) | (rename_i h1; simp only []; omega)

/-- 'long': how many bytes. -/
theorem long_nx (s : ByteArray) (h : 0 < s.size) : longN s = (nx s 0).2 := by
  have hb := bt_range s 0
  unfold longN nx
  rw [show ((0 : Nat) : Int) = 0 from rfl, Int.zero_add, Int.zero_add, Int.zero_add, Int.sub_zero]
  simp only [longFrom, Int.zero_add, show (1 : Int) + 1 = 2 from rfl, show (2 : Int) + 1 = 3 from rfl]
  generalize bt s 0 = b0 at *
  generalize bt s 1 = b1 at *
  generalize bt s 2 = b2 at *
  generalize bt s 3 = b3 at *
  have e1 : mayB b0 0 b1 = true ↔ loB b0 ≤ b1 ∧ b1 ≤ hiB b0 := by simp [mayB]
  have e2 : mayB b0 1 b2 = true ↔ cont b2 := by simp [mayB, cont]
  have e3 : mayB b0 2 b3 = true ↔ cont b3 := by simp [mayB, cont]
  simp only [e1, e2, e3]
  unfold nxL
  by_cases h1 : b0 < 128
  · have hm : manyB b0 = 0 := by unfold manyB; repeat' split <;> omega
    rw [hm, if_pos h1]
    rfl
  by_cases h2 : 194 ≤ b0 ∧ b0 ≤ 223
  · have hm : manyB b0 = 1 := by unfold manyB; rw [if_pos h2]
    have hl : loB b0 = 128 := by unfold loB; repeat' split <;> omega
    have hh : hiB b0 = 191 := by unfold hiB; repeat' split <;> omega
    rw [hm, if_neg h1, if_pos h2, hl, hh]
    have e4 : cont b1 ↔ (128 ≤ b1 ∧ b1 ≤ 191) := Iff.rfl
    simp only [e4]
    by_cases hA : (128 : Int) ≤ b1 ∧ b1 ≤ 191 <;> by_cases hS : 1 < (s.size : Int) <;> simp [hA, hS]
  by_cases h3 : 224 ≤ b0 ∧ b0 ≤ 239
  · have hm : manyB b0 = 2 := by unfold manyB; rw [if_neg h2, if_pos h3]
    rw [hm, if_neg h1, if_neg h2, if_pos h3]
    by_cases hA : loB b0 ≤ b1 ∧ b1 ≤ hiB b0 <;> by_cases hB : cont b2 <;> by_cases hS : 1 < (s.size : Int) <;> by_cases hS2 : 2 < (s.size : Int) <;> simp [hA, hB, hS, hS2]
  by_cases h4 : 240 ≤ b0 ∧ b0 ≤ 244
  · have hm : manyB b0 = 3 := by unfold manyB; rw [if_neg h2, if_neg h3, if_pos h4]
    rw [hm, if_neg h1, if_neg h2, if_neg h3, if_pos h4]
    by_cases hA : loB b0 ≤ b1 ∧ b1 ≤ hiB b0 <;> by_cases hB : cont b2 <;> by_cases hC : cont b3 <;> by_cases hS : 1 < (s.size : Int) <;> by_cases hS2 : 2 < (s.size : Int) <;> by_cases hS3 : 3 < (s.size : Int) <;> simp [hA, hB, hC, hS, hS2, hS3]
  · have hm : manyB b0 = 0 := by unfold manyB; rw [if_neg h2, if_neg h3, if_neg h4]
    rw [hm, if_neg h1, if_neg h2, if_neg h3, if_neg h4]
    rfl

/-! ### the model's own decode -/
theorem get_bt (s : ByteArray) (i : Nat) : ((s.get! i).toNat : Int) = bt s (i : Int) := by
  rw [bt_nat]
  congr 2
  show s.data[i]! = _
  rw [List.getD_eq_getElem?_getD, Array.getElem!_eq_getD, Array.getD_eq_getD_getElem?, Array.getElem?_toList]
  rfl
def dec0 (av n0 n1 n2 n3 : Nat) : Nat × Nat :=
  if n0 < 128 then (n0, 1)
  else if n0 / 32 = 6 ∧ 1 < av ∧ n1 / 64 = 2 then
    (if n0 % 32 * 64 + n1 % 64 ≥ 128 then (n0 % 32 * 64 + n1 % 64, 2) else (65533, 1))
  else if n0 / 16 = 14 ∧ (1 < av ∧ n1 / 64 = 2) ∧ 2 < av ∧ n2 / 64 = 2 then
    (if n0 % 16 * 4096 + n1 % 64 * 64 + n2 % 64 ≥ 2048 ∧ Utf8.valid ((n0 % 16 * 4096 + n1 % 64 * 64 + n2 % 64 : Nat) : Int) = true then (n0 % 16 * 4096 + n1 % 64 * 64 + n2 % 64, 3) else (65533, 1))
  else if n0 / 8 = 30 ∧ (1 < av ∧ n1 / 64 = 2) ∧ (2 < av ∧ n2 / 64 = 2) ∧ 3 < av ∧ n3 / 64 = 2 then
    (if n0 % 8 * 262144 + n1 % 64 * 4096 + n2 % 64 * 64 + n3 % 64 ≥ 65536 ∧ Utf8.valid ((n0 % 8 * 262144 + n1 % 64 * 4096 + n2 % 64 * 64 + n3 % 64 : Nat) : Int) = true then (n0 % 8 * 262144 + n1 % 64 * 4096 + n2 % 64 * 64 + n3 % 64, 4) else (65533, 1))
  else (65533, 1)
theorem decode_dec0 (s : ByteArray) (p : Nat) : Utf8.decode s p = dec0 (s.size - p) (s.get! (p + 0)).toNat (s.get! (p + 1)).toNat (s.get! (p + 2)).toNat (s.get! (p + 3)).toNat := by
  have e1 : p + 1 < s.size ↔ 1 < s.size - p := by omega
  have e2 : p + 2 < s.size ↔ 2 < s.size - p := by omega
  have e3 : p + 3 < s.size ↔ 3 < s.size - p := by omega
  unfold Utf8.decode dec0
  simp only [Bool.and_eq_true, decide_eq_true_eq, beq_iff_eq, and_assoc, e1, e2, e3, Utf8.runeError]
theorem valid_iff (n : Nat) : Utf8.valid (n : Int) = true ↔ n < 55296 ∨ (57344 ≤ n ∧ n ≤ 1114111) := by
  simp only [Utf8.valid, Bool.or_eq_true, Bool.and_eq_true, decide_eq_true_eq]
  omega
/-- What the model's own decode says of the first scalar, against what the document says. -/
def GoodD (b1 b2 : Int) (x : Nat × Nat) (y : Int × Int) : Prop := (x.1 : Int) = y.1 ∧ ((x.2 : Int) = y.2 ∨ x.2 = 1 ∧ (y.2 = 1 ∨ y.2 = 2 ∧ cont b1 ∨ y.2 = 3 ∧ cont b1 ∧ cont b2))
theorem dec0_nxL (av n0 n1 n2 n3 : Nat) (h0 : n0 < 256) (h1 : n1 < 256) (h2 : n2 < 256) (h3 : n3 < 256) : GoodD n1 n2 (dec0 av n0 n1 n2 n3) (nxL av n0 n1 n2 n3) := by
  unfold dec0 nxL
  simp only [valid_iff]
  by_cases c0 : n0 < 128
  · have c0' : (n0 : Int) < 128 := by omega
    rw [if_pos c0, if_pos c0']
    exact ⟨rfl, .inl rfl⟩
  have c0' : ¬ (n0 : Int) < 128 := by omega
  rw [if_neg c0, if_neg c0']
  by_cases c1 : 194 ≤ (n0 : Int) ∧ (n0 : Int) ≤ 223
  · rw [if_pos c1]
    have d2 : ¬ (n0 / 16 = 14 ∧ (1 < av ∧ n1 / 64 = 2) ∧ 2 < av ∧ n2 / 64 = 2) := by omega
    have d3 : ¬ (n0 / 8 = 30 ∧ (1 < av ∧ n1 / 64 = 2) ∧ (2 < av ∧ n2 / 64 = 2) ∧ 3 < av ∧ n3 / 64 = 2) := by omega
    rw [if_neg d2, if_neg d3]
    repeat' split
    all_goals (simp only [GoodD, cont, true_and] at *; omega)
  rw [if_neg c1]
  by_cases c2 : 224 ≤ (n0 : Int) ∧ (n0 : Int) ≤ 239
  · rw [if_pos c2]
    have d1 : ¬ (n0 / 32 = 6 ∧ 1 < av ∧ n1 / 64 = 2) := by omega
    have d3 : ¬ (n0 / 8 = 30 ∧ (1 < av ∧ n1 / 64 = 2) ∧ (2 < av ∧ n2 / 64 = 2) ∧ 3 < av ∧ n3 / 64 = 2) := by omega
    rw [if_neg d1, if_neg d3]
    have e : (loB n0 ≤ (n1 : Int) ∧ (n1 : Int) ≤ hiB n0) ↔ (if (n0 : Int) = 224 then 160 ≤ (n1 : Int) ∧ (n1 : Int) ≤ 191 else if (n0 : Int) = 237 then 128 ≤ (n1 : Int) ∧ (n1 : Int) ≤ 159 else 128 ≤ (n1 : Int) ∧ (n1 : Int) ≤ 191) := by
      unfold loB hiB
      repeat' split
      all_goals omega
    simp only [e]
    clear e
    by_cases f1 : (n0 : Int) = 224
    · simp only [if_pos f1]
      repeat' split
      all_goals (simp only [GoodD, cont, true_and] at *; omega)
    by_cases f2 : (n0 : Int) = 237
    · simp only [if_neg f1, if_pos f2]
      repeat' split
      all_goals (simp only [GoodD, cont, true_and] at *; omega)
    simp only [if_neg f1, if_neg f2]
    repeat' split
    all_goals (simp only [GoodD, cont, true_and] at *; omega)
  rw [if_neg c2]
  have d1 : ¬ (n0 / 16 = 14 ∧ (1 < av ∧ n1 / 64 = 2) ∧ 2 < av ∧ n2 / 64 = 2) := by omega
  rw [if_neg d1]
  by_cases c3 : 240 ≤ (n0 : Int) ∧ (n0 : Int) ≤ 244
  · rw [if_pos c3]
    have d1 : ¬ (n0 / 32 = 6 ∧ 1 < av ∧ n1 / 64 = 2) := by omega
    rw [if_neg d1]
    have e : (loB n0 ≤ (n1 : Int) ∧ (n1 : Int) ≤ hiB n0) ↔ (if (n0 : Int) = 240 then 144 ≤ (n1 : Int) ∧ (n1 : Int) ≤ 191 else if (n0 : Int) = 244 then 128 ≤ (n1 : Int) ∧ (n1 : Int) ≤ 143 else 128 ≤ (n1 : Int) ∧ (n1 : Int) ≤ 191) := by
      unfold loB hiB
      repeat' split
      all_goals omega
    simp only [e]
    clear e
    by_cases f1 : (n0 : Int) = 240
    · simp only [if_pos f1]
      repeat' split
      all_goals (simp only [GoodD, cont, true_and] at *; omega)
    by_cases f2 : (n0 : Int) = 244
    · simp only [if_neg f1, if_pos f2]
      repeat' split
      all_goals (simp only [GoodD, cont, true_and] at *; omega)
    simp only [if_neg f1, if_neg f2]
    repeat' split
    all_goals (simp only [GoodD, cont, true_and] at *; omega)
  rw [if_neg c3]
  repeat' split
  all_goals (simp only [GoodD, cont, true_and] at *; omega)
theorem decode_nx (s : ByteArray) (p : Nat) (h : p ≤ s.size) : GoodD (bt s (p + 1)) (bt s (p + 2)) (Utf8.decode s p) (nx s p) := by
  have g0 := get_bt s (p + 0)
  have g1 := get_bt s (p + 1)
  have g2 := get_bt s (p + 2)
  have g3 := get_bt s (p + 3)
  rw [decode_dec0]
  unfold nx
  rw [show ((p : Int)) = ((p + 0 : Nat) : Int) from by omega, ← g0, show (((p + 0 : Nat) : Int) + 1) = ((p + 1 : Nat) : Int) from by omega, show (((p + 0 : Nat) : Int) + 2) = ((p + 2 : Nat) : Int) from by omega, show (((p + 0 : Nat) : Int) + 3) = ((p + 3 : Nat) : Int) from by omega, ← g1, ← g2, ← g3]
  rw [show ((s.size : Int) - ((p + 0 : Nat) : Int)) = ((s.size - p : Nat) : Int) from by omega]
  exact dec0_nxL _ _ _ _ _ (UInt8.toNat_lt _) (UInt8.toNat_lt _) (UInt8.toNat_lt _) (UInt8.toNat_lt _)
def decGo (s : ByteArray) : Nat → Nat → Int → List Int → List Int → List Int × List Int
  | 0, _, _, xs, ys => (xs, ys)
  | k + 1, pos, nx, xs, ys => if pos < s.size then (if (pos : Int) < nx then decGo s k (pos + (Utf8.decode s pos).2) nx xs ys else decGo s k (pos + (Utf8.decode s pos).2) (pos + longN (s.extract pos s.size)) (xs ++ [((Utf8.decode s pos).1 : Int)]) (ys ++ [(pos : Int)])) else (xs, ys)
theorem width_pos (s : ByteArray) (pos : Nat) (h : pos < s.size) : 1 ≤ (Utf8.decode s pos).2 := by
  by_cases ha : (s[pos]'h).toNat < 128
  · rw [decode_ascii s pos h ha]
    exact Nat.le_refl _
  · exact (decode_high s pos h (by omega)).2
/-! ### what Decode tells -/
theorem nx_len (s : ByteArray) (p : Nat) (h : p < s.size) : 1 ≤ (nx s p).2 ∧ (nx s p).2 ≤ 4 ∧ (p : Int) + (nx s p).2 ≤ s.size := by
  have := nxL_len ((s.size : Int) - p) (bt s p) (bt s (p + 1)) (bt s (p + 2)) (bt s (p + 3)) (by omega)
  unfold nx
  omega
/-- The scalars from a place on, and where they begin. -/
def dec (s : ByteArray) : Nat → Nat → List (Int × Int)
  | 0, _ => []
  | k + 1, p => if p < s.size then ((nx s p).1, (p : Int)) :: dec s k (p + (nx s p).2.toNat) else []
theorem dec_more (s : ByteArray) : ∀ (k p j : Nat), s.size ≤ p + k → dec s (k + j) p = dec s k p
  | 0, p, j, h => by
    cases j with
    | zero => rfl
    | succ j => simp only [Nat.zero_add, dec]; rw [if_neg (by omega)]
  | k + 1, p, j, h => by
    rw [show k + 1 + j = (k + j) + 1 from by omega]
    simp only [dec]
    by_cases hp : p < s.size
    · have h1 := nx_len s p hp
      rw [if_pos hp, if_pos hp, dec_more s k _ j (by omega)]
    · rw [if_neg hp, if_neg hp]
theorem dec_same (s : ByteArray) (k j p : Nat) (hk : s.size ≤ p + k) (hj : s.size ≤ p + j) : dec s k p = dec s j p := by
  rcases Nat.le_total k j with h | h
  · obtain ⟨d, rfl⟩ := Nat.exists_eq_add_of_le h
    exact (dec_more s k p d hk).symm
  · obtain ⟨d, rfl⟩ := Nat.exists_eq_add_of_le h
    exact dec_more s j p d hj
/-- All of them. -/
def scal (s : ByteArray) : List Int := (dec s s.size 0).map (·.1)
def offs (s : ByteArray) : List Int := (dec s s.size 0).map (·.2) ++ [(s.size : Int)]

theorem cont_width (s : ByteArray) (p : Nat) (h : p < s.size) (hc : cont (bt s p)) : (Utf8.decode s p).2 = 1 := by
  have hg := decode_nx s p (by omega)
  have hn : nx s p = (65533, 1) := by
    unfold nx nxL
    unfold cont at hc
    rw [if_neg (by omega), if_neg (by omega), if_neg (by omega), if_neg (by omega)]
  rw [hn] at hg
  unfold GoodD at hg
  simp only at hg
  omega
theorem decGo_eq (s : ByteArray) : ∀ (k pos q : Nat) (xs ys : List Int), s.size < pos + k → (pos ≤ q → q ≤ s.size) → (∀ j : Nat, pos ≤ j → j < q → cont (bt s j)) → ∀ m, s.size ≤ max pos q + m →
    decGo s k pos (q : Int) xs ys = (xs ++ (dec s m (max pos q)).map (·.1), ys ++ (dec s m (max pos q)).map (·.2))
  | 0, pos, q, xs, ys, hk, hq, hc, m, hm => by
    have hp : ¬ max pos q < s.size := by omega
    cases m with
    | zero => simp [decGo, dec]
    | succ m => simp [decGo, dec, hp]
  | k + 1, pos, q, xs, ys, hk, hq, hc, m, hm => by
    rw [decGo]
    by_cases hp : pos < s.size
    · rw [if_pos hp]
      have hw := width_pos s pos hp
      by_cases hlt : (pos : Int) < q
      · rw [if_pos hlt]
        have hlt' : pos < q := by omega
        have h1 := cont_width s pos hp (hc pos (Nat.le_refl _) hlt')
        rw [h1]
        have e1 : max (pos + 1) q = max pos q := by omega
        have := decGo_eq s k (pos + 1) q xs ys (by omega) (fun _ => hq (by omega)) (fun j hj => hc j (by omega)) m (by omega)
        rw [this, e1]
      · rw [if_neg hlt]
        have hge : q ≤ pos := by omega
        have e0 : max pos q = pos := by omega
        rw [e0] at hm ⊢
        have hg := decode_nx s pos (by omega)
        have hn := nx_len s pos hp
        have hl : longN (s.extract pos s.size) = (nx s pos).2 := by
          rw [long_nx _ (by rw [extract_size]; omega), nx_extract s pos (by omega)]
        rw [hl]
        obtain ⟨n, hn2⟩ : ∃ n : Nat, (nx s pos).2 = (n : Int) := ⟨(nx s pos).2.toNat, by omega⟩
        have hg2 := hg.2
        rw [hn2] at hg2 hn ⊢
        rw [hg.1, show ((pos : Int) + (n : Int)) = ((pos + n : Nat) : Int) from by omega]
        cases m with
        | zero => omega
        | succ m =>
          have hd : dec s (m + 1) pos = ((nx s pos).1, (pos : Int)) :: dec s m (pos + n) := by
            rw [dec, if_pos hp, hn2, Int.toNat_natCast]
          have e2 : max (pos + (Utf8.decode s pos).2) (pos + n) = pos + n := by omega
          have hcc : ∀ j : Nat, pos + (Utf8.decode s pos).2 ≤ j → j < pos + n → cont (bt s j) := by
            intro j h1 h2
            rcases hg2 with h3 | ⟨h3, h4 | ⟨h4, h5⟩ | ⟨h4, h5, h6⟩⟩
            · omega
            · omega
            · have : (j : Int) = pos + 1 := by omega
              rw [this]; exact h5
            · rcases (by omega : j = pos + 1 ∨ j = pos + 2) with rfl | rfl
              · exact h5
              · exact h6
          have := decGo_eq s k (pos + (Utf8.decode s pos).2) (pos + n) (xs ++ [(nx s pos).1]) (ys ++ [(pos : Int)]) (by omega) (fun _ => by omega) hcc m (by omega)
          rw [this, e2, hd]
          simp
    · rw [if_neg hp]
      have hp2 : ¬ max pos q < s.size := by omega
      cases m with
      | zero => simp [dec]
      | succ m => simp [dec, hp2]
/-! ### within -/
def win (a n : Int) : Int := if Int.tmod a n < 0 then Int.tmod a n + n else Int.tmod a n
theorem win_range (a n : Int) (h : 0 < n) : 0 ≤ win a n ∧ win a n < n := by
  have h1 := Int.tmod_lt_of_pos a h
  have h2 := Int.lt_tmod_of_pos a h
  unfold win
  split <;> omega
/-! ### Encode -/
/-- Scalars as bytes. -/
def encL (l : List Int) : List UInt8 := l.flatMap fun n => (Utf8.encode n).data.toList
theorem encode_bad (n : Int) (h : Utf8.valid n = false) : Utf8.encode n = Utf8.encode 65533 := by
  unfold Utf8.encode
  rw [h, show Utf8.valid 65533 = true from by decide]
  simp [Utf8.runeError]
theorem valid_int (n : Int) : Utf8.valid n = true ↔ (0 ≤ n ∧ n < 55296) ∨ (57344 ≤ n ∧ n ≤ 1114111) := by
  simp only [Utf8.valid, Bool.or_eq_true, Bool.and_eq_true, decide_eq_true_eq, ge_iff_le]
theorem encode_size (n : Int) : 1 ≤ (Utf8.encode n).size ∧ (Utf8.encode n).size ≤ 4 := by
  unfold Utf8.encode
  simp only []
  generalize (if Utf8.valid n = true then n.toNat else Utf8.runeError) = c
  repeat' split
  all_goals simp [ByteArray.size]
theorem encL_length (l : List Int) : l.length ≤ (encL l).length ∧ (encL l).length ≤ 4 * l.length := by
  induction l with
  | nil => simp [encL]
  | cons n l ih =>
    have h := encode_size n
    have h2 : (Utf8.encode n).data.toList.length = (Utf8.encode n).size := data_length _
    simp only [encL, List.flatMap_cons, List.length_append, List.length_cons, h2] at *
    omega
theorem encL_append (l m : List Int) : encL (l ++ m) = encL l ++ encL m := by simp [encL]
/-- Bytes as a string. -/
def str (l : List UInt8) : ByteArray := ⟨l.toArray⟩
theorem str_data (l : List UInt8) : (str l).data.toList = l := rfl
theorem str_size (l : List UInt8) : (str l).size = l.length := by rw [← data_length, str_data]
theorem str_of (s : ByteArray) : str s.data.toList = s := rfl
theorem str_append (l m : List UInt8) : str l ++ str m = str (l ++ m) := by
  apply ByteArray.ext
  rw [ByteArray.data_append]
  simp [str]
/-! ### a scalar's bytes are read as that scalar -/
def enc1 (n : Nat) : List Nat :=
  if n < 128 then [n] else if n < 2048 then [192 + n / 64, 128 + n % 64] else if n < 65536 then [224 + n / 4096, 128 + n / 64 % 64, 128 + n % 64] else [240 + n / 262144, 128 + n / 4096 % 64, 128 + n / 64 % 64, 128 + n % 64]
theorem encode_enc1 (n : Nat) (hv : Utf8.valid (n : Int) = true) : (Utf8.encode n).data.toList = (enc1 n).map UInt8.ofNat := by
  have e : (if Utf8.valid (n : Int) = true then (n : Int).toNat else Utf8.runeError) = n := by rw [if_pos hv, Int.toNat_natCast]
  unfold Utf8.encode
  simp only [e]
  clear e hv
  unfold enc1
  by_cases h1 : n < 128
  · rw [if_pos h1, if_pos h1, List.map_cons, List.map_nil]
  rw [if_neg h1, if_neg h1]
  by_cases h2 : n < 2048
  · rw [if_pos h2, if_pos h2, List.map_cons, List.map_cons, List.map_nil]
  rw [if_neg h2, if_neg h2]
  by_cases h3 : n < 65536
  · rw [if_pos h3, if_pos h3, List.map_cons, List.map_cons, List.map_cons, List.map_nil]
  rw [if_neg h3, if_neg h3, List.map_cons, List.map_cons, List.map_cons, List.map_cons, List.map_nil]
theorem enc1_lt (n : Nat) (hn : n ≤ 1114111) : ∀ b ∈ enc1 n, b < 256 := by
  unfold enc1
  intro b hb
  by_cases h1 : n < 128
  · rw [if_pos h1] at hb
    simp only [List.mem_cons, List.not_mem_nil, or_false] at hb
    omega
  rw [if_neg h1] at hb
  by_cases h2 : n < 2048
  · rw [if_pos h2] at hb
    simp only [List.mem_cons, List.not_mem_nil, or_false] at hb
    omega
  rw [if_neg h2] at hb
  by_cases h3 : n < 65536
  · rw [if_pos h3] at hb
    simp only [List.mem_cons, List.not_mem_nil, or_false] at hb
    omega
  rw [if_neg h3] at hb
  simp only [List.mem_cons, List.not_mem_nil, or_false] at hb
  omega
/-- Where a scalar's bytes stand, that scalar is read. -/
theorem nx_encode (s : ByteArray) (p n : Nat) (hv : Utf8.valid (n : Int) = true) (hsz : p + (enc1 n).length ≤ s.size) (hb : ∀ i : Nat, i < (enc1 n).length → bt s ((p + i : Nat) : Int) = ((enc1 n).getD i 0 : Nat)) : nx s p = ((n : Int), ((enc1 n).length : Int)) := by
  have hn := (valid_iff n).1 hv
  have b0 := hb 0
  have b1 := hb 1
  have b2 := hb 2
  have b3 := hb 3
  rw [show ((p + 0 : Nat) : Int) = (p : Int) from by omega] at b0
  rw [show ((p + 1 : Nat) : Int) = (p : Int) + 1 from by omega] at b1
  rw [show ((p + 2 : Nat) : Int) = (p : Int) + 2 from by omega] at b2
  rw [show ((p + 3 : Nat) : Int) = (p : Int) + 3 from by omega] at b3
  unfold nx
  clear hb hv
  generalize bt s (p : Int) = c0 at *
  generalize bt s ((p : Int) + 1) = c1 at *
  generalize bt s ((p : Int) + 2) = c2 at *
  generalize bt s ((p : Int) + 3) = c3 at *
  unfold enc1 at hsz b0 b1 b2 b3 ⊢
  unfold nxL loB hiB cont
  by_cases h1 : n < 128
  · simp only [h1, if_true, List.length_cons, List.length_nil, List.getD_cons_zero] at hsz b0 b1 b2 b3 ⊢
    have e0 := b0 (by omega)
    rw [if_pos (by omega), e0]
    rfl
  simp only [h1, if_false] at hsz b0 b1 b2 b3 ⊢
  by_cases h2 : n < 2048
  · simp only [h2, if_true, List.length_cons, List.length_nil, List.getD_cons_zero, List.getD_cons_succ] at hsz b0 b1 b2 b3 ⊢
    have e0 := b0 (by omega)
    have e1 := b1 (by omega)
    rw [if_neg (by omega), if_pos (by omega), if_pos (by omega)]
    ext <;> simp only [] <;> omega
  simp only [h2, if_false] at hsz b0 b1 b2 b3 ⊢
  by_cases h3 : n < 65536
  · simp only [h3, if_true, List.length_cons, List.length_nil, List.getD_cons_zero, List.getD_cons_succ] at hsz b0 b1 b2 b3 ⊢
    have e0 := b0 (by omega)
    have e1 := b1 (by omega)
    have e2 := b2 (by omega)
    rw [if_neg (by omega), if_neg (by omega), if_pos (by omega)]
    have f1 : (1 < (s.size : Int) - p ∧ (if c0 = 224 then (160 : Int) else if c0 = 240 then 144 else 128) ≤ c1 ∧ c1 ≤ (if c0 = 237 then (159 : Int) else if c0 = 244 then 143 else 191)) := by
      repeat' split
      all_goals omega
    rw [if_pos f1, if_pos (by omega)]
    ext <;> simp only [] <;> omega
  · simp only [h3, if_false, List.length_cons, List.length_nil, List.getD_cons_zero, List.getD_cons_succ] at hsz b0 b1 b2 b3 ⊢
    have e0 := b0 (by omega)
    have e1 := b1 (by omega)
    have e2 := b2 (by omega)
    have e3 := b3 (by omega)
    rw [if_neg (by omega), if_neg (by omega), if_neg (by omega), if_pos (by omega)]
    have f1 : (1 < (s.size : Int) - p ∧ (if c0 = 224 then (160 : Int) else if c0 = 240 then 144 else 128) ≤ c1 ∧ c1 ≤ (if c0 = 237 then (159 : Int) else if c0 = 244 then 143 else 191)) := by
      repeat' split
      all_goals omega
    rw [if_pos f1, if_pos (by omega), if_pos (by omega)]
    ext <;> simp only [] <;> omega
/-! ### decoding what was encoded -/
def Scalars (l : List Int) : Prop := ∀ n ∈ l, Utf8.valid n = true
theorem bt_list (l : List UInt8) (i : Nat) : bt (str l) (i : Int) = ((l.getD i 0).toNat : Int) := bt_nat _ _
theorem nx_at (pre rest : List UInt8) (n : Int) (hv : Utf8.valid n = true) : nx (str (pre ++ ((Utf8.encode n).data.toList ++ rest))) pre.length = (n, ((Utf8.encode n).size : Int)) := by
  have h0 := (valid_int n).1 hv
  obtain ⟨m, rfl⟩ := Int.eq_ofNat_of_zero_le (show 0 ≤ n by omega)
  have he := encode_enc1 m hv
  have hl : (Utf8.encode (m : Int)).size = (enc1 m).length := by rw [← data_length, he, List.length_map]
  rw [hl]
  refine nx_encode _ _ _ hv ?_ ?_
  · rw [str_size, he]; simp
  · intro i hi
    rw [bt_list, he]
    have e1 : (pre ++ (List.map UInt8.ofNat (enc1 m) ++ rest)).getD (pre.length + i) 0 = UInt8.ofNat ((enc1 m).getD i 0) := by
      rw [List.getD_eq_getElem?_getD, List.getElem?_append_right (by omega), Nat.add_sub_cancel_left, List.getElem?_append_left (by simpa using hi), List.getElem?_map, List.getElem?_eq_getElem hi, List.getD_eq_getElem?_getD, List.getElem?_eq_getElem hi]
      rfl
    rw [e1]
    have h2 := enc1_lt m (by omega) ((enc1 m).getD i 0) (by rw [List.getD_eq_getElem?_getD, List.getElem?_eq_getElem hi]; exact List.getElem_mem hi)
    rw [UInt8.toNat_ofNat']
    omega
theorem dec_encL (rest : List UInt8) : ∀ (l : List Int) (pre : List UInt8), Scalars l → ∀ m j, (str (pre ++ (encL l ++ rest))).size ≤ pre.length + m → (str (pre ++ (encL l ++ rest))).size ≤ pre.length + (encL l).length + j →
    (dec (str (pre ++ (encL l ++ rest))) m pre.length).map (·.1) = l ++ (dec (str (pre ++ (encL l ++ rest))) j (pre.length + (encL l).length)).map (·.1)
  | [], pre, hs, m, j, hm, hj => by
    simp only [encL, List.flatMap_nil, List.nil_append, List.length_nil, Nat.add_zero] at *
    rw [dec_same _ m j _ hm hj]
  | n :: l, pre, hs, m, j, hm, hj => by
    have hsz := encode_size n
    have hv := hs n (by simp)
    have hlen : (Utf8.encode n).data.toList.length = (Utf8.encode n).size := data_length _
    have e : encL (n :: l) = (Utf8.encode n).data.toList ++ encL l := rfl
    have hnx := nx_at pre (encL l ++ rest) n hv
    rw [e, List.append_assoc] at hm hj ⊢
    have hz : (str (pre ++ ((Utf8.encode n).data.toList ++ (encL l ++ rest)))).size = pre.length + ((Utf8.encode n).size + ((encL l).length + rest.length)) := by rw [str_size]; simp only [List.length_append, hlen]
    cases m with
    | zero => omega
    | succ m =>
      rw [dec, if_pos (by omega), hnx, Int.toNat_natCast, List.map_cons]
      have ih := dec_encL rest l (pre ++ (Utf8.encode n).data.toList) (fun x hx => hs x (by simp [hx])) m j
      simp only [List.append_assoc, List.length_append, hlen] at ih
      rw [ih (by omega) (by simp only [List.length_append, hlen] at hj; omega)]
      simp only [List.cons_append, List.length_append, hlen, Nat.add_assoc]
theorem dec_nil (s : ByteArray) (m p : Nat) (h : s.size ≤ p) : dec s m p = [] := by
  cases m with
  | zero => rfl
  | succ m => rw [dec, if_neg (by omega)]
theorem scal_encL (l : List Int) (h : Scalars l) : scal (str (encL l)) = l := by
  have := dec_encL [] l [] h (str (encL l)).size (str (encL l)).size
  simp only [List.nil_append, List.append_nil, List.length_nil, Nat.zero_add] at this
  unfold scal
  rw [this (by omega) (by omega), dec_nil _ _ _ (by rw [str_size]; omega)]
  simp
theorem offs_length (s : ByteArray) : (offs s).length = (scal s).length + 1 := by simp [offs, scal]
theorem nx_shift (pre t : List UInt8) (p : Nat) : nx (str (pre ++ t)) (pre.length + p) = nx (str t) p := by
  have h : ∀ i : Nat, bt (str (pre ++ t)) ((pre.length + p + i : Nat) : Int) = bt (str t) ((p + i : Nat) : Int) := by
    intro i
    rw [bt_list, bt_list, List.getD_eq_getElem?_getD, List.getElem?_append_right (by omega), List.getD_eq_getElem?_getD, show pre.length + p + i - pre.length = p + i from by omega]
  have h0 := h 0
  have h1 := h 1
  have h2 := h 2
  have h3 := h 3
  unfold nx
  rw [show ((pre.length + p : Nat) : Int) + 1 = ((pre.length + p + 1 : Nat) : Int) from by omega, show ((pre.length + p : Nat) : Int) + 2 = ((pre.length + p + 2 : Nat) : Int) from by omega, show ((pre.length + p : Nat) : Int) + 3 = ((pre.length + p + 3 : Nat) : Int) from by omega, h1, h2, h3, show ((pre.length + p : Nat) : Int) = ((pre.length + p + 0 : Nat) : Int) from by omega, h0, str_size, str_size]
  rw [show ((p + 0 : Nat) : Int) = (p : Int) from by omega, show ((p + 1 : Nat) : Int) = (p : Int) + 1 from by omega, show ((p + 2 : Nat) : Int) = (p : Int) + 2 from by omega, show ((p + 3 : Nat) : Int) = (p : Int) + 3 from by omega]
  congr 1
  rw [List.length_append]
  omega
theorem dec_shift (pre t : List UInt8) : ∀ (m p : Nat), (dec (str (pre ++ t)) m (pre.length + p)).map (·.1) = (dec (str t) m p).map (·.1)
  | 0, p => rfl
  | m + 1, p => by
    simp only [dec, str_size, List.length_append, nx_shift]
    by_cases h : p < t.length
    · rw [if_pos (by omega), if_pos h, List.map_cons, List.map_cons, Nat.add_assoc, dec_shift pre t m]
    · rw [if_neg (by omega), if_neg h]
theorem scal_cat (l : List Int) (t : List UInt8) (h : Scalars l) : scal (str (encL l ++ t)) = l ++ scal (str t) := by
  have := dec_encL t l [] h (str (encL l ++ t)).size (str (encL l ++ t)).size
  simp only [List.nil_append, List.length_nil, Nat.zero_add] at this
  unfold scal
  rw [this (by omega) (by omega)]
  congr 1
  have h2 := dec_shift (encL l) t (str (encL l ++ t)).size 0
  rw [Nat.add_zero] at h2
  rw [h2, dec_same _ _ (str t).size 0 (by rw [str_size, str_size, List.length_append]; omega) (by omega)]

end Go.Proofs.YtdgdeckaoajceaaU
/- Plain laws of seg: the ground. Conditions: none. -/
set_option linter.unusedSimpArgs false
set_option linter.unusedVariables false
namespace Go.Proofs.YtdgdeckaoajceaaE
abbrev Tb := (List Int × (List Int × ((List (List Int) × (List Int × Unit)) × ((List (List Int) × (List (List (List Int)) × Unit)) × Unit))))
abbrev Bd : Nat := 1099511627776
theorem one_list {α : Type} (d x : α) : List.set (List.replicate 1 d) 0 x = [x] := (rfl : List.set [d] 0 x = [x]).trans rfl
theorem F44_eq (k : Nat) (a n : Int) (h0 : 0 < n) (h1 : n ≤ 4611686018427387904) : F44 k a n = some ((a % n, ()), ()) := by
  unfold F44
  rw [if_pos (by omega)]
  have ht := Int.tmod_eq_emod (a := a) (b := n)
  have hm := Int.emod_nonneg a (show n ≠ 0 by omega)
  have hm2 := Int.emod_lt_of_pos a h0
  by_cases hn : Int.tmod a n < 0
  · rw [decide_eq_true hn, cond_true]
    have hnat : (n.natAbs : Int) = n := by omega
    have : Int.tmod a n = a % n - n := by
      rw [ht]
      split
      · rename_i hc
        rw [ht, if_pos hc] at hn
        omega
      · omega
    rw [this, w64 _ (by omega) (by omega)]
    congr 3
    omega
  · rw [decide_eq_false hn, cond_false]
    have : Int.tmod a n = a % n := by
      rw [ht]
      split
      · omega
      · rename_i hc
        rw [ht, if_neg hc] at hn
        omega
    rw [this]
abbrev Z0 : Tb := (([] : (List Int)), (([] : (List Int)), ((([] : (List (List Int))), (([] : (List Int)), ())), ((([] : (List (List Int))), (([] : (List (List (List Int)))), ())), ()))))
end Go.Proofs.YtdgdeckaoajceaaE
/- Plain laws of tables (as in table). Conditions: none. -/
set_option linter.unusedSimpArgs false
set_option linter.unusedVariables false
namespace Go.Proofs.YtdgdeckaoajceaaE
/-- Letters as they first come: how many. -/
def inOrdL : Int → List Int → Option Int
  | n, [] => some n
  | n, a :: l => if a < 0 ∨ a > n then none else inOrdL (if a = n then n + 1 else n) l
theorem inOrdL_le : ∀ (l : List Int) (n m : Int), inOrdL n l = some m → n ≤ m ∧ m ≤ n + l.length
  | [], n, m, h => by injection h with h; subst h; simp
  | a :: l, n, m, h => by
    rw [inOrdL] at h
    split at h
    · cases h
    · have := inOrdL_le l _ m h
      rw [List.length_cons]
      split at this <;> omega
theorem inOrdL_max : ∀ (l : List Int) (n m : Int), inOrdL n l = some m → l.foldl maxI (n - 1) = m - 1
  | [], n, m, h => by injection h with h; subst h; rfl
  | a :: l, n, m, h => by
    rw [inOrdL] at h
    split at h
    · cases h
    · rename_i hc
      have := inOrdL_max l _ m h
      rw [List.foldl_cons]
      have e : maxI (n - 1) a = (if a = n then n + 1 else n) - 1 := by
        unfold maxI
        split <;> split <;> omega
      rw [e]
      exact this
theorem F61_eq (k : Nat) (l : List Int) (hk : l.length < k) (hl : l.length ≤ Bd) : F61 k l = some (((inOrdL 0 l).isSome, ()), ()) := by
  have hB : Bd = 1099511627776 := rfl
  have h := loop_list0 (fun n i s => F61_0 k n s l ((l.length : Nat) : Int) i) l (fun l s => bif (inOrdL s l).isSome then .inl ((), ()) else .inr ((false, ()), ())) (fun i s => 0 ≤ s ∧ s ≤ (i : Int))
    (fun n s hI => by simp only [F61_0, dnlt, cond_false, inOrdL, Option.isSome_some, cond_true])
    (fun n i s h hI => by
      simp only [F61_0, inR h, decide_true, cond_true, and_self, if_true, Int.toNat_natCast, getD_lt _ _ _ h, inOrdL]
      by_cases h1 : l[i] < 0
      · left
        rw [decide_eq_true h1, cond_true, if_pos (.inl h1)]
        rfl
      · by_cases h2 : l[i] > s
        · left
          rw [decide_eq_false h1, cond_false, decide_eq_true h2, cond_true, if_pos (.inr h2)]
          rfl
        · right
          have e : maxI s (l[i] + 1) = if l[i] = s then s + 1 else s := by
            unfold maxI
            split <;> split <;> omega
          refine ⟨if l[i] = s then s + 1 else s, ?_, ?_, ?_⟩
          · split <;> omega
          · rw [decide_eq_false h1, cond_false, decide_eq_false h2, cond_false, wsucc i _ h (by omega), w64 _ (by omega) (by omega), e]
            simp only [Option.bind_fun_some]
          · rw [if_neg (by omega)]) k 0 hk (by simp)
  unfold F61
  rw [h]
  cases (inOrdL 0 l).isSome <;> rfl
theorem F62_eq (k : Nat) (l : List Int) (hk : l.length < k) (hl : l.length ≤ Bd) (m : Int) (hm : inOrdL 0 l = some m) : F62 k l = some ((m, ()), ()) := by
  have hB : Bd = 1099511627776 := rfl
  have h := loop_list0 (fun n i s => F62_0 k n s l ((l.length : Nat) : Int) i) l (fun l s => ((l.foldl maxI s, ()), ())) (fun i s => True)
    (fun n s hI => by simp only [F62_0, dnlt, cond_false, List.foldl_nil])
    (fun n i s h hI => .inr ⟨maxI s l[i], trivial, by
      simp only [F62_0, inR h, decide_true, cond_true, and_self, if_true, Int.toNat_natCast, getD_lt _ _ _ h]
      rw [wsucc i _ h (by omega)]
      simp only [Option.bind_fun_some], by rw [List.foldl_cons]⟩) k (-1) hk trivial
  have hx := inOrdL_max l 0 m hm
  have hy := inOrdL_le l 0 m hm
  unfold F62
  rw [h, Option.bind_some]
  simp only
  rw [show (-1 : Int) = 0 - 1 from rfl, hx, w64 _ (by omega) (by omega)]
  congr 3
  omega
/-- An item that is no state. -/
def noSt (n : Nat) (a : Int) : Bool := decide (a < 0) || decide (a ≥ (n : Int))
theorem F75_eq (k : Nat) (a : Int) (l : List (List Int)) : F75 k a l = some ((noSt l.length a, ()), (l, ())) := by
  unfold F75 noSt
  by_cases h : a < 0
  · rw [decide_eq_true h, cond_true, Bool.true_or]
  · rw [decide_eq_false h, cond_false, Bool.false_or]
theorem F74_eq (k : Nat) (r : List Int) (l : List (List Int)) (hk : r.length < k) (hl : r.length ≤ Bd) : F74 k r l = some ((r.any (noSt l.length), ()), (l, ())) := by
  have hB : Bd = 1099511627776 := rfl
  have h := loop_any (fun n i => F82_0 k n r ((r.length : Nat) : Int) i l) r (noSt l.length) (.inl ((), (l, ()))) (fun i => .inr (((i : Int), ()), (l, ())))
    (fun n => by simp only [F82_0, dnlt, cond_false])
    (fun n i h hp => by
      simp only [F82_0, inR h, decide_true, cond_true, and_self, if_true, Int.toNat_natCast, getD_lt _ _ _ h, F75_eq, Option.bind_some, hp])
    (fun n i h hp => by
      simp only [F82_0, inR h, decide_true, cond_true, and_self, if_true, Int.toNat_natCast, getD_lt _ _ _ h, F75_eq, Option.bind_some, hp, cond_false]
      rw [wsucc i _ h (by omega)]
      simp only [Option.bind_fun_some]) k hk
  unfold F74 F82
  rcases h with ⟨h1, h2⟩ | ⟨h1, i, hi, h2⟩
  · rw [h2, h1]
    rfl
  · rw [h2, h1]
    simp only [Option.bind_some]
    rw [decide_eq_true (by omega)]
def leadsB (l : List (List Int)) (m : Int) : Bool := decide (1 ≤ l.length ∧ l.length ≤ 100000) && !(l.any fun r => (((r.length : Nat) : Int) != m) || r.any (noSt l.length))
theorem F63_eq (k : Nat) (l : List (List Int)) (m : Int) (hk : 100010 ≤ k) (hm : m ≤ 100005) : F63 k l m = some ((leadsB l m, ()), ()) := by
  have hB : Bd = 1099511627776 := rfl
  unfold F63 leadsB
  by_cases h1 : l.length < 1
  · simp only [show decide (((l.length : Nat) : Int) < 1) = true from by simp; omega, cond_true]
    rw [decide_eq_false (by omega), Bool.false_and]
  · by_cases h2 : l.length > 100000
    · simp only [show decide (((l.length : Nat) : Int) < 1) = false from by simp; omega, show decide (((l.length : Nat) : Int) > 100000) = true from by simp; omega, cond_true, cond_false]
      rw [decide_eq_false (by omega), Bool.false_and]
    · simp only [show decide (((l.length : Nat) : Int) < 1) = false from by simp; omega, show decide (((l.length : Nat) : Int) > 100000) = false from by simp; omega, cond_true, cond_false]
      rw [decide_eq_true (by omega), Bool.true_and]
      have h := loop_any (fun n i => F63_0 k n m l ((l.length : Nat) : Int) i l) l (fun r => (((r.length : Nat) : Int) != m) || r.any (noSt l.length)) (.inl ((), ())) (fun _ => .inr ((false, ()), ()))
        (fun n => by simp only [F63_0, dnlt, cond_false])
        (fun n i h hp => by
          simp only [F63_0, inR h, decide_true, cond_true, and_self, if_true, Int.toNat_natCast, getD_lt _ _ _ h]
          by_cases h3 : ((l[i].length : Nat) : Int) = m
          · have h4 : (((l[i].length : Nat) : Int) != m) = false := by simp [h3]
            rw [h4, Bool.false_or] at hp
            rw [h4, cond_false, F74_eq k _ _ (by omega) (by omega), Option.bind_some]
            simp only [hp, cond_true]
          · have h4 : (((l[i].length : Nat) : Int) != m) = true := by simpa using h3
            rw [h4, cond_true])
        (fun n i h hp => by
          simp only [F63_0, inR h, decide_true, cond_true, and_self, if_true, Int.toNat_natCast, getD_lt _ _ _ h]
          rw [Bool.or_eq_false_iff] at hp
          have h3 : ((l[i].length : Nat) : Int) = m := by simpa using hp.1
          rw [hp.1, cond_false, F74_eq k _ _ (by omega) (by omega), Option.bind_some]
          simp only [hp.2, cond_false]
          rw [wsucc i _ h (by omega)]
          simp only [Option.bind_fun_some]) k (by omega)
      rcases h with ⟨h3, h4⟩ | ⟨h3, i, hi, h4⟩
      · rw [h4, h3]
        rfl
      · rw [h4, h3]
        rfl
def maxL (l : List Int) : Int := l.tail.foldl maxI (l.getD 0 0)
def minL (l : List Int) : Int := l.tail.foldl minI (l.getD 0 0)
theorem F64_eq (k : Nat) (l : List Int) (h0 : 1 ≤ l.length) (hk : l.length < k) (hl : l.length ≤ Bd) : F64 k l = some ((maxL l, ()), ()) := by
  have hB : Bd = 1099511627776 := rfl
  unfold F64
  match l, h0 with
  | a :: l, _ =>
    have h := loop_list (fun n i s => F64_0 k n (a :: l) s i) (a :: l) (fun l s => ((l.foldl maxI s, ()), ())) (fun i s => True)
      (fun n s hI => by simp only [F64_0, dnlt, cond_false, List.foldl_nil])
      (fun n i s h hI => .inr ⟨maxI s (a :: l)[i], trivial, by
        simp only [F64_0, inR h, decide_true, cond_true, and_self, if_true, Int.toNat_natCast, getD_lt _ _ _ h]
        rw [wsucc i _ h (by omega)]
        simp only [Option.bind_fun_some], by rw [List.foldl_cons]⟩) k 1 a (by simp) (by omega) trivial
    simp only [show decide ((((a :: l).length : Nat) : Int) < 1) = false from by simp; omega, cond_false]
    rw [if_pos (by simp)]
    simp only [show Int.toNat 0 = 0 from rfl, List.getD_cons_zero]
    rw [show ((1 : Nat) : Int) = 1 from rfl] at h
    rw [h, Option.bind_some]
    simp only [maxL, List.drop_succ_cons, List.drop_zero, List.tail_cons, List.getD_cons_zero]
theorem F65_eq (k : Nat) (l : List Int) (h0 : 1 ≤ l.length) (hk : l.length < k) (hl : l.length ≤ Bd) : F65 k l = some ((minL l, ()), ()) := by
  have hB : Bd = 1099511627776 := rfl
  unfold F65
  match l, h0 with
  | a :: l, _ =>
    have h := loop_list (fun n i s => F65_0 k n (a :: l) s i) (a :: l) (fun l s => ((l.foldl minI s, ()), ())) (fun i s => True)
      (fun n s hI => by simp only [F65_0, dnlt, cond_false, List.foldl_nil])
      (fun n i s h hI => .inr ⟨minI s (a :: l)[i], trivial, by
        simp only [F65_0, inR h, decide_true, cond_true, and_self, if_true, Int.toNat_natCast, getD_lt _ _ _ h]
        rw [wsucc i _ h (by omega)]
        simp only [Option.bind_fun_some], by rw [List.foldl_cons]⟩) k 1 a (by simp) (by omega) trivial
    simp only [show decide ((((a :: l).length : Nat) : Int) < 1) = false from by simp; omega, cond_false]
    rw [if_pos (by simp)]
    simp only [show Int.toNat 0 = 0 from rfl, List.getD_cons_zero]
    rw [show ((1 : Nat) : Int) = 1 from rfl] at h
    rw [h, Option.bind_some]
    simp only [minL, List.drop_succ_cons, List.drop_zero, List.tail_cons, List.getD_cons_zero]
def noC (a : Int) : Bool := decide (a < 0) || decide (a > 1152921504606846976)
theorem F77_eq (k : Nat) (a : Int) : F77 k a = some ((noC a, ()), ()) := by
  unfold F77 noC
  by_cases h : a < 0
  · rw [decide_eq_true h, cond_true, Bool.true_or]
  · rw [decide_eq_false h, cond_false, Bool.false_or]
theorem F67_eq (k : Nat) (r : List Int) (hk : r.length < k) (hl : r.length ≤ Bd) : F67 k r = some ((r.any noC, ()), ()) := by
  have hB : Bd = 1099511627776 := rfl
  have h := loop_any (fun n i => F1082_0 k n r ((r.length : Nat) : Int) i) r noC (.inl ((), ())) (fun i => .inr (((i : Int), ()), ()))
    (fun n => by simp only [F1082_0, dnlt, cond_false])
    (fun n i h hp => by
      simp only [F1082_0, inR h, decide_true, cond_true, and_self, if_true, Int.toNat_natCast, getD_lt _ _ _ h, F77_eq, Option.bind_some, hp])
    (fun n i h hp => by
      simp only [F1082_0, inR h, decide_true, cond_true, and_self, if_true, Int.toNat_natCast, getD_lt _ _ _ h, F77_eq, Option.bind_some, hp, cond_false]
      rw [wsucc i _ h (by omega)]
      simp only [Option.bind_fun_some]) k hk
  unfold F67 F68 F1074 F1082
  rcases h with ⟨h1, h2⟩ | ⟨h1, i, hi, h2⟩
  · rw [h2, h1]
    rfl
  · rw [h2, h1]
    simp only [Option.bind_some]
    rw [decide_eq_true (by omega)]
    rfl
theorem F66_eq (k : Nat) (l : List (List Int)) (hk : l.length < k) (hl : l.length ≤ Bd) (hv : ∀ v ∈ l, v.length = 3) (hk2 : 9 ≤ k) : F66 k l = some ((l.any fun v => v.any noC, ()), ()) := by
  have hB : Bd = 1099511627776 := rfl
  have h := loop_any (fun n i => F76_0 k n l ((l.length : Nat) : Int) i) l (fun v => v.any noC) (.inl ((), ())) (fun i => .inr (((i : Int), ()), ()))
    (fun n => by simp only [F76_0, dnlt, cond_false])
    (fun n i h hp => by
      have := hv _ (List.getElem_mem h)
      simp only [F76_0, inR h, decide_true, cond_true, and_self, if_true, Int.toNat_natCast, getD_lt _ _ _ h]
      rw [F67_eq k _ (by omega) (by omega), Option.bind_some]
      simp only [hp, cond_true])
    (fun n i h hp => by
      have := hv _ (List.getElem_mem h)
      simp only [F76_0, inR h, decide_true, cond_true, and_self, if_true, Int.toNat_natCast, getD_lt _ _ _ h]
      rw [F67_eq k _ (by omega) (by omega), Option.bind_some]
      simp only [hp, cond_false]
      rw [wsucc i _ h (by omega)]
      simp only [Option.bind_fun_some]) k hk
  unfold F66 F76
  rcases h with ⟨h1, h2⟩ | ⟨h1, i, hi, h2⟩
  · rw [h2, h1]
    rfl
  · rw [h2, h1]
    simp only [Option.bind_some]
    rw [decide_eq_true (by omega)]
end Go.Proofs.YtdgdeckaoajceaaE
/- Plain laws of tables (as in table). Conditions: none. -/
set_option linter.unusedSimpArgs false
set_option linter.unusedVariables false
namespace Go.Proofs.YtdgdeckaoajceaaE
def cutBad (l : List Int) (i : Nat) : Bool := decide (List.getD l i 0 > 1114111) || (decide (0 < i) && decide (List.getD l i 0 ≤ List.getD l (i - 1) 0))
def RightP (t : Tb) : Prop := 1 ≤ t.1.length ∧ t.1.length ≤ 100000 ∧ List.getD t.1 0 0 = 0 ∧ t.2.1.length = t.1.length ∧ ∃ m, inOrdL 0 t.2.1 = some m ∧ (∀ i, i < t.1.length → cutBad t.1 i = false) ∧
  leadsB t.2.2.1.1 m = true ∧ t.2.2.1.2.1.length = t.2.2.1.1.length ∧ leadsB t.2.2.2.1.1 m = true ∧ t.2.2.2.1.2.1.length = t.2.2.2.1.1.length ∧ (∀ a ∈ t.2.2.1.2.1, 0 ≤ a ∧ a < 100000) ∧
  (∀ l ∈ t.2.2.2.1.2.1, ((l.length : Nat) : Int) = maxL t.2.2.1.2.1 + 1 ∧ ∀ v ∈ l, ∀ x ∈ v, noC x = false)
/-- Each Vec has three numbers. -/
def TbV (t : Tb) : Prop := ∀ l ∈ t.2.2.2.1.2.1, ∀ v ∈ l, v.length = 3
theorem no {P : Prop} (h : ¬ P) : ((false : Bool) = true ↔ P) := ⟨(fun e => by cases e), fun p => (h p).elim⟩
theorem yes {P : Prop} (h : P) : ((true : Bool) = true ↔ P) := ⟨fun _ => h, fun _ => rfl⟩
theorem foldMax_ge : ∀ (l : List Int) (a : Int), a ≤ l.foldl maxI a ∧ ∀ x ∈ l, x ≤ l.foldl maxI a
  | [], a => ⟨Int.le_refl _, fun x h => by cases h⟩
  | b :: l, a => by
    have := foldMax_ge l (maxI a b)
    have h1 : a ≤ maxI a b := by unfold maxI; split <;> omega
    have h2 : b ≤ maxI a b := by unfold maxI; split <;> omega
    rw [List.foldl_cons]
    refine ⟨Int.le_trans h1 this.1, fun x hx => ?_⟩
    rcases List.mem_cons.1 hx with rfl | hx
    · exact Int.le_trans h2 this.1
    · exact this.2 x hx
theorem foldMax_mem : ∀ (l : List Int) (a : Int), l.foldl maxI a = a ∨ l.foldl maxI a ∈ l
  | [], a => .inl rfl
  | b :: l, a => by
    rw [List.foldl_cons]
    rcases foldMax_mem l (maxI a b) with h | h
    · rw [h]
      unfold maxI
      split
      · exact .inr (by simp)
      · exact .inl rfl
    · exact .inr (by simp [h])
theorem foldMin_le : ∀ (l : List Int) (a : Int), l.foldl minI a ≤ a ∧ ∀ x ∈ l, l.foldl minI a ≤ x
  | [], a => ⟨Int.le_refl _, fun x h => by cases h⟩
  | b :: l, a => by
    have := foldMin_le l (minI a b)
    have h1 : minI a b ≤ a := by unfold minI; split <;> omega
    have h2 : minI a b ≤ b := by unfold minI; split <;> omega
    rw [List.foldl_cons]
    refine ⟨Int.le_trans this.1 h1, fun x hx => ?_⟩
    rcases List.mem_cons.1 hx with rfl | hx
    · exact Int.le_trans this.1 h2
    · exact this.2 x hx
theorem foldMin_mem : ∀ (l : List Int) (a : Int), l.foldl minI a = a ∨ l.foldl minI a ∈ l
  | [], a => .inl rfl
  | b :: l, a => by
    rw [List.foldl_cons]
    rcases foldMin_mem l (minI a b) with h | h
    · rw [h]
      unfold minI
      split
      · exact .inr (by simp)
      · exact .inl rfl
    · exact .inr (by simp [h])
theorem maxL_ge (l : List Int) : ∀ x ∈ l, x ≤ maxL l := by
  cases l with
  | nil => intro x h; cases h
  | cons a l =>
    intro x hx
    have := foldMax_ge l a
    simp only [maxL, List.tail_cons, List.getD_cons_zero]
    rcases List.mem_cons.1 hx with rfl | hx
    · exact this.1
    · exact this.2 x hx
theorem maxL_mem (l : List Int) (h : 1 ≤ l.length) : maxL l ∈ l := by
  match l, h with
  | a :: l, _ =>
    simp only [maxL, List.tail_cons, List.getD_cons_zero]
    rcases foldMax_mem l a with h | h
    · rw [h]; simp
    · simp [h]
theorem minL_le (l : List Int) : ∀ x ∈ l, minL l ≤ x := by
  cases l with
  | nil => intro x h; cases h
  | cons a l =>
    intro x hx
    have := foldMin_le l a
    simp only [minL, List.tail_cons, List.getD_cons_zero]
    rcases List.mem_cons.1 hx with rfl | hx
    · exact this.1
    · exact this.2 x hx
theorem minL_mem (l : List Int) (h : 1 ≤ l.length) : minL l ∈ l := by
  match l, h with
  | a :: l, _ =>
    simp only [minL, List.tail_cons, List.getD_cons_zero]
    rcases foldMin_mem l a with h | h
    · rw [h]; simp
    · simp [h]
theorem getD0 (l : List Int) : List.getD l (Int.toNat 0) 0 = List.getD l 0 0 := rfl
theorem F46_ok (k : Nat) (t : Tb) (hk : 100010 ≤ k) (hv : TbV t) : ∃ r, F46 k t = some ((r, ()), ()) ∧ (r = true ↔ RightP t) := by
  have hB : Bd = 1099511627776 := rfl
  obtain ⟨cu, le, ⟨bn, bo, ⟨⟩⟩, ⟨fn, em, ⟨⟩⟩, ⟨⟩⟩ := t
  unfold F46 RightP
  unfold TbV at hv
  simp only at hv ⊢
  by_cases h1 : cu.length < 1
  · rw [show decide (((cu.length : Nat) : Int) < 1) = true from by simp; omega]
    exact ⟨false, rfl, no fun h => by omega⟩
  rw [show decide (((cu.length : Nat) : Int) < 1) = false from by simp; omega, cond_false]
  by_cases h2 : cu.length > 100000
  · rw [show decide (((cu.length : Nat) : Int) > 100000) = true from by simp; omega]
    exact ⟨false, rfl, no fun h => by omega⟩
  rw [show decide (((cu.length : Nat) : Int) > 100000) = false from by simp; omega, cond_false, if_pos (by omega), getD0]
  by_cases h3 : List.getD cu 0 0 = 0
  · rw [h3, show ((0 : Int) != 0) = false from rfl, cond_false]
    by_cases h4 : le.length = cu.length
    · rw [h4, bne_self_eq_false, cond_false, F61_eq k le (by omega) (by omega), Option.bind_some]
      cases hm : inOrdL 0 le with
      | none => exact ⟨false, rfl, no fun ⟨_, _, _, _, m, h, _⟩ => by cases h⟩
      | some m =>
        have hmle := inOrdL_le le 0 m hm
        simp only [Option.isSome_some, Bool.not_true, cond_false]
        have hl := loop_all (fun n i => F46_0 k n cu ((cu.length : Nat) : Int) i (cu, (le, ((bn, (bo, ())), ((fn, (em, ())), ()))))) cu.length (cutBad cu) (.inl ((), ((cu, (le, ((bn, (bo, ())), ((fn, (em, ())), ())))), ()))) (fun _ => .inr ((false, ()), ()))
          (fun n => by simp only [F46_0, dnlt, cond_false])
          (fun n i h hp => by
            simp only [F46_0, inR h, decide_true, cond_true, and_self, if_true, Int.toNat_natCast]
            unfold cutBad at hp
            cases h5 : decide (List.getD cu i 0 > 1114111) with
            | true => rfl
            | false =>
              rw [h5, Bool.false_or, Bool.and_eq_true] at hp
              have h0 : 0 < i := of_decide_eq_true hp.1
              rw [cond_false, show decide ((i : Int) > 0) = true from by simpa using h0, cond_true, w64 _ (by omega) (by omega), if_pos (by omega), show Int.toNat ((i : Int) - 1) = i - 1 by omega, hp.2]
              rfl)
          (fun n i h hp => by
            simp only [F46_0, inR h, decide_true, cond_true, and_self, if_true, Int.toNat_natCast]
            unfold cutBad at hp
            rw [Bool.or_eq_false_iff] at hp
            rw [hp.1, cond_false, wsucc i _ h (by omega)]
            by_cases h0 : 0 < i
            · rw [decide_eq_true h0, Bool.true_and] at hp
              rw [show decide ((i : Int) > 0) = true from by simpa using h0, cond_true, w64 _ (by omega) (by omega), if_pos (by omega), show Int.toNat ((i : Int) - 1) = i - 1 by omega, hp.2]
              simp only [cond_false, Option.bind_fun_some]
            · rw [show decide ((i : Int) > 0) = false from by simp; omega, cond_false]
              simp only [Option.bind_fun_some]) k (by omega)
        rcases hl with ⟨hc, hl⟩ | ⟨i, hi, hc, hl⟩
        · rw [hl, Option.bind_some]
          simp only
          rw [F62_eq k le (by omega) (by omega) m hm, Option.bind_some]
          simp only
          rw [F63_eq k bn m hk (by omega), Option.bind_some]
          cases h5 : leadsB bn m with
          | false => exact ⟨false, rfl, no fun ⟨_, _, _, _, m', e, _, h, _⟩ => by injection e with e; subst e; rw [h5] at h; cases h⟩
          | true =>
            simp only [Bool.not_true, cond_false]
            by_cases h6 : bo.length = bn.length
            · rw [h6, bne_self_eq_false, cond_false, F63_eq k fn m hk (by omega), Option.bind_some]
              cases h7 : leadsB fn m with
              | false => exact ⟨false, rfl, no fun ⟨_, _, _, _, m', e, _, _, _, h, _⟩ => by injection e with e; subst e; rw [h7] at h; cases h⟩
              | true =>
                simp only [Bool.not_true, cond_false]
                have hbn : 1 ≤ bn.length ∧ bn.length ≤ 100000 := by
                  unfold leadsB at h5
                  rw [Bool.and_eq_true] at h5
                  exact of_decide_eq_true h5.1
                have hfn : 1 ≤ fn.length ∧ fn.length ≤ 100000 := by
                  unfold leadsB at h7
                  rw [Bool.and_eq_true] at h7
                  exact of_decide_eq_true h7.1
                by_cases h8 : em.length = fn.length
                · rw [h8, bne_self_eq_false, cond_false, F64_eq k bo (by omega) (by omega) (by omega), Option.bind_some, F65_eq k bo (by omega) (by omega) (by omega), Option.bind_some]
                  simp only
                  by_cases h9 : minL bo < 0
                  · rw [decide_eq_true h9]
                    exact ⟨false, rfl, no fun ⟨_, _, _, _, m', e, _, _, _, _, _, h, _⟩ => by have := (h _ (minL_mem bo (by omega))).1; omega⟩
                  · rw [decide_eq_false h9, cond_false]
                    by_cases h10 : maxL bo ≥ 100000
                    · rw [decide_eq_true h10]
                      exact ⟨false, rfl, no fun ⟨_, _, _, _, m', e, _, _, _, _, _, h, _⟩ => by have := (h _ (maxL_mem bo (by omega))).2; omega⟩
                    · rw [decide_eq_false h10, cond_false]
                      have hmx : 0 ≤ maxL bo := by
                        have := minL_le bo _ (maxL_mem bo (by omega))
                        omega
                      have hl2 := loop_any (fun n i => F46_1 k n (maxL bo) em ((em.length : Nat) : Int) i) em (fun l => (((l.length : Nat) : Int) != maxL bo + 1) || l.any fun v => v.any noC) (.inl ((), ())) (fun _ => .inr ((false, ()), ()))
                        (fun n => by simp only [F46_1, dnlt, cond_false])
                        (fun n i h hp => by
                          simp only [F46_1, inR h, decide_true, cond_true, and_self, if_true, Int.toNat_natCast, getD_lt _ _ _ h]
                          rw [w64 (maxL bo + 1) (by omega) (by omega)]
                          cases h11 : (((em[i].length : Nat) : Int) != maxL bo + 1) with
                          | true => rfl
                          | false =>
                            rw [h11, Bool.false_or] at hp
                            have h12 : ((em[i].length : Nat) : Int) = maxL bo + 1 := by simpa using h11
                            rw [cond_false, F66_eq k _ (by omega) (by omega) (hv _ (List.getElem_mem h)) (by omega), Option.bind_some]
                            simp only [hp, cond_true])
                        (fun n i h hp => by
                          simp only [F46_1, inR h, decide_true, cond_true, and_self, if_true, Int.toNat_natCast, getD_lt _ _ _ h]
                          rw [Bool.or_eq_false_iff] at hp
                          have h12 : ((em[i].length : Nat) : Int) = maxL bo + 1 := by simpa using hp.1
                          rw [w64 (maxL bo + 1) (by omega) (by omega), hp.1, cond_false, F66_eq k _ (by omega) (by omega) (hv _ (List.getElem_mem h)) (by omega), Option.bind_some]
                          simp only [hp.2, cond_false]
                          rw [wsucc i _ h (by omega)]
                          simp only [Option.bind_fun_some]) k (by omega)
                      rw [h8] at hl2
                      rcases hl2 with ⟨h11, hl2⟩ | ⟨h11, i, hi, hl2⟩
                      · rw [hl2]
                        refine ⟨true, rfl, yes ⟨by omega, by omega, trivial, trivial, m, rfl, hc, h5, trivial, h7, trivial, fun a ha => ?_, fun l hl => ?_⟩⟩
                        · have := minL_le bo a ha
                          have := maxL_ge bo a ha
                          omega
                        · rw [List.any_eq_false] at h11
                          have := h11 l hl
                          rw [Bool.not_eq_true, Bool.or_eq_false_iff] at this
                          refine ⟨by simpa using this.1, fun v hv' x hx => ?_⟩
                          have h2 := this.2
                          rw [List.any_eq_false] at h2
                          have h2 := h2 v hv'
                          rw [Bool.not_eq_true, List.any_eq_false] at h2
                          simpa using h2 x hx
                      · rw [hl2]
                        refine ⟨false, rfl, no fun ⟨_, _, _, _, m', e, _, _, _, _, _, _, h⟩ => ?_⟩
                        rw [List.any_eq_true] at h11
                        obtain ⟨l, hl, h12⟩ := h11
                        have := h l hl
                        rw [Bool.or_eq_true] at h12
                        rcases h12 with h12 | h12
                        · have : ¬ (((l.length : Nat) : Int) = maxL bo + 1) := by simpa using h12
                          exact this (h l hl).1
                        · rw [List.any_eq_true] at h12
                          obtain ⟨v, hv', h12⟩ := h12
                          rw [List.any_eq_true] at h12
                          obtain ⟨x, hx, h12⟩ := h12
                          rw [(h l hl).2 v hv' x hx] at h12
                          cases h12
                · rw [show ((((em.length : Nat) : Int) != ((fn.length : Nat) : Int))) = true from by simp; omega]
                  exact ⟨false, rfl, no fun ⟨_, _, _, _, m', e, _, _, _, _, h, _⟩ => h8 h⟩
            · rw [show ((((bo.length : Nat) : Int) != ((bn.length : Nat) : Int))) = true from by simp; omega]
              exact ⟨false, rfl, no fun ⟨_, _, _, _, m', e, _, _, h, _⟩ => h6 h⟩
        · rw [hl]
          exact ⟨false, rfl, no fun ⟨_, _, _, _, m', e, h, _⟩ => by rw [h i hi] at hc; cases hc⟩
    · rw [show ((((le.length : Nat) : Int) != ((cu.length : Nat) : Int))) = true from by simp; omega]
      exact ⟨false, rfl, no fun ⟨_, _, _, h, _⟩ => h4 h⟩
  · rw [show ((List.getD cu 0 0) != 0) = true from by simpa using h3]
    exact ⟨false, rfl, no fun ⟨_, _, h, _⟩ => h3 h⟩
end Go.Proofs.YtdgdeckaoajceaaE
/- Plain laws of tables (as in table). Conditions: none. -/
set_option linter.unusedSimpArgs false
set_option linter.unusedVariables false
namespace Go.Proofs.YtdgdeckaoajceaaE
theorem F58_eq (k : Nat) (l : List Int) (hk : l.length < k) (hl : l.length ≤ Bd) : F58 k l = some ((match inOrdL 0 l with | some m => (m, decide (m > 0), ()) | none => (0, false, ())), ()) := by
  have hB : Bd = 1099511627776 := rfl
  have h := loop_list0 (fun n i s => F58_0 k n l s i) l (fun l s => match inOrdL s l with | some m => .inl ((m, ()), ()) | none => .inr ((0, false, ()), ())) (fun i s => 0 ≤ s ∧ s ≤ (i : Int))
    (fun n s hI => by simp only [F58_0, dnlt, cond_false, inOrdL])
    (fun n i s h hI => by
      simp only [F58_0, inR h, decide_true, cond_true, and_self, if_true, Int.toNat_natCast, getD_lt _ _ _ h, inOrdL]
      by_cases h1 : l[i] < 0
      · left
        rw [decide_eq_true h1, cond_true, if_pos (.inl h1)]
      · by_cases h2 : l[i] > s
        · left
          rw [decide_eq_false h1, cond_false, decide_eq_true h2, cond_true, if_pos (.inr h2)]
        · right
          refine ⟨if l[i] = s then s + 1 else s, ?_, ?_, ?_⟩
          · split <;> omega
          · rw [decide_eq_false h1, cond_false, decide_eq_false h2, cond_false, wsucc i _ h (by omega), w64 _ (by omega) (by omega)]
            by_cases h3 : l[i] = s
            · rw [if_pos h3, h3, beq_self_eq_true, cond_true]
              simp only [Option.bind_fun_some]
            · rw [if_neg h3, beq_false_of_ne h3, cond_false]
              simp only [Option.bind_fun_some]
          · rw [if_neg (by omega)]) k 0 hk (by simp)
  unfold F58
  rw [h]
  cases inOrdL 0 l <;> rfl
theorem F59_0_eq (k i : Nat) (l : List (List Int)) (m : Int) (hk : 100010 ≤ k) (hm : m ≤ 100005) (hi : i < l.length) (hl : (((l[i]).length : Nat) : Int) = m) :
    F59_0 k k l m (i : Int) 0 = some (bif (l[i]).any (noSt l.length) then .inr ((false, ()), ()) else .inl ((l, m, (i : Int), ()), ())) := by
  have h := loop_any (fun n j => F59_0 k n l m (i : Int) j) l[i] (noSt l.length) (.inl ((l, m, (i : Int), ()), ())) (fun _ => .inr ((false, ()), ()))
    (fun n => by rw [← hl]; simp only [F59_0, dnlt, cond_false])
    (fun n j h hp => by
      simp only [F59_0]
      rw [← hl]
      simp only [inR hi, inR h, decide_true, cond_true, and_self, if_true, Int.toNat_natCast, getD_lt _ _ _ hi, getD_lt _ _ _ h]
      unfold noSt at hp
      cases h1 : decide ((l[i])[j] < 0) with
      | true => rfl
      | false =>
        rw [h1, Bool.false_or] at hp
        rw [cond_false, hp, cond_true])
    (fun n j h hp => by
      simp only [F59_0]
      unfold noSt at hp
      rw [Bool.or_eq_false_iff] at hp
      rw [show decide ((j : Int) < m) = true from by rw [← hl]; simpa using h]
      simp only [inR hi, inR h, decide_true, cond_true, and_self, if_true, Int.toNat_natCast, getD_lt _ _ _ hi, getD_lt _ _ _ h]
      rw [hp.1, cond_false, hp.2, cond_false, wsucc j _ h (by omega)]
      simp only [Option.bind_fun_some]) k (by omega)
  rcases h with ⟨h1, h2⟩ | ⟨h1, j, hj, h2⟩
  · rw [h2, h1]
    rfl
  · rw [h2, h1]
    rfl
theorem F59_eq (k : Nat) (l : List (List Int)) (m : Int) (hk : 100010 ≤ k) (hm : m ≤ 100005) : F59 k l m = some ((leadsB l m, ()), ()) := by
  have hB : Bd = 1099511627776 := rfl
  unfold F59 leadsB
  by_cases h1 : l.length < 1
  · simp only [show decide (((l.length : Nat) : Int) < 1) = true from by simp; omega, cond_true]
    rw [decide_eq_false (by omega), Bool.false_and]
  · by_cases h2 : l.length > 100000
    · simp only [show decide (((l.length : Nat) : Int) < 1) = false from by simp; omega, show decide (((l.length : Nat) : Int) > 100000) = true from by simp; omega, cond_true, cond_false]
      rw [decide_eq_false (by omega), Bool.false_and]
    · simp only [show decide (((l.length : Nat) : Int) < 1) = false from by simp; omega, show decide (((l.length : Nat) : Int) > 100000) = false from by simp; omega, cond_true, cond_false]
      rw [decide_eq_true (by omega), Bool.true_and]
      have h := loop_any (fun n i => F59_1 k n l m i) l (fun r => (((r.length : Nat) : Int) != m) || r.any (noSt l.length)) (.inl ((), ())) (fun _ => .inr ((false, ()), ()))
        (fun n => by simp only [F59_1, dnlt, cond_false])
        (fun n i h hp => by
          simp only [F59_1, inR h, decide_true, cond_true, and_self, if_true, Int.toNat_natCast, getD_lt _ _ _ h]
          by_cases h3 : ((l[i].length : Nat) : Int) = m
          · have h4 : (((l[i].length : Nat) : Int) != m) = false := by simp [h3]
            rw [h4, Bool.false_or] at hp
            rw [h4, cond_false, F59_0_eq k i l m hk hm h h3, hp]
            rfl
          · have h4 : (((l[i].length : Nat) : Int) != m) = true := by simpa using h3
            rw [h4, cond_true])
        (fun n i h hp => by
          simp only [F59_1, inR h, decide_true, cond_true, and_self, if_true, Int.toNat_natCast, getD_lt _ _ _ h]
          rw [Bool.or_eq_false_iff] at hp
          have h3 : ((l[i].length : Nat) : Int) = m := by simpa using hp.1
          rw [hp.1, cond_false, F59_0_eq k i l m hk hm h h3, hp.2]
          simp only [Option.bind_some, cond_false]
          rw [wsucc i _ h (by omega)]
          simp only [Option.bind_fun_some]) k (by omega)
      rcases h with ⟨h3, h4⟩ | ⟨h3, i, hi, h4⟩
      · rw [h4, h3]
        rfl
      · rw [h4, h3]
        rfl
theorem F34_2_eq (k i j : Nat) (t : Tb) (hk : 9 ≤ k) (h : Int) (hi : i < t.2.2.2.1.2.1.length) (hj : j < (t.2.2.2.1.2.1[i]).length) (h3 : ((t.2.2.2.1.2.1[i])[j]).length = 3) :
    F34_2 k k h (i : Int) (j : Int) 0 t = some (bif ((t.2.2.2.1.2.1[i])[j]).any noC then .inr ((false, ()), ()) else .inl ((h, (i : Int), (j : Int), ()), (t, ()))) := by
  have hh := loop_any (fun n c => F34_2 k n h (i : Int) (j : Int) c t) ((t.2.2.2.1.2.1[i])[j]) noC (.inl ((h, (i : Int), (j : Int), ()), (t, ()))) (fun _ => .inr ((false, ()), ()))
    (fun n => by rw [h3]; simp only [F34_2]; rfl)
    (fun n c hc hp => by
      simp only [F34_2]
      have hc3 : c < 3 := by omega
      rw [show decide ((c : Int) < 3) = true from by simp; omega]
      simp only [inR hi, inR hj, inR hc3, decide_true, cond_true, and_self, if_true, Int.toNat_natCast, getD_lt _ _ _ hi, getD_lt _ _ _ hj, getD_lt _ _ _ hc]
      unfold noC at hp
      cases h1 : decide (((t.2.2.2.1.2.1[i])[j])[c] < 0) with
      | true => rfl
      | false =>
        rw [h1, Bool.false_or] at hp
        rw [cond_false, hp, cond_true])
    (fun n c hc hp => by
      simp only [F34_2]
      have hc3 : c < 3 := by omega
      rw [show decide ((c : Int) < 3) = true from by simp; omega]
      simp only [inR hi, inR hj, inR hc3, decide_true, cond_true, and_self, if_true, Int.toNat_natCast, getD_lt _ _ _ hi, getD_lt _ _ _ hj, getD_lt _ _ _ hc]
      unfold noC at hp
      rw [Bool.or_eq_false_iff] at hp
      rw [hp.1, cond_false, hp.2, cond_false, wsucc c _ hc (by omega)]
      simp only [Option.bind_fun_some]) k (by omega)
  rcases hh with ⟨h1, h2⟩ | ⟨h1, c, hc, h2⟩
  · rw [h2, h1]
    rfl
  · rw [h2, h1]
    rfl
theorem F34_3_eq (k i : Nat) (t : Tb) (hk : 100010 ≤ k) (h : Int) (h0 : 0 ≤ h) (hh : h < 100000) (hi : i < t.2.2.2.1.2.1.length) (hl : (((t.2.2.2.1.2.1[i]).length : Nat) : Int) = h + 1) (h3 : ∀ v ∈ t.2.2.2.1.2.1[i], v.length = 3) :
    F34_3 k k h (i : Int) 0 t = some (bif (t.2.2.2.1.2.1[i]).any fun v => v.any noC then .inr ((false, ()), ()) else .inl ((h, (i : Int), ()), (t, ()))) := by
  have hlp := loop_any (fun n j => F34_3 k n h (i : Int) j t) (t.2.2.2.1.2.1[i]) (fun v => v.any noC) (.inl ((h, (i : Int), ()), (t, ()))) (fun _ => .inr ((false, ()), ()))
    (fun n => by
      simp only [F34_3]
      rw [show decide ((((t.2.2.2.1.2.1[i]).length : Nat) : Int) ≤ h) = false from by simp; omega, cond_false])
    (fun n j hj hp => by
      simp only [F34_3]
      rw [show decide ((j : Int) ≤ h) = true from by simp; omega, cond_true, F34_2_eq k i j t (by omega) h hi hj (h3 _ (List.getElem_mem hj)), hp]
      rfl)
    (fun n j hj hp => by
      simp only [F34_3]
      rw [show decide ((j : Int) ≤ h) = true from by simp; omega, cond_true, F34_2_eq k i j t (by omega) h hi hj (h3 _ (List.getElem_mem hj)), hp]
      simp only [Option.bind_some, cond_false]
      rw [wsucc j _ hj (by omega)]
      simp only [Option.bind_fun_some]) k (by omega)
  rcases hlp with ⟨h1, h2⟩ | ⟨h1, c, hc, h2⟩
  · rw [h2, h1]
    rfl
  · rw [h2, h1]
    rfl
theorem F34_4_eq (k : Nat) (t : Tb) (hk : 100010 ≤ k) (h : Int) (h0 : 0 ≤ h) (hh : h < 100000) (hl : t.2.2.2.1.2.1.length ≤ 100000) (h3 : TbV t) :
    F34_4 k k h 0 t = some (bif t.2.2.2.1.2.1.any fun l => (((l.length : Nat) : Int) != h + 1) || l.any fun v => v.any noC then .inr ((false, ()), ()) else .inl ((), ())) := by
  have hlp := loop_any (fun n i => F34_4 k n h i t) t.2.2.2.1.2.1 (fun l => (((l.length : Nat) : Int) != h + 1) || l.any fun v => v.any noC) (.inl ((), ())) (fun _ => .inr ((false, ()), ()))
    (fun n => by simp only [F34_4, dnlt, cond_false])
    (fun n i hi hp => by
      simp only [F34_4, inR hi, decide_true, cond_true, and_self, if_true, Int.toNat_natCast, getD_lt _ _ _ hi]
      rw [w64 (h + 1) (by omega) (by omega)]
      cases h11 : (((t.2.2.2.1.2.1[i].length : Nat) : Int) != h + 1) with
      | true => rfl
      | false =>
        rw [h11, Bool.false_or] at hp
        have h12 : ((t.2.2.2.1.2.1[i].length : Nat) : Int) = h + 1 := by simpa using h11
        rw [cond_false, F34_3_eq k i t hk h h0 hh hi h12 (h3 _ (List.getElem_mem hi)), hp]
        rfl)
    (fun n i hi hp => by
      simp only [F34_4, inR hi, decide_true, cond_true, and_self, if_true, Int.toNat_natCast, getD_lt _ _ _ hi]
      rw [Bool.or_eq_false_iff] at hp
      have h12 : ((t.2.2.2.1.2.1[i].length : Nat) : Int) = h + 1 := by simpa using hp.1
      rw [w64 (h + 1) (by omega) (by omega), hp.1, cond_false, F34_3_eq k i t hk h h0 hh hi h12 (h3 _ (List.getElem_mem hi)), hp.2]
      simp only [Option.bind_some, cond_false]
      rw [wsucc i _ hi (by omega)]
      simp only [Option.bind_fun_some]) k (by omega)
  rcases hlp with ⟨h1, h2⟩ | ⟨h1, c, hc, h2⟩
  · rw [h2, h1]
    rfl
  · rw [h2, h1]
    rfl
/-- Outputs: their greatest, or one that may not be. -/
def outB (a : Int) : Bool := decide (a < 0) || decide (a ≥ 100000)
theorem F34_1_eq (k : Nat) (t : Tb) (hk : 100010 ≤ k) (hl : t.2.2.1.2.1.length ≤ 100000) :
    F34_1 k k 0 0 t = some (bif t.2.2.1.2.1.any outB then .inr ((false, ()), ()) else .inl ((t.2.2.1.2.1.foldl maxI 0, ()), (t, ()))) := by
  have h := loop_list0 (fun n i s => F34_1 k n s i t) t.2.2.1.2.1 (fun l s => bif l.any outB then .inr ((false, ()), ()) else .inl ((l.foldl maxI s, ()), (t, ()))) (fun _ _ => True)
    (fun n s _ => by simp only [F34_1, dnlt, cond_false, List.any_nil, List.foldl_nil])
    (fun n i s hi _ => by
      simp only [F34_1, inR hi, decide_true, cond_true, and_self, if_true, Int.toNat_natCast, getD_lt _ _ _ hi, List.any_cons, List.foldl_cons]
      unfold outB
      cases h1 : decide (t.2.2.1.2.1[i] < 0) with
      | true => exact .inl rfl
      | false =>
        cases h2 : decide (t.2.2.1.2.1[i] ≥ 100000) with
        | true => exact .inl rfl
        | false =>
          refine .inr ⟨maxI s t.2.2.1.2.1[i], trivial, ?_, rfl⟩
          rw [cond_false, cond_false, wsucc i _ hi (by omega)]
          simp only [Option.bind_fun_some]) k 0 (by omega) trivial
  exact h
theorem F34_0_eq (k : Nat) (t : Tb) (hk : 100010 ≤ k) (h1 : 1 ≤ t.1.length) (h2 : t.1.length ≤ 100000) (h0 : List.getD t.1 0 0 = 0) :
    ((∀ i, i < t.1.length → cutBad t.1 i = false) ∧ F34_0 k k 1 t = some (.inl ((), (t, ())))) ∨ ((∃ i, i < t.1.length ∧ cutBad t.1 i = true) ∧ F34_0 k k 1 t = some (.inr ((false, ()), ()))) := by
  have hb0 : cutBad t.1 0 = false := by
    unfold cutBad
    rw [h0]
    rfl
  have go : ∀ n i, 1 ≤ i → i ≤ t.1.length → t.1.length - i < n → ((∀ j, i ≤ j → j < t.1.length → cutBad t.1 j = false) ∧ F34_0 k n (i : Int) t = some (.inl ((), (t, ())))) ∨ ((∃ j, j < t.1.length ∧ cutBad t.1 j = true) ∧ F34_0 k n (i : Int) t = some (.inr ((false, ()), ()))) := by
    intro n
    induction n with
    | zero => intro i a b c; omega
    | succ n ih =>
      intro i a b c
      by_cases hi : i < t.1.length
      · simp only [F34_0, inR hi, decide_true, cond_true, and_self, if_true, Int.toNat_natCast]
        rw [w64 ((i : Int) - 1) (by omega) (by omega), if_pos (by omega), show Int.toNat ((i : Int) - 1) = i - 1 by omega, wsucc i _ hi (by omega)]
        cases h3 : decide (List.getD t.1 i 0 ≤ List.getD t.1 (i - 1) 0) with
        | true => exact .inr ⟨⟨i, hi, by unfold cutBad; rw [h3, decide_eq_true (show 0 < i by omega), Bool.true_and, Bool.or_true]⟩, rfl⟩
        | false =>
          cases h4 : decide (List.getD t.1 i 0 > 1114111) with
          | true => exact .inr ⟨⟨i, hi, by unfold cutBad; rw [h4, Bool.true_or]⟩, rfl⟩
          | false =>
            simp only [cond_false, Option.bind_fun_some]
            rcases ih (i + 1) (by omega) (by omega) (by omega) with ⟨e1, e2⟩ | ⟨e1, e2⟩
            · refine .inl ⟨fun j hj hj2 => ?_, e2⟩
              by_cases hij : j = i
              · subst hij
                unfold cutBad
                rw [h3, h4, Bool.and_false, Bool.or_false]
              · exact e1 j (by omega) hj2
            · exact .inr ⟨e1, e2⟩
      · obtain rfl : i = t.1.length := by omega
        refine .inl ⟨fun j hj hj2 => by omega, ?_⟩
        simp only [F34_0, dnlt, cond_false]
  rcases go k 1 (Nat.le_refl _) h1 (by omega) with ⟨e1, e2⟩ | ⟨e1, e2⟩
  · refine .inl ⟨fun i hi => ?_, e2⟩
    by_cases h : i = 0
    · rw [h]; exact hb0
    · exact e1 i (by omega) hi
  · exact .inr ⟨e1, e2⟩
end Go.Proofs.YtdgdeckaoajceaaE
/- Plain laws of tables (as in table). Conditions: none. -/
set_option linter.unusedSimpArgs false
set_option linter.unusedVariables false
namespace Go.Proofs.YtdgdeckaoajceaaE
theorem inOrdL_pos (a : Int) (l : List Int) (m : Int) (h : inOrdL 0 (a :: l) = some m) : 1 ≤ m := by
  rw [inOrdL] at h
  split at h
  · cases h
  · have := (inOrdL_le l _ m h).1
    rw [if_pos (by omega)] at this
    omega
theorem any_out {l : List Int} (h : l.any outB = false) : ∀ x ∈ l, 0 ≤ x ∧ x < 100000 := fun x hx => by
  rw [List.any_eq_false] at h
  have := h x hx
  unfold outB at this
  simp only [Bool.or_eq_true, decide_eq_true_eq, not_or] at this
  omega
theorem max0 {l : List Int} (h : ∀ x ∈ l, 0 ≤ x) (h1 : 1 ≤ l.length) : l.foldl maxI 0 = maxL l := by
  match l, h1 with
  | a :: l, _ =>
    have := h a (by simp)
    rw [List.foldl_cons, show maxI 0 a = a from by unfold maxI; split <;> omega]
    rfl
theorem leadsB_len {l : List (List Int)} {m : Int} (h : leadsB l m = true) : 1 ≤ l.length ∧ l.length ≤ 100000 := by
  unfold leadsB at h
  rw [Bool.and_eq_true] at h
  exact of_decide_eq_true h.1
theorem F34_ok (k : Nat) (t : Tb) (hk : 100010 ≤ k) (hv : TbV t) (hle : t.2.1.length < k) (hle2 : t.2.1.length ≤ Bd) (hl5 : ∀ m, inOrdL 0 t.2.1 = some m → m ≤ 100005) : ∃ r, F34 k t = some ((r, ()), ()) ∧ (r = true ↔ RightP t) := by
  have hB : Bd = 1099511627776 := rfl
  unfold F34
  rw [F58_eq k _ hle hle2, Option.bind_some]
  cases hm : inOrdL 0 t.2.1 with
  | none => exact ⟨false, rfl, no fun ⟨_, _, _, _, m, h, _⟩ => by rw [hm] at h; cases h⟩
  | some m =>
    simp only
    by_cases h0 : m > 0
    · rw [decide_eq_true h0]
      simp only [Bool.not_true, cond_false]
      by_cases h1 : t.1.length = t.2.1.length
      · rw [h1, bne_self_eq_false, cond_false]
        by_cases h2 : t.2.1.length > 100000
        · rw [show decide (((t.2.1.length : Nat) : Int) > 100000) = true from by simp; omega]
          exact ⟨false, rfl, no fun h => by have := h.2.1; omega⟩
        rw [show decide (((t.2.1.length : Nat) : Int) > 100000) = false from by simp; omega, cond_false]
        have hle1 : 1 ≤ t.2.1.length := by
          cases hx : t.2.1 with
          | nil => rw [hx] at hm; injection hm with hm; omega
          | cons a l => simp
        rw [if_pos (by omega), getD0]
        by_cases h3 : List.getD t.1 0 0 = 0
        · have hm5 := hl5 m hm
          rw [show (List.getD t.1 0 0 != 0) = false from by simpa using h3, cond_false, F59_eq k _ m hk hm5, Option.bind_some]
          cases h4 : leadsB t.2.2.1.1 m with
          | false => exact ⟨false, rfl, no fun ⟨_, _, _, _, m', e, _, h, _⟩ => by rw [hm] at e; injection e with e; subst e; rw [h4] at h; cases h⟩
          | true =>
            simp only [Bool.not_true, cond_false]
            rw [F59_eq k _ m hk hm5, Option.bind_some]
            cases h5 : leadsB t.2.2.2.1.1 m with
            | false => exact ⟨false, rfl, no fun ⟨_, _, _, _, m', e, _, _, _, h, _⟩ => by rw [hm] at e; injection e with e; subst e; rw [h5] at h; cases h⟩
            | true =>
              simp only [Bool.not_true, cond_false]
              have l4 := leadsB_len h4
              have l5 := leadsB_len h5
              by_cases h6 : t.2.2.1.2.1.length = t.2.2.1.1.length
              · rw [show (((t.2.2.1.2.1.length : Nat) : Int) != ((t.2.2.1.1.length : Nat) : Int)) = false from by rw [h6]; exact bne_self_eq_false _, cond_false]
                by_cases h7 : t.2.2.2.1.2.1.length = t.2.2.2.1.1.length
                · rw [show (((t.2.2.2.1.2.1.length : Nat) : Int) != ((t.2.2.2.1.1.length : Nat) : Int)) = false from by rw [h7]; exact bne_self_eq_false _, cond_false]
                  rcases F34_0_eq k t hk (by omega) (by omega) h3 with ⟨c1, c2⟩ | ⟨⟨i, hi, c1⟩, c2⟩
                  · rw [c2, Option.bind_some]
                    simp only
                    rw [F34_1_eq k t hk (by omega)]
                    cases h8 : t.2.2.1.2.1.any outB with
                    | true =>
                      refine ⟨false, rfl, no fun ⟨_, _, _, _, m', e, _, _, _, _, _, h, _⟩ => ?_⟩
                      rw [List.any_eq_true] at h8
                      obtain ⟨x, hx, h8⟩ := h8
                      have := h x hx
                      unfold outB at h8
                      simp only [Bool.or_eq_true, decide_eq_true_eq] at h8
                      omega
                    | false =>
                      have ho := any_out h8
                      have hmm := maxL_mem t.2.2.1.2.1 (by omega)
                      have hmx := ho _ hmm
                      simp only [cond_false, Option.bind_some]
                      rw [max0 (fun x hx => (ho x hx).1) (by omega), F34_4_eq k t hk _ hmx.1 hmx.2 (by omega) hv]
                      cases h9 : t.2.2.2.1.2.1.any fun l => (((l.length : Nat) : Int) != maxL t.2.2.1.2.1 + 1) || l.any fun v => v.any noC with
                      | true =>
                        refine ⟨false, rfl, no fun ⟨_, _, _, _, m', e, _, _, _, _, _, _, h⟩ => ?_⟩
                        rw [List.any_eq_true] at h9
                        obtain ⟨l, hl, h12⟩ := h9
                        rw [Bool.or_eq_true] at h12
                        rcases h12 with h12 | h12
                        · have : ¬ (((l.length : Nat) : Int) = maxL t.2.2.1.2.1 + 1) := by simpa using h12
                          exact this (h l hl).1
                        · rw [List.any_eq_true] at h12
                          obtain ⟨v, hv', h12⟩ := h12
                          rw [List.any_eq_true] at h12
                          obtain ⟨x, hx, h12⟩ := h12
                          rw [(h l hl).2 v hv' x hx] at h12
                          cases h12
                      | false =>
                        refine ⟨true, rfl, yes ⟨by omega, by omega, h3, h1.symm, m, hm, c1, h4, h6, h5, h7, ho, fun l hl => ?_⟩⟩
                        rw [List.any_eq_false] at h9
                        have := h9 l hl
                        rw [Bool.not_eq_true, Bool.or_eq_false_iff] at this
                        refine ⟨by simpa using this.1, fun v hv' x hx => ?_⟩
                        have h2 := this.2
                        rw [List.any_eq_false] at h2
                        have h2 := h2 v hv'
                        rw [Bool.not_eq_true, List.any_eq_false] at h2
                        simpa using h2 x hx
                  · rw [c2]
                    exact ⟨false, rfl, no fun ⟨_, _, _, _, m', e, h, _⟩ => by rw [h i hi] at c1; cases c1⟩
                · rw [show (((t.2.2.2.1.2.1.length : Nat) : Int) != ((t.2.2.2.1.1.length : Nat) : Int)) = true from by simp; omega]
                  exact ⟨false, rfl, no fun ⟨_, _, _, _, m', e, _, _, _, _, h, _⟩ => h7 h⟩
              · rw [show (((t.2.2.1.2.1.length : Nat) : Int) != ((t.2.2.1.1.length : Nat) : Int)) = true from by simp; omega]
                exact ⟨false, rfl, no fun ⟨_, _, _, _, m', e, _, _, h, _⟩ => h6 h⟩
        · rw [show (List.getD t.1 0 0 != 0) = true from by simpa using h3]
          exact ⟨false, rfl, no fun ⟨_, _, h, _⟩ => h3 h⟩
      · rw [show (((t.1.length : Nat) : Int) != ((t.2.1.length : Nat) : Int)) = true from by simp; omega]
        exact ⟨false, rfl, no fun ⟨_, _, _, h, _⟩ => h1 h.symm⟩
    · rw [decide_eq_false h0]
      refine ⟨false, rfl, no fun ⟨h, _, _, h', m', e, _⟩ => ?_⟩
      rw [hm] at e
      injection e with e
      subst e
      cases hx : t.2.1 with
      | nil => rw [hx] at h'; simp at h'; omega
      | cons a l => rw [hx] at hm; exact h0 (inOrdL_pos a l m hm)
/-- Whether a table may be is the same in both. -/
theorem right_same (k : Nat) (t : Tb) (hk : 100010 ≤ k) (hv : TbV t) (hle : t.2.1.length ≤ 100005) : ∃ r, F46 k t = some ((r, ()), ()) ∧ F34 k t = some ((r, ()), ()) ∧ (r = true ↔ RightP t) := by
  have hB : Bd = 1099511627776 := rfl
  obtain ⟨r, h1, h2⟩ := F46_ok k t hk hv
  obtain ⟨r', h1', h2'⟩ := F34_ok k t hk hv (by omega) (by omega) (fun m hm => by have := (inOrdL_le _ _ _ hm).2; omega)
  have : r = r' := Bool.eq_iff_iff.2 (h2.trans h2'.symm)
  subst this
  exact ⟨r, h1, h1', h2⟩
end Go.Proofs.YtdgdeckaoajceaaE
/- Plain laws of tables (as in table). Conditions: none. -/
set_option linter.unusedSimpArgs false
set_option linter.unusedVariables false
namespace Go.Proofs.YtdgdeckaoajceaaE
theorem F60_eq (k : Nat) (a n : Int) (h0 : 0 < n) (h1 : n ≤ 4611686018427387904) : F60 k a n = some ((a % n, ()), ()) := F44_eq k a n h0 h1
abbrev BkT := (List (List Int) × (List Int × Unit))
/-- A machine of so many states and letters. -/
def NextP (K N : Nat) (l : List (List Int)) : Prop := l.length = K ∧ ∀ r ∈ l, r.length = N ∧ ∀ x ∈ r, 0 ≤ x ∧ x < (K : Int)
def OutP (K : Nat) (l : List Int) : Prop := l.length = K ∧ ∀ x ∈ l, 0 ≤ x ∧ x < 3
theorem F42_0_ok (k K N : Nat) (l : List Int) (i m : Int) (c6 c7 : BkT) (hK : 1 ≤ K) (hK2 : K ≤ 100) (hN : N ≤ 100) (hk : 1000 ≤ k) (h0 : 0 ≤ m) (h1 : m ≤ 1099511627776) :
    ∃ (m' : Int) (r : List Int), F42_0 k k l (K : Int) (N : Int) i m 0 c6 c7 [] = some ((l, (K : Int), (N : Int), i, m', ()), (c6, c7, r, ())) ∧ 0 ≤ m' ∧ m' ≤ 1099511627776 ∧ r.length = N ∧ ∀ x ∈ r, 0 ≤ x ∧ x < (K : Int) := by
  have h := loop_inv (fun n j s => F42_0 k n l (K : Int) (N : Int) i s.1 j c6 c7 s.2) N (fun j (s : Int × List Int) => 0 ≤ s.1 ∧ s.1 ≤ 1099511627776 ∧ s.2.length = j ∧ ∀ x ∈ s.2, 0 ≤ x ∧ x < (K : Int))
    (fun r => ∃ (m' : Int) (q : List Int), r = ((l, (K : Int), (N : Int), i, m', ()), (c6, c7, q, ())) ∧ 0 ≤ m' ∧ m' ≤ 1099511627776 ∧ q.length = N ∧ ∀ x ∈ q, 0 ≤ x ∧ x < (K : Int))
    (fun n s hI => by
      simp only [F42_0, dnlt, cond_false]
      exact ⟨_, rfl, _, _, rfl, hI⟩)
    (fun n j s hj hI => by
      right
      have hd := Int.ediv_nonneg hI.1 (show (0 : Int) ≤ (K : Int) by omega)
      have hd2 : s.1 / (K : Int) ≤ s.1 := Int.ediv_le_self _ hI.1
      refine ⟨(s.1 / (K : Int), s.2 ++ [s.1 % (K : Int)]), ⟨hd, by omega, by simp [hI.2.2.1], all_append hI.2.2.2 ⟨Int.emod_nonneg _ (by omega), Int.emod_lt_of_pos _ (by omega)⟩⟩, ?_⟩
      simp only [F42_0]
      rw [dlt hj, cond_true, if_pos (by omega), if_pos (by simp only [List.length_set, List.length_replicate]; omega), if_pos (by omega), wsucc j N hj (by omega), Int.tmod_eq_emod_of_nonneg hI.1, Int.tdiv_eq_ediv_of_nonneg hI.1, w64 _ (by omega) (by omega)]
      simp only [Option.bind_fun_some, one_list]) k (m, []) (by omega) ⟨h0, h1, rfl, fun x hx => by cases hx⟩
  obtain ⟨r, e, m', q, rfl, h⟩ := h
  exact ⟨m', q, e, h⟩
theorem F42_1_ok (k K N : Nat) (l : List Int) (c6 : BkT) (hK : 1 ≤ K) (hK2 : K ≤ 100) (hN : N ≤ 100) (hk : 1000 ≤ k) :
    ∃ (x : List (List Int)) (o : List Int), F42_1 k k l (K : Int) (N : Int) 0 c6 ([], ([], ())) = some ((), (c6, (x, (o, ())), ())) ∧ NextP K N x ∧ OutP K o := by
  have h := loop_inv (fun n i s => F42_1 k n l (K : Int) (N : Int) i c6 (s.1, (s.2, ()))) K (fun i (s : List (List Int) × List Int) => (s.1.length = i ∧ ∀ r ∈ s.1, r.length = N ∧ ∀ x ∈ r, 0 ≤ x ∧ x < (K : Int)) ∧ OutP i s.2)
    (fun r => ∃ (x : List (List Int)) (o : List Int), r = ((), (c6, (x, (o, ())), ())) ∧ NextP K N x ∧ OutP K o)
    (fun n s hI => by
      simp only [F42_1, dnlt, cond_false]
      exact ⟨_, rfl, _, _, rfl, hI⟩)
    (fun n i s hi hI => by
      right
      have hl1 : s.1.length = i := hI.1.1
      have hl2 : s.2.length = i := hI.2.1
      have one : ∀ m : Int, 0 ≤ m → m ≤ 1099511627776 → ∃ s' : List (List Int) × List Int, ((s'.1.length = i + 1 ∧ ∀ r ∈ s'.1, r.length = N ∧ ∀ x ∈ r, 0 ≤ x ∧ x < (K : Int)) ∧ OutP (i + 1) s'.2) ∧
          ((F42_0 k k l (K : Int) (N : Int) (i : Int) m 0 c6 (s.1, (s.2, ())) []).bind fun r6 =>
            if (List.length r6.2.2.1.1 + List.length (List.set (List.replicate 1 ([] : (List Int))) 0 r6.2.2.2.1)) * (24 * 2) ≤ 281474976710656 ∧ List.length r6.2.2.1.1 + List.length (List.set (List.replicate 1 ([] : (List Int))) 0 r6.2.2.2.1) ≤ 9223372036854775807 then
              if (List.length r6.2.2.1.2.1 + List.length (List.set (List.replicate 1 (0 : Int)) 0 (Int.tmod r6.1.2.2.2.2.1 3))) * (8 * 2) ≤ 281474976710656 ∧ List.length r6.2.2.1.2.1 + List.length (List.set (List.replicate 1 (0 : Int)) 0 (Int.tmod r6.1.2.2.2.2.1 3)) ≤ 9223372036854775807 then
                (F42_1 k n r6.1.1 r6.1.2.1 r6.1.2.2.1 (IntKind.wrap .i64 (r6.1.2.2.2.1 + 1)) r6.2.1 ((r6.2.2.1.1 ++ List.set (List.replicate 1 ([] : (List Int))) 0 r6.2.2.2.1), ((r6.2.2.1.2.1 ++ List.set (List.replicate 1 (0 : Int)) 0 (Int.tmod r6.1.2.2.2.2.1 3)), r6.2.2.1.2.2))).bind some
              else none
            else none) = F42_1 k n l (K : Int) (N : Int) ((i + 1 : Nat) : Int) c6 (s'.1, (s'.2, ())) := fun m h0 h1 => by
        obtain ⟨m', r, e, g0, g1, g2, g3⟩ := F42_0_ok k K N l (i : Int) m c6 (s.1, (s.2, ())) hK hK2 hN hk h0 h1
        refine ⟨(s.1 ++ [r], s.2 ++ [m' % 3]), ⟨⟨by simp [hl1], all_append hI.1.2 ⟨g2, g3⟩⟩, by simp [hl2], all_append hI.2.2 ⟨Int.emod_nonneg _ (by decide), Int.emod_lt_of_pos _ (by decide)⟩⟩, ?_⟩
        rw [e, Option.bind_some]
        simp only
        rw [if_pos (by simp only [List.length_set, List.length_replicate]; omega), if_pos (by simp only [List.length_set, List.length_replicate]; omega), wsucc i K hi (by omega), Int.tmod_eq_emod_of_nonneg g0]
        simp only [Option.bind_fun_some, one_list]
      simp only [F42_1]
      rw [dlt hi, cond_true]
      by_cases hc : i < l.length
      · have ew := F60_eq k l[i] 1099511627776 (by decide) (by decide)
        obtain ⟨s', p1, p2⟩ := one (l[i] % 1099511627776) (Int.emod_nonneg _ (by decide)) (Int.le_of_lt (Int.emod_lt_of_pos _ (by decide)))
        refine ⟨s', p1, ?_⟩
        rw [dlt hc, cond_true, if_pos (inR hc), Int.toNat_natCast, getD_lt _ _ _ hc, ew, Option.bind_some]
        exact p2
      · obtain ⟨s', p1, p2⟩ := one ((i : Int) * 7) (by omega) (by omega)
        refine ⟨s', p1, ?_⟩
        rw [show decide ((i : Int) < ((l.length : Nat) : Int)) = false from by simp; omega, cond_false, w64 ((i : Int) * 7) (by omega) (by omega)]
        exact p2) k ([], []) (by omega) ⟨⟨rfl, fun r hr => by cases hr⟩, rfl, fun r hr => by cases hr⟩
  obtain ⟨r, e, x, o, rfl, h⟩ := h
  exact ⟨x, o, e, h⟩
/-- How many states and letters. -/
def kst (a : Int) : Nat := (1 + a % 9).toNat
def klt (a : Int) : Nat := (1 + a % 3).toNat
theorem kst_range (a : Int) : 1 ≤ kst a ∧ kst a ≤ 9 ∧ (kst a : Int) = 1 + a % 9 := by
  have := Int.emod_nonneg a (show (9 : Int) ≠ 0 by decide)
  have := Int.emod_lt_of_pos a (show (0 : Int) < 9 by decide)
  unfold kst
  omega
theorem klt_range (a : Int) : 1 ≤ klt a ∧ klt a ≤ 3 ∧ (klt a : Int) = 1 + a % 3 := by
  have := Int.emod_nonneg a (show (3 : Int) ≠ 0 by decide)
  have := Int.emod_lt_of_pos a (show (0 : Int) < 3 by decide)
  unfold klt
  omega
theorem F42_ok (k : Nat) (a b : Int) (l : List Int) (hk : 1000 ≤ k) : ∃ (x : List (List Int)) (o : List Int), F42 k a b l = some (((x, (o, ())), ()), ()) ∧ NextP (kst a) (klt b) x ∧ OutP (kst a) o := by
  obtain ⟨k1, k2, k3⟩ := kst_range a
  obtain ⟨n1, n2, n3⟩ := klt_range b
  obtain ⟨x, o, e, h⟩ := F42_1_ok k (kst a) (klt b) l ([], ([], ())) k1 (by omega) (by omega) hk
  refine ⟨x, o, ?_, h⟩
  unfold F42
  rw [F60_eq k a 9 (by decide) (by decide), Option.bind_some, F60_eq k b 3 (by decide) (by decide), Option.bind_some]
  simp only
  rw [w64 _ (by omega) (by omega), w64 _ (by omega) (by omega), ← k3, ← n3, e, Option.bind_some]
def EmP (K : Nat) (l : List (List (List Int))) : Prop := l.length = K ∧ ∀ r ∈ l, r.length = 2 ∧ ∀ v ∈ r, v.length = 3 ∧ ∀ x ∈ v, 0 ≤ x ∧ x ≤ 1152921504606846976
theorem F43_ok (k : Nat) (a b : Int) (l : List Int) (hk : 1000 ≤ k) : ∃ (x : List (List Int)) (em : List (List (List Int))), F43 k a b l = some (((x, (em, ())), ()), ()) ∧ NextP (kst a) (klt b) x ∧ EmP (kst a) em := by
  obtain ⟨k1, k2, k3⟩ := kst_range a
  obtain ⟨x, o, e, hx, ho⟩ := F42_ok k a b l hk
  have hlo : o.length = kst a := ho.1
  have h := loop_inv (fun n i s => F43_0 k n i ([], ([], ())) ((), (o, ())) (x, (s, ()))) o.length (fun i (s : List (List (List Int))) => EmP i s)
    (fun r => ∃ em, r = ((), (([], ([], ())), (x, (em, ())), ())) ∧ EmP o.length em)
    (fun n s hI => by
      simp only [F43_0, dnlt, cond_false]
      exact ⟨_, rfl, _, rfl, hI⟩)
    (fun n i s hi hI => by
      right
      have hls : s.length = i := hI.1
      have hoi := ho.2 _ (List.getElem_mem hi)
      refine ⟨s ++ [[[o[i] % 2, 5, 1152921504606846976], [o[i] / 2, 0, o[i]]]], ⟨by simp [hls], all_append hI.2 ⟨rfl, fun v hv => ?_⟩⟩, ?_⟩
      · simp only [List.mem_cons, List.not_mem_nil, or_false] at hv
        rcases hv with rfl | rfl
        · refine ⟨rfl, fun y hy => ?_⟩
          simp only [List.mem_cons, List.not_mem_nil, or_false] at hy
          omega
        · refine ⟨rfl, fun y hy => ?_⟩
          simp only [List.mem_cons, List.not_mem_nil, or_false] at hy
          omega
      · simp only [F43_0]
        rw [dlt hi, cond_true, if_pos (inR hi), if_pos (inR hi), if_pos (inR hi), if_pos (by simp only [List.length_set, List.length_replicate]; omega), wsucc i _ hi (by omega), Int.toNat_natCast, getD_lt _ _ _ hi, Int.tmod_eq_emod_of_nonneg hoi.1, Int.tdiv_eq_ediv_of_nonneg hoi.1, w64 (o[i] / 2) (by omega) (by omega)]
        simp only [Option.bind_fun_some]
        rfl) k [] (by omega) ⟨rfl, fun r hr => by cases hr⟩
  obtain ⟨r, er, em, rfl, hem⟩ := h
  refine ⟨x, em, ?_, hx, by rw [hlo] at hem; exact hem⟩
  unfold F43
  rw [e, Option.bind_some]
  simp only
  rw [er, Option.bind_some]
end Go.Proofs.YtdgdeckaoajceaaE
/- Plain laws of tables (as in table). Conditions: none. -/
set_option linter.unusedSimpArgs false
set_option linter.unusedVariables false
namespace Go.Proofs.YtdgdeckaoajceaaE
theorem inOrdL_append : ∀ (l : List Int) (n : Int) (a m : Int), inOrdL n l = some m → 0 ≤ a → a ≤ m → inOrdL n (l ++ [a]) = some (if a = m then m + 1 else m)
  | [], n, a, m, h, h0, h1 => by
    injection h with h
    subst h
    rw [List.nil_append, inOrdL, if_neg (by omega), inOrdL]
  | b :: l, n, a, m, h, h0, h1 => by
    rw [List.cons_append]
    rw [inOrdL] at h ⊢
    split at h
    · cases h
    · rename_i hc
      rw [if_neg hc]
      exact inOrdL_append l _ a m h h0 h1
/-- Where letters change: rising, from 0 on, up to a bound. -/
def CutP (B : Int) (l : List Int) : Prop := 1 ≤ l.length ∧ List.getD l 0 0 = 0 ∧ (∀ i, i < l.length → 0 ≤ List.getD l i 0 ∧ List.getD l i 0 ≤ B) ∧ ∀ i, 0 < i → i < l.length → List.getD l (i - 1) 0 < List.getD l i 0
theorem CutP_append {B B' : Int} {l : List Int} {a : Int} (h : CutP B l) (h1 : List.getD l (l.length - 1) 0 < a) (h2 : a ≤ B') (h3 : B ≤ B') : CutP B' (l ++ [a]) := by
  obtain ⟨p, q, r, s⟩ := h
  have g0 : ∀ i, i < l.length → List.getD (l ++ [a]) i 0 = List.getD l i 0 := fun i hi => by
    rw [List.getD_eq_getElem?_getD, List.getD_eq_getElem?_getD, List.getElem?_append_left hi]
  have g1 : List.getD (l ++ [a]) l.length 0 = a := by
    rw [List.getD_eq_getElem?_getD, List.getElem?_append_right (Nat.le_refl _), Nat.sub_self]
    rfl
  have hlast := (r (l.length - 1) (by omega)).1
  refine ⟨by simp, by rw [g0 0 (by omega)]; exact q, fun i hi => ?_, fun i h0 hi => ?_⟩
  · by_cases hil : i < l.length
    · rw [g0 i hil]
      have := r i hil
      omega
    · rw [List.length_append, List.length_singleton] at hi
      obtain rfl : i = l.length := by omega
      rw [g1]
      omega
  · by_cases hil : i < l.length
    · rw [g0 i hil, g0 (i - 1) (by omega)]
      exact s i h0 hil
    · rw [List.length_append, List.length_singleton] at hi
      obtain rfl : i = l.length := by omega
      rw [g1, g0 (l.length - 1) (by omega)]
      exact h1
theorem F16_0_ok (k N : Nat) (cs : List Int) (z : Tb) (x3 : BkT × ((List (List Int) × (List (List (List Int)) × Unit)) × Unit)) (hN : 1 ≤ N) (hN3 : N ≤ 3) (hk : 1000 ≤ k) :
    ∃ (nx : Int) (cu le : List Int), F16_0 k k cs (N : Int) 1 0 z ([0], ([0], x3)) = some (((N : Int), nx, ()), (z, (cu, (le, x3)), ())) ∧ 1 ≤ nx ∧ nx ≤ N ∧ cu.length = le.length ∧ cu.length ≤ 7 ∧ CutP 7000 cu ∧ inOrdL 0 le = some nx := by
  have h := loop_inv (fun n i (s : Int × List Int × List Int) => F16_0 k n cs (N : Int) s.1 i z (s.2.1, (s.2.2, x3))) (min cs.length 6) (fun i (s : Int × List Int × List Int) => 1 ≤ s.1 ∧ s.1 ≤ N ∧ s.2.1.length = i + 1 ∧ s.2.2.length = i + 1 ∧ CutP ((i : Int) * 1001) s.2.1 ∧ inOrdL 0 s.2.2 = some s.1)
    (fun r => ∃ (nx : Int) (cu le : List Int), r = (((N : Int), nx, ()), (z, (cu, (le, x3)), ())) ∧ 1 ≤ nx ∧ nx ≤ N ∧ cu.length = le.length ∧ cu.length ≤ 7 ∧ CutP 7000 cu ∧ inOrdL 0 le = some nx)
    (fun n s hI => by
      obtain ⟨h1, h2, h3, h4, h5, h6⟩ := hI
      have hm : min cs.length 6 ≤ 6 := Nat.min_le_right _ _
      refine ⟨_, ?_, s.1, s.2.1, s.2.2, rfl, h1, h2, by omega, by omega, ⟨h5.1, h5.2.1, fun i hi => ?_, h5.2.2.2⟩, h6⟩
      · simp only [F16_0]
        by_cases hc : cs.length ≤ 6
        · rw [show decide (((min cs.length 6 : Nat) : Int) < ((cs.length : Nat) : Int)) = false from by simp; omega, cond_false]
        · rw [show decide (((min cs.length 6 : Nat) : Int) < ((cs.length : Nat) : Int)) = true from by simp; omega, cond_true, show decide (((min cs.length 6 : Nat) : Int) < 6) = false from by simp; omega, cond_false]
      · have := h5.2.2.1 i hi
        omega)
    (fun n i s hi hI => by
      obtain ⟨h1, h2, h3, h4, h5, h6⟩ := hI
      right
      have hi1 : i < cs.length := by omega
      have hi6 : i < 6 := by omega
      have hic : i < s.2.1.length := by omega
      -- the number
      have hw0 := Int.emod_nonneg cs[i] (show (1073741824 : Int) ≠ 0 by decide)
      have hw1 := Int.emod_lt_of_pos cs[i] (show (0 : Int) < 1073741824 by decide)
      have hz0 := Int.emod_nonneg (cs[i] % 1073741824) (show (N : Int) ≠ 0 by omega)
      have hz1 := Int.emod_lt_of_pos (cs[i] % 1073741824) (show (0 : Int) < (N : Int) by omega)
      have hl := h5.2.2.1 i hic
      have hg := getD_lt s.2.1 i 0 hic
      rw [hg] at hl
      refine ⟨(if min (cs[i] % 1073741824 % (N : Int)) s.1 = s.1 then s.1 + 1 else s.1, s.2.1 ++ [s.2.1[i] + 1 + cs[i] % 1073741824 / 8 % 1000], s.2.2 ++ [min (cs[i] % 1073741824 % (N : Int)) s.1]), ⟨?_, ?_, by simp [h3], by simp [h4], CutP_append h5 ?_ ?_ ?_, ?_⟩, ?_⟩
      · simp only
        split <;> omega
      · simp only
        split <;> omega
      · rw [h3, Nat.add_sub_cancel, hg]
        omega
      · omega
      · omega
      · exact inOrdL_append _ 0 _ _ h6 (by omega) (by omega)
      · simp only [F16_0]
        rw [dlt hi1, cond_true, show decide ((i : Int) < 6) = true from by simp; omega, cond_true, if_pos (inR hi1), Int.toNat_natCast, getD_lt _ _ _ hi1, F44_eq k _ 1073741824 (by decide) (by decide), Option.bind_some]
        simp only
        rw [if_pos (by omega), Int.tmod_eq_emod_of_nonneg hw0, Int.tdiv_eq_ediv_of_nonneg hw0, hg, w64 (cs[i] % 1073741824 / 8) (by omega) (by omega), Int.tmod_eq_emod_of_nonneg (show 0 ≤ cs[i] % 1073741824 / 8 by omega), w64 (s.2.1[i] + 1) (by omega) (by omega), w64 (s.2.1[i] + 1 + _) (by omega) (by omega)]
        by_cases hc : cs[i] % 1073741824 % (N : Int) > s.1
        · rw [decide_eq_true hc, cond_true, beq_self_eq_true, cond_true, if_pos (inR hic), if_pos (by simp only [List.length_set, List.length_replicate]; omega), if_pos (by simp only [List.length_set, List.length_replicate]; omega), wsucc i 6 hi6 (by omega), w64 (s.1 + 1) (by omega) (by omega)]
          rw [show min (cs[i] % 1073741824 % (N : Int)) s.1 = s.1 by omega, if_pos rfl]
          simp only [Option.bind_fun_some, one_list]
        · rw [decide_eq_false hc, cond_false, show min (cs[i] % 1073741824 % (N : Int)) s.1 = cs[i] % 1073741824 % (N : Int) by omega]
          by_cases he : cs[i] % 1073741824 % (N : Int) = s.1
          · rw [if_pos he, he, beq_self_eq_true, cond_true, if_pos (inR hic), if_pos (by simp only [List.length_set, List.length_replicate]; omega), if_pos (by simp only [List.length_set, List.length_replicate]; omega), wsucc i 6 hi6 (by omega), w64 (s.1 + 1) (by omega) (by omega)]
            simp only [Option.bind_fun_some, one_list]
          · rw [if_neg he, beq_false_of_ne he, cond_false, if_pos (inR hic), if_pos (by simp only [List.length_set, List.length_replicate]; omega), if_pos (by simp only [List.length_set, List.length_replicate]; omega), wsucc i 6 hi6 (by omega)]
            simp only [Option.bind_fun_some, one_list]) k (1, [0], [0]) (by omega) ⟨by omega, by omega, rfl, rfl, ⟨by decide, rfl, fun i hi => ?_, fun i h0 hi => ?_⟩, rfl⟩
  · obtain ⟨r, e, nx, cu, le, rfl, h⟩ := h
    exact ⟨nx, cu, le, e, h⟩
  · simp only [List.length_singleton] at hi
    obtain rfl : i = 0 := by omega
    exact ⟨by decide, by simp⟩
  · simp only [List.length_singleton] at hi
    omega
theorem F16_1_ok (k N : Nat) (z : Tb) (x3 : BkT × ((List (List Int) × (List (List (List Int)) × Unit)) × Unit)) (hN3 : N ≤ 3) : ∀ (d n : Nat) (nx : Int) (cu le : List Int) (m : Nat), (N : Int) - nx = d → d < n → 1 ≤ nx → nx ≤ N → cu.length = le.length → cu.length + d ≤ 10 → m + d ≤ 3 → CutP (7000 + 3 * m) cu → inOrdL 0 le = some nx →
    ∃ (cu' le' : List Int), F16_1 k n (N : Int) nx z (cu, (le, x3)) = some ((), (z, (cu', (le', x3)), ())) ∧ cu'.length = le'.length ∧ cu'.length ≤ 10 ∧ CutP 8000 cu' ∧ inOrdL 0 le' = some (N : Int)
  | d, 0, nx, cu, le, m, _, hn, _, _, _, _, _, _, _ => by omega
  | d, n + 1, nx, cu, le, m, hd, hn, h1, h2, h3, h4, hm, h5, h6 => by
    simp only [F16_1]
    by_cases hc : nx < N
    · obtain ⟨d', rfl⟩ : ∃ d', d = d' + 1 := ⟨d - 1, by omega⟩
      have hcl := h5.1
      have hi : cu.length - 1 < cu.length := by omega
      have hl := h5.2.2.1 _ hi
      rw [decide_eq_true hc, cond_true, w64 (((cu.length : Nat) : Int) - 1) (by omega) (by omega), if_pos (by omega), show Int.toNat (((cu.length : Nat) : Int) - 1) = cu.length - 1 by omega, w64 (List.getD cu (cu.length - 1) 0 + 3) (by omega) (by omega),
        if_pos (by simp only [List.length_set, List.length_replicate]; omega), if_pos (by simp only [List.length_set, List.length_replicate]; omega), w64 (nx + 1) (by omega) (by omega)]
      simp only [Option.bind_fun_some, one_list]
      refine F16_1_ok k N z x3 hN3 d' n (nx + 1) _ _ (m + 1) (by omega) (by omega) (by omega) (by omega) (by simp [h3]) (by simp; omega) (by omega) (CutP_append h5 (by omega) (by omega) (by omega)) ?_
      have := inOrdL_append le 0 nx nx h6 (by omega) (Int.le_refl _)
      rwa [if_pos rfl] at this
    · rw [decide_eq_false hc, cond_false]
      refine ⟨cu, le, rfl, h3, by omega, ⟨h5.1, h5.2.1, fun i hi => ?_, h5.2.2.2⟩, ?_⟩
      · have := h5.2.2.1 i hi
        omega
      · rw [h6]
        congr 1
        omega
theorem F16_2_ok (k : Nat) (z : Tb) (cu le : List Int) (x : List (List Int)) (o : List Int) (f : ((List (List Int) × (List (List (List Int)) × Unit)) × Unit)) (ho : ∀ x ∈ o, 0 ≤ x ∧ x < 3) (hl : o.length ≤ 100) (hk : 1000 ≤ k) :
    ∃ o' : List Int, F16_2 k k 0 z (cu, (le, ((x, (o, ())), f))) = some ((), (z, (cu, (le, ((x, (o', ())), f))), ())) ∧ o'.length = o.length ∧ ∀ x ∈ o', 0 ≤ x ∧ x ≤ 1 := by
  have h := loop_inv (fun n i (s : List Int) => F16_2 k n i z (cu, (le, ((x, (s, ())), f)))) o.length (fun i (s : List Int) => s.length = o.length ∧ (∀ x ∈ s, 0 ≤ x ∧ x < 3) ∧ ∀ j, j < i → List.getD s j 0 ≤ 1)
    (fun r => ∃ o' : List Int, r = ((), (z, (cu, (le, ((x, (o', ())), f))), ())) ∧ o'.length = o.length ∧ ∀ x ∈ o', 0 ≤ x ∧ x ≤ 1)
    (fun n s hI => by
      obtain ⟨h1, h2, h3⟩ := hI
      refine ⟨_, ?_, s, rfl, h1, fun y hy => ?_⟩
      · rw [← h1]
        simp only [F16_2, dnlt, cond_false]
      · obtain ⟨j, hj, rfl⟩ := List.getElem_of_mem hy
        have := h3 j (by omega)
        rw [getD_lt _ _ _ hj] at this
        have := (h2 _ hy).1
        omega)
    (fun n i s hi hI => by
      obtain ⟨h1, h2, h3⟩ := hI
      right
      have hi' : i < s.length := by omega
      have hs := h2 _ (List.getElem_mem hi')
      refine ⟨s.set i (s[i] % 2), ⟨by simp [h1], fun y hy => ?_, fun j hj => ?_⟩, ?_⟩
      · rcases List.mem_or_eq_of_mem_set hy with h | h
        · exact h2 y h
        · omega
      · by_cases hij : j = i
        · subst hij
          rw [List.getD_eq_getElem?_getD, List.getElem?_set_self hi']
          simp only [Option.getD_some]
          omega
        · have := h3 j (by omega)
          rw [List.getD_eq_getElem?_getD, List.getElem?_set_ne (by omega), ← List.getD_eq_getElem?_getD]
          exact this
      · simp only [F16_2]
        rw [dlt hi', cond_true, if_pos (inR hi'), if_pos (inR hi'), wsucc i _ hi' (by omega), Int.toNat_natCast, getD_lt _ _ _ hi', Int.tmod_eq_emod_of_nonneg hs.1]
        simp only [Option.bind_fun_some]) k o (by omega) ⟨rfl, ho, fun j hj => by omega⟩
  obtain ⟨r, e, o', rfl, h⟩ := h
  exact ⟨o', e, h⟩
/-- What tables of numbers are. -/
def MakeP (K N : Nat) (t : Tb) : Prop := CutP 8000 t.1 ∧ t.1.length = t.2.1.length ∧ t.1.length ≤ 10 ∧ inOrdL 0 t.2.1 = some (N : Int) ∧ NextP K N t.2.2.1.1 ∧ t.2.2.1.2.1.length = K ∧ (∀ x ∈ t.2.2.1.2.1, 0 ≤ x ∧ x ≤ 1) ∧ List.getD t.2.2.1.2.1 0 0 = 1 ∧ NextP K N t.2.2.2.1.1 ∧ EmP K t.2.2.2.1.2.1
theorem F16_ok (k : Nat) (a b : Int) (ns ms cs : List Int) (hk : 1000 ≤ k) : ∃ t : Tb, F16 k a b ns ms cs = some ((t, ()), ()) ∧ MakeP (kst a) (klt b) t := by
  obtain ⟨k1, k2, k3⟩ := kst_range a
  obtain ⟨n1, n2, n3⟩ := klt_range b
  obtain ⟨x, o, e1, hx, ho⟩ := F42_ok k a b ns hk
  obtain ⟨y, em, e2, hy, hem⟩ := F43_ok k a b ms hk
  have hxl : x.length = kst a := hx.1
  have h0 : 0 < x.length := by omega
  have hr := (hx.2 _ (List.getElem_mem h0)).1
  obtain ⟨nx, cu, le, e3, p1, p2, p3, p4, p5, p6⟩ := F16_0_ok k (klt b) cs Z0 ((x, (o, ())), ((y, (em, ())), ())) n1 n2 hk
  obtain ⟨cu', le', e4, q1, q2, q3, q4⟩ := F16_1_ok k (klt b) Z0 ((x, (o, ())), ((y, (em, ())), ())) n2 ((klt b : Int) - nx).toNat k nx cu le 0 (by omega) (by omega) p1 p2 p3 (by omega) (by omega) p5 p6
  obtain ⟨o', e5, r1, r2⟩ := F16_2_ok k Z0 cu' le' x o ((y, (em, ())), ()) ho.2 (by rw [ho.1]; omega) hk
  have hol : o'.length = kst a := by rw [r1]; exact ho.1
  refine ⟨(cu', (le', ((x, (o'.set 0 1, ())), ((y, (em, ())), ())))), ?_, q3, q1, q2, q4, hx, by simp [hol], fun z hz => ?_, ?_, hy, hem⟩
  · unfold F16
    rw [e1, Option.bind_some, e2, Option.bind_some]
    simp only
    rw [if_pos (by omega), show Int.toNat 0 = 0 from rfl, getD_lt _ _ _ h0, hr]
    simp only [one_list]
    rw [e3, Option.bind_some]
    simp only
    rw [e4, Option.bind_some]
    simp only
    rw [e5, Option.bind_some]
    simp only
    rw [if_pos (by omega)]
  · rcases List.mem_or_eq_of_mem_set hz with h | h
    · exact r2 z h
    · omega
  · show List.getD (o'.set 0 1) 0 0 = 1
    rw [List.getD_eq_getElem?_getD, List.getElem?_set_self (by omega)]
    rfl
end Go.Proofs.YtdgdeckaoajceaaE
/- Plain laws of tables (as in table). Conditions: none. -/
set_option linter.unusedSimpArgs false
set_option linter.unusedVariables false
namespace Go.Proofs.YtdgdeckaoajceaaE
theorem leads_ok {K N : Nat} {l : List (List Int)} (h : NextP K N l) (h1 : 1 ≤ K) (h2 : K ≤ 100) : leadsB l (N : Int) = true := by
  have hl : l.length = K := h.1
  unfold leadsB
  rw [decide_eq_true (by omega), Bool.true_and, Bool.not_eq_true', List.any_eq_false]
  intro r hr
  rw [Bool.not_eq_true, Bool.or_eq_false_iff]
  refine ⟨by rw [(h.2 r hr).1]; exact bne_self_eq_false _, ?_⟩
  rw [List.any_eq_false]
  intro x hx
  have := (h.2 r hr).2 x hx
  unfold noSt
  simp only [Bool.or_eq_true, decide_eq_true_eq, not_or]
  omega
theorem max1 {l : List Int} (h : ∀ x ∈ l, 0 ≤ x ∧ x ≤ 1) (h0 : List.getD l 0 0 = 1) : maxL l = 1 := by
  cases l with
  | nil => cases h0
  | cons a l =>
    simp only [List.getD_cons_zero] at h0
    subst h0
    have h1 := maxL_ge (1 :: l) 1 (by simp)
    have := (h _ (maxL_mem (1 :: l) (by simp))).2
    omega
theorem MakeP_right {K N : Nat} {t : Tb} (h : MakeP K N t) (hK : 1 ≤ K) (hK2 : K ≤ 9) : RightP t := by
  obtain ⟨h1, h2, h3, h4, h5, h6, h7, h8, h9, h10⟩ := h
  have hb : t.2.2.1.1.length = K := h5.1
  have hf : t.2.2.2.1.1.length = K := h9.1
  have he : t.2.2.2.1.2.1.length = K := h10.1
  refine ⟨h1.1, by omega, h1.2.1, h2.symm, N, h4, fun i hi => ?_, leads_ok h5 hK (by omega), by omega, leads_ok h9 hK (by omega), by omega, fun a ha => ?_, fun l hl => ?_⟩
  · have a1 := h1.2.2.1 i hi
    unfold cutBad
    rw [decide_eq_false (by omega), Bool.false_or]
    by_cases h0 : 0 < i
    · have := h1.2.2.2 i h0 hi
      rw [decide_eq_false (p := List.getD t.1 i 0 ≤ _) (by omega), Bool.and_false]
    · rw [decide_eq_false h0, Bool.false_and]
  · have := h7 a ha
    omega
  · rw [max1 h7 h8]
    have := (h10.2 l hl).1
    refine ⟨by omega, fun v hv x hx => ?_⟩
    have := ((h10.2 l hl).2 v hv).2 x hx
    unfold noC
    rw [decide_eq_false (by omega), decide_eq_false (by omega)]
    rfl
end Go.Proofs.YtdgdeckaoajceaaE
/- Plain laws of seg: the program's Decode. Conditions: none. -/
set_option linter.unusedSimpArgs false
set_option linter.unusedVariables false
namespace Go.Proofs.YtdgdeckaoajceaaE
open Go.Proofs.YtdgdeckaoajceaaU (bt bt_range manyB loB hiB mayB longFrom longN decGo scal offs)
def chk78 (c : Int) : Bool := match F78 0 c with
  | some (((a, (b, (d, ()))), ()), ()) => a == manyB c && (b == loB c && d == hiB c)
  | none => false
theorem chk78_all : ∀ c : Fin 256, chk78 (c.val : Int) = true := by decide +kernel
theorem F78_all (c : Fin 256) : F78 0 (c.val : Int) = some (((manyB (c.val : Int), (loB (c.val : Int), (hiB (c.val : Int), ()))), ()), ()) := by
  have h := chk78_all c
  unfold chk78 at h
  split at h
  · rename_i a b d e
    simp only [Bool.and_eq_true, beq_iff_eq] at h
    rw [e, h.1, h.2.1, h.2.2]
  · cases h
theorem F78_eq (k : Nat) (c : Int) (h0 : 0 ≤ c) (h1 : c ≤ 255) : F78 k c = some (((manyB c, (loB c, (hiB c, ()))), ()), ()) := by
  have h := F78_all ⟨c.toNat, by omega⟩
  simp only [Int.toNat_of_nonneg h0] at h
  exact h
theorem F79_eq (k : Nat) (m c n d : Int) : F79 k (m, (loB c, (hiB c, ()))) n d = some ((mayB c n d, ()), ()) := by
  unfold F79 mayB
  by_cases h : n = 0
  · subst h
    rw [beq_self_eq_true, cond_true, if_pos rfl]
    by_cases h2 : d ≥ loB c
    · have h3 : loB c ≤ d := h2
      simp only
      rw [decide_eq_true h2, cond_true, Bool.true_and]
    · have h3 : ¬ loB c ≤ d := h2
      simp only
      rw [decide_eq_false h2, cond_false, Bool.false_and]
  · rw [beq_false_of_ne h, cond_false, if_neg h]
    by_cases h2 : d ≥ 128
    · have h3 : (128 : Int) ≤ d := h2
      rw [decide_eq_true h2, cond_true, Bool.true_and]
    · have h3 : ¬ (128 : Int) ≤ d := h2
      rw [decide_eq_false h2, cond_false, Bool.false_and]
theorem many_le (c : Int) : 0 ≤ manyB c ∧ manyB c ≤ 3 := by
  unfold manyB
  repeat' split
  all_goals omega
theorem F69_0_eq (k : Nat) (s : ByteArray) (hs : s.size ≤ Bd) : ∀ (j n : Nat) (x : Int), x + j = 3 → 0 ≤ x → j < n →
    F69_0 k n s (manyB (bt s 0), (loB (bt s 0), (hiB (bt s 0), ()))) x (manyB (bt s 0), (loB (bt s 0), (hiB (bt s 0), ()))) = some ((longFrom s j x, ()), ())
  | j, 0, x, _, _, h => by omega
  | 0, n + 1, x, hx, h0, h => by
    have := many_le (bt s 0)
    simp only [F69_0]
    rw [decide_eq_false (by omega), cond_false]
    rfl
  | j + 1, n + 1, x, hx, h0, h => by
    have hB : Bd = 1099511627776 := rfl
    simp only [F69_0]
    rw [longFrom]
    by_cases c1 : x < manyB (bt s 0)
    · rw [decide_eq_true c1, cond_true, w64 (x + 1) (by omega) (by omega)]
      by_cases c2 : x + 1 < (s.size : Int)
      · rw [decide_eq_true c2, cond_true, if_pos ⟨by omega, c2⟩, F79_eq, Option.bind_some]
        simp only
        cases c3 : mayB (bt s 0) x (byteAt s (x + 1)) with
        | true =>
          rw [cond_true, F69_0_eq k s hs j n (x + 1) (by omega) (by omega) (by omega), if_pos ⟨c1, c2, rfl⟩]
          rfl
        | false =>
          rw [cond_false, if_neg]
          intro h
          cases h.2.2
      · rw [decide_eq_false c2, cond_false, if_neg (fun h => c2 h.2.1)]
    · rw [decide_eq_false c1, cond_false, if_neg (fun h => c1 h.1)]
theorem longFrom_bound (s : ByteArray) : ∀ k n, n ≤ longFrom s k n ∧ longFrom s k n ≤ n + k
  | 0, n => by unfold longFrom; omega
  | k + 1, n => by
    unfold longFrom
    have h := longFrom_bound s k (n + 1)
    split <;> omega
theorem longN_bound (s : ByteArray) : 1 ≤ longN s ∧ longN s ≤ 4 := by
  have := longFrom_bound s 3 0
  unfold longN
  omega
theorem F69_eq (k : Nat) (s : ByteArray) (hk : 9 ≤ k) (h0 : 0 < s.size) (hs : s.size ≤ Bd) : F69 k s = some ((longN s, ()), ()) := by
  have hb := bt_range s 0
  have hl := longFrom_bound s 3 0
  unfold F69
  rw [if_pos (by omega), F78_eq k _ hb.1 hb.2, Option.bind_some]
  simp only
  rw [F69_0_eq k s hs 3 k 0 (by omega) (by omega) (by omega), Option.bind_some]
  simp only
  rw [w64 _ (by omega) (by omega)]
  rfl
theorem F70_eq (k : Nat) (l : List Int) (h : l.length ≤ 1099511627776) : F70 k l = some ((l, ()), ()) := by
  unfold F70
  cases l with
  | nil => rfl
  | cons a l =>
    rw [show ((((a :: l).length : Nat) : Int) == 0) = false from nz (by simp), cond_false, if_pos (by simp only [List.replicate_zero, List.length_nil]; omega)]
    rfl
theorem extract_sz (s : ByteArray) (p : Nat) : (s.extract p s.size).size = s.size - p := Go.Proofs.YtdgdeckaoajceaaU.extract_size s p
theorem F47_0_eq (k : Nat) (s a0 : ByteArray) (e : a0 = s) (hk : 9 ≤ k) (hs : s.size ≤ 1073741824) : ∀ (m n pos : Nat) (nx : Int) (xs ys : List Int), s.size < pos + m → m < n → 0 ≤ nx → nx ≤ 1073741900 → xs.length ≤ pos → ys.length ≤ pos →
    F47_0 k s n pos a0 nx () xs ys = some ((a0, ()), ((decGo s m pos nx xs ys).1, (decGo s m pos nx xs ys).2, ()))
  | m, 0, pos, nx, xs, ys, _, h, _, _, _, _ => by omega
  | 0, n + 1, pos, nx, xs, ys, hp, _, _, _, _, _ => by
    simp only [F47_0]
    rw [decide_eq_false (by omega), cond_false]
    rfl
  | m + 1, n + 1, pos, nx, xs, ys, hp, hn, h0, h1, hx, hy => by
    have hB : Bd = 1099511627776 := rfl
    simp only [F47_0]
    rw [decGo]
    by_cases c1 : pos < s.size
    · have hw := Go.Proofs.YtdgdeckaoajceaaU.width_pos s pos c1
      have hr := decode_le s pos
      rw [decide_eq_true c1, cond_true, if_pos c1]
      by_cases c2 : (pos : Int) < nx
      · rw [decide_eq_true c2, cond_true, if_pos c2, F47_0_eq k s a0 e hk hs m n _ nx xs ys (by unfold width; omega) (by omega) h0 h1 (by omega) (by omega)]
        rfl
      · have hes := extract_sz s pos
        have hlb := longN_bound (s.extract pos s.size)
        rw [decide_eq_false c2, cond_false, if_neg c2]
        rw [if_pos (by simp only [List.length_set, List.length_replicate]; omega), if_pos (by simp only [List.length_set, List.length_replicate]; omega)]
        subst e
        rw [if_pos (by omega), Int.toNat_natCast, Int.toNat_natCast, F69_eq k _ hk (by omega) (by omega), Option.bind_some]
        simp only
        rw [w64 _ (by omega) (by omega), w64 ((rune a0 pos : Nat) : Int) (by unfold rune; omega) (by unfold rune; omega)]
        simp only [one_list]
        rw [F47_0_eq k a0 a0 rfl hk hs m n _ _ _ _ (by unfold width; omega) (by omega) (by omega) (by omega) (by simp only [List.length_append, List.length_singleton]; unfold width; omega) (by simp only [List.length_append, List.length_singleton]; unfold width; omega)]
        rfl
    · rw [decide_eq_false c1, cond_false, if_neg c1]
theorem scal_len (s : ByteArray) : (scal s).length ≤ s.size := by
  have : ∀ k p, (Go.Proofs.YtdgdeckaoajceaaU.dec s k p).length ≤ k := by
    intro k
    induction k with
    | zero => intro p; exact Nat.le_refl _
    | succ k ih =>
      intro p
      rw [Go.Proofs.YtdgdeckaoajceaaU.dec]
      split
      · rw [List.length_cons]; have := ih (p + (Go.Proofs.YtdgdeckaoajceaaU.nx s p).2.toNat); omega
      · simp
  unfold scal
  rw [List.length_map]
  exact this _ _
theorem F47_eq (k : Nat) (s : ByteArray) (hk : s.size + 9 ≤ k) (hs : s.size ≤ 1073741824) : F47 k s = some ((scal s, offs s, ()), ()) := by
  have h := F47_0_eq k s s rfl (by omega) hs (s.size + 1) k 0 0 [] [] (by omega) (by omega) (by omega) (by omega) (by simp) (by simp)
  have hg := Go.Proofs.YtdgdeckaoajceaaU.decGo_eq s (s.size + 1) 0 0 [] [] (by omega) (by omega) (fun j h1 h2 => by omega) s.size (by omega)
  rw [show (((0 : Nat)) : Int) = 0 from rfl] at hg
  have hl := scal_len s
  have h2 : offs s = (decGo s (s.size + 1) 0 0 [] []).2 ++ [(s.size : Int)] := by
    rw [hg]
    simp [offs]
  have h1 : scal s = (decGo s (s.size + 1) 0 0 [] []).1 := by
    rw [hg]
    simp [scal]
  have hol : ((decGo s (s.size + 1) 0 0 [] []).2).length ≤ s.size := by
    rw [hg]
    unfold scal at hl
    simpa using hl
  unfold F47
  rw [h, Option.bind_some]
  simp only
  rw [← h1, F70_eq k _ (by omega), Option.bind_some]
  simp only [one_list]
  rw [if_pos (by simp only [List.length_singleton]; omega), ← h2, F70_eq k _ (by rw [h2, List.length_append, List.length_singleton]; omega), Option.bind_some]
end Go.Proofs.YtdgdeckaoajceaaE
/- Plain laws of seg: the document's Decode. Conditions: none. -/
set_option linter.unusedSimpArgs false
set_option linter.unusedVariables false
namespace Go.Proofs.YtdgdeckaoajceaaE
open Go.Proofs.YtdgdeckaoajceaaU (bt bt_range manyB loB hiB scal offs nx nxL nx_len nx_extract extract_size)
def bAnd (a b : Int) : Int := IntKind.wrap .i64 (((BitVec.ofInt (IntKind.bits .i64) a &&& BitVec.ofInt (IntKind.bits .i64) b).toNat : Nat) : Int)
def bOr (a b : Int) : Int := IntKind.wrap .i64 (((BitVec.ofInt (IntKind.bits .i64) a ||| BitVec.ofInt (IntKind.bits .i64) b).toNat : Nat) : Int)
theorem ofInt_i64 (a : Nat) (ha : a < 9223372036854775808) : (BitVec.ofInt (IntKind.bits .i64) (a : Int)).toNat = a := by
  show (BitVec.ofInt 64 (a : Int)).toNat = a
  rw [BitVec.ofInt_natCast, BitVec.toNat_ofNat]; exact Nat.mod_eq_of_lt (by omega)
theorem or_nat (a b : Nat) (ha : a < 9223372036854775808) (hb : b < 9223372036854775808) : bOr (a : Int) (b : Int) = ((a ||| b : Nat) : Int) := by
  have hx : a ||| b < 2 ^ 63 := Nat.or_lt_two_pow (by omega) (by omega)
  unfold bOr
  rw [BitVec.toNat_or, ofInt_i64 a ha, ofInt_i64 b hb, w64 _ (by omega) (by omega)]
theorem or_low (r b : Int) (h0 : 0 ≤ r) (h1 : r ≤ 1099511627776) (h2 : 0 ≤ b) (h3 : b < 64) : bOr (IntKind.wrap .i64 (r * 64)) b = r * 64 + b := by
  rw [w64 _ (by omega) (by omega)]
  obtain ⟨n, rfl⟩ := Int.eq_ofNat_of_zero_le h0
  obtain ⟨m, rfl⟩ := Int.eq_ofNat_of_zero_le h2
  rw [show ((n : Int) * 64) = ((2 ^ 6 * n : Nat) : Int) from by omega, or_nat _ _ (by omega) (by omega), ← Nat.two_pow_add_eq_or_of_lt (by omega)]
  omega
theorem and_all (m : Int) (f : Int → Int) (h : ∀ c : Fin 256, bAnd (c.val : Int) m = f (c.val : Int)) (b : Int) (h0 : 0 ≤ b) (h1 : b ≤ 255) : bAnd b m = f b := by
  have := h ⟨b.toNat, by omega⟩
  simpa [Int.toNat_of_nonneg h0] using this
theorem and63 (b : Int) (h0 : 0 ≤ b) (h1 : b ≤ 255) : bAnd b 63 = b % 64 := and_all 63 (· % 64) (by decide +kernel) b h0 h1
theorem and31 (b : Int) (h0 : 0 ≤ b) (h1 : b ≤ 255) : bAnd b 31 = b % 32 := and_all 31 (· % 32) (by decide +kernel) b h0 h1
theorem and15 (b : Int) (h0 : 0 ≤ b) (h1 : b ≤ 255) : bAnd b 15 = b % 16 := and_all 15 (· % 16) (by decide +kernel) b h0 h1
theorem and7 (b : Int) (h0 : 0 ≤ b) (h1 : b ≤ 255) : bAnd b 7 = b % 8 := and_all 7 (· % 8) (by decide +kernel) b h0 h1
theorem F73_eq (k : Nat) (b0 b1 : Int) : F73 k b0 b1 = some ((decide (loB b0 ≤ b1 ∧ b1 ≤ hiB b0), ()), ()) := by
  have key : ∀ (lo hi : Int), loB b0 = lo → hiB b0 = hi → (bif decide (b1 ≥ lo) then some ((decide (b1 ≤ hi), ()), ()) else some ((false, ()), ())) = some ((decide (loB b0 ≤ b1 ∧ b1 ≤ hiB b0), ()), ()) := by
    intro lo hi h1 h2
    rw [h1, h2]
    by_cases h : b1 ≥ lo
    · rw [decide_eq_true h, cond_true]
      congr 3
      apply decide_eq_decide.2
      omega
    · rw [decide_eq_false h, cond_false]
      congr 3
      symm
      apply decide_eq_false
      omega
  unfold F73
  by_cases h1 : b0 = 224
  · rw [h1, beq_self_eq_true, cond_true, ← h1]; exact key _ _ (by unfold loB; rw [if_pos h1]) (by unfold hiB; rw [if_neg (by omega), if_neg (by omega)])
  rw [beq_false_of_ne h1, cond_false]
  by_cases h2 : b0 = 237
  · rw [h2, beq_self_eq_true, cond_true, ← h2]; exact key _ _ (by unfold loB; rw [if_neg (by omega), if_neg (by omega)]) (by unfold hiB; rw [if_pos h2])
  rw [beq_false_of_ne h2, cond_false]
  by_cases h3 : b0 = 240
  · rw [h3, beq_self_eq_true, cond_true, ← h3]; exact key _ _ (by unfold loB; rw [if_neg (by omega), if_pos h3]) (by unfold hiB; rw [if_neg (by omega), if_neg (by omega)])
  rw [beq_false_of_ne h3, cond_false]
  by_cases h4 : b0 = 244
  · rw [h4, beq_self_eq_true, cond_true, ← h4]; exact key _ _ (by unfold loB; rw [if_neg (by omega), if_neg (by omega)]) (by unfold hiB; rw [if_neg (by omega), if_pos h4])
  rw [beq_false_of_ne h4, cond_false]
  exact key _ _ (by unfold loB; rw [if_neg h1, if_neg h3]) (by unfold hiB; rw [if_neg h2, if_neg h4])
theorem lohi (b : Int) : 128 ≤ loB b ∧ hiB b ≤ 191 := by
  unfold loB hiB
  repeat' split
  all_goals omega
theorem pow6 : (2 : Int) ^ (min (Int.toNat (6 : Int)) (IntKind.bits .i64)) = 64 := rfl
abbrev R53 := ((Int × Int × Unit) × Unit) ⊕ ((Int × Int × Unit) × Unit)
theorem next_step1 (q k : Nat) (x : ByteArray) (n r : Int) (hn : 1 < n) (h0 : 0 ≤ r) (h1 : r ≤ 1099511627776) (hx : 0 < x.size) :
    F53_0 q (k + 1) x n r 1 = if 1 < (x.size : Int) ∧ loB (bt x 0) ≤ bt x 1 ∧ bt x 1 ≤ hiB (bt x 0) then F53_0 q k x n (r * 64 + bt x 1 % 64) 2 else some (.inr ((65533, 1, ()), ())) := by
  have hb := bt_range x 1
  have hb' : 0 ≤ byteAt x 1 ∧ byteAt x 1 ≤ 255 := hb
  have hl := lohi (bt x 0)
  simp only [F53_0]
  rw [decide_eq_true hn, cond_true]
  by_cases hs : 1 < (x.size : Int)
  · rw [decide_eq_false (by omega), cond_false, beq_self_eq_true, cond_true, if_pos (by omega), if_pos (by omega), F73_eq, Option.bind_some]
    simp only
    by_cases hc : loB (bt x 0) ≤ bt x 1 ∧ bt x 1 ≤ hiB (bt x 0)
    · have hc' : loB (byteAt x 0) ≤ byteAt x 1 ∧ byteAt x 1 ≤ hiB (byteAt x 0) := hc
      have e1 : decide (byteAt x 1 < 128) = false := decide_eq_false (by have : loB (bt x 0) ≤ byteAt x 1 := hc.1; omega)
      have e2 : decide (byteAt x 1 > 191) = false := decide_eq_false (by have : byteAt x 1 ≤ hiB (bt x 0) := hc.2; omega)
      have hand := and63 (byteAt x 1) hb.1 hb.2
      have hor := or_low r (byteAt x 1 % 64) h0 h1 (by omega) (by omega)
      rw [decide_eq_true hc']
      simp only [Bool.not_true, cond_false]
      rw [if_pos (by omega), e1, cond_false, if_pos (by omega), e2, cond_false, if_pos (by omega), if_pos ⟨hs, hc⟩, w64 (byteAt x 1) (by omega) (by omega)]
      simp only [pow6]
      unfold bAnd at hand
      rw [hand]
      unfold bOr at hor
      rw [hor]
      simp only [Option.bind_fun_some]
      rfl
    · have hc' : ¬ (loB (byteAt x 0) ≤ byteAt x 1 ∧ byteAt x 1 ≤ hiB (byteAt x 0)) := hc
      rw [decide_eq_false hc']
      simp only [Bool.not_false, cond_true]
      rw [if_neg (fun h => hc h.2)]
  · rw [decide_eq_true (by omega), cond_true, if_neg (fun h => hs h.1)]
theorem next_step (q k : Nat) (x : ByteArray) (n r i : Int) (hi : 2 ≤ i) (hi2 : i ≤ 10) (hn : i < n) (h0 : 0 ≤ r) (h1 : r ≤ 1099511627776) :
    F53_0 q (k + 1) x n r i = if i < (x.size : Int) ∧ Go.Proofs.YtdgdeckaoajceaaU.cont (bt x i) then F53_0 q k x n (r * 64 + bt x i % 64) (i + 1) else some (.inr ((65533, i, ()), ())) := by
  have hb := bt_range x i
  have hb' : 0 ≤ byteAt x i ∧ byteAt x i ≤ 255 := hb
  have hcc : Go.Proofs.YtdgdeckaoajceaaU.cont (bt x i) ↔ 128 ≤ bt x i ∧ bt x i ≤ 191 := Iff.rfl
  simp only [F53_0]
  rw [decide_eq_true hn, cond_true]
  by_cases hs : i < (x.size : Int)
  · rw [decide_eq_false (by omega), cond_false, beq_false_of_ne (by omega), cond_false, if_pos (by omega)]
    by_cases c1 : bt x i < 128
    · have c1' : byteAt x i < 128 := c1
      rw [decide_eq_true c1', cond_true, if_neg (fun h => by have := hcc.1 h.2; omega)]
    have c1' : ¬ byteAt x i < 128 := c1
    rw [decide_eq_false c1', cond_false, if_pos (by omega)]
    by_cases c2 : bt x i > 191
    · have c2' : byteAt x i > 191 := c2
      rw [decide_eq_true c2', cond_true, if_neg (fun h => by have := hcc.1 h.2; omega)]
    have c2' : ¬ byteAt x i > 191 := c2
    have hand := and63 (byteAt x i) hb.1 hb.2
    have hor := or_low r (byteAt x i % 64) h0 h1 (by omega) (by omega)
    rw [decide_eq_false c2', cond_false, if_pos (by omega), if_pos ⟨hs, hcc.2 (by omega)⟩, w64 (byteAt x i) (by omega) (by omega)]
    simp only [pow6]
    unfold bAnd at hand
    rw [hand]
    unfold bOr at hor
    rw [hor, w64 (i + 1) (by omega) (by omega)]
    simp only [Option.bind_fun_some]
  · rw [decide_eq_true (by omega), cond_true, if_neg (fun h => hs h.1)]
theorem next_done (q k : Nat) (x : ByteArray) (n r : Int) : F53_0 q (k + 1) x n r n = some (.inl ((n, r, ()), ())) := by
  simp only [F53_0]
  rw [decide_eq_false (by omega), cond_false]
def sizeB (b : Int) : Int := if b < 128 then 1 else if 194 ≤ b ∧ b ≤ 223 then 2 else if 224 ≤ b ∧ b ≤ 239 then 3 else if 240 ≤ b ∧ b ≤ 244 then 4 else 0
def chk72 (c : Int) : Bool := match F72 0 c with
  | some ((a, ()), ()) => a == sizeB c
  | none => false
theorem chk72_all : ∀ c : Fin 256, chk72 (c.val : Int) = true := by decide +kernel
theorem F72_eq (k : Nat) (b : Int) (h0 : 0 ≤ b) (h1 : b ≤ 255) : F72 k b = some ((sizeB b, ()), ()) := by
  have h := chk72_all ⟨b.toNat, by omega⟩
  simp only [Int.toNat_of_nonneg h0] at h
  unfold chk72 at h
  split at h
  · rename_i a e
    rw [beq_iff_eq] at h
    show F72 0 b = _
    rw [e, h]
  · cases h
theorem F53_eq (k : Nat) (x : ByteArray) (hk : 9 ≤ k) (hx : 0 < x.size) : F53 k x = some (((nx x 0).1, (nx x 0).2, ()), ()) := by
  obtain ⟨k, rfl⟩ : ∃ k', k = k' + 6 := ⟨k - 6, by omega⟩
  have hb0 := bt_range x 0
  have hb0' : 0 ≤ byteAt x 0 ∧ byteAt x 0 ≤ 255 := hb0
  have hb1 := bt_range x 1
  have hb2 := bt_range x 2
  have hb3 := bt_range x 3
  unfold F53
  rw [if_pos (by omega), F72_eq _ _ hb0.1 hb0.2, Option.bind_some]
  simp only
  unfold nx
  rw [show ((0 : Nat) : Int) = 0 from rfl, Int.zero_add, Int.zero_add, Int.zero_add, Int.sub_zero]
  unfold nxL sizeB
  by_cases h1 : bt x 0 < 128
  · have h1' : byteAt x 0 < 128 := h1
    rw [if_pos h1, if_pos h1', show ((1 : Int) == 0) = false from rfl, cond_false, beq_self_eq_true, cond_true, if_pos (by omega), w64 _ (by omega) (by omega)]
  have h1' : ¬ byteAt x 0 < 128 := h1
  rw [if_neg h1, if_neg h1']
  by_cases h2 : 194 ≤ bt x 0 ∧ bt x 0 ≤ 223
  · have h2' : 194 ≤ byteAt x 0 ∧ byteAt x 0 ≤ 223 := h2
    have hand := and31 (byteAt x 0) hb0.1 hb0.2
    unfold bAnd at hand
    rw [if_pos h2, if_pos h2', show ((2 : Int) == 0) = false from rfl, cond_false, show ((2 : Int) == 1) = false from rfl, cond_false, if_pos (by omega), if_pos (by decide +kernel), w64 (byteAt x 0) (by omega) (by omega)]
    rw [show Int.fdiv 255 (2 ^ min (IntKind.wrap .u64 (IntKind.wrap .i64 (2 + 1))).toNat (IntKind.bits .i64)) = 31 from by decide +kernel, hand, next_step1 _ _ _ _ _ (by omega) (by omega) (by omega) hx, next_done]
    have hl : loB (bt x 0) = 128 := by unfold loB; rw [if_neg (by omega), if_neg (by omega)]
    have hh : hiB (bt x 0) = 191 := by unfold hiB; rw [if_neg (by omega), if_neg (by omega)]
    rw [hl, hh]
    unfold Go.Proofs.YtdgdeckaoajceaaU.cont
    split <;> rfl
  have h2' : ¬ (194 ≤ byteAt x 0 ∧ byteAt x 0 ≤ 223) := h2
  rw [if_neg h2, if_neg h2']
  by_cases h3 : 224 ≤ bt x 0 ∧ bt x 0 ≤ 239
  · have h3' : 224 ≤ byteAt x 0 ∧ byteAt x 0 ≤ 239 := h3
    have hand := and15 (byteAt x 0) hb0.1 hb0.2
    unfold bAnd at hand
    rw [if_pos h3, if_pos h3', show ((3 : Int) == 0) = false from rfl, cond_false, show ((3 : Int) == 1) = false from rfl, cond_false, if_pos (by omega), if_pos (by decide +kernel), w64 (byteAt x 0) (by omega) (by omega)]
    rw [show Int.fdiv 255 (2 ^ min (IntKind.wrap .u64 (IntKind.wrap .i64 (3 + 1))).toNat (IntKind.bits .i64)) = 15 from by decide +kernel, hand, next_step1 _ _ _ _ _ (by omega) (by omega) (by omega) hx, next_step _ _ _ _ _ _ (by omega) (by omega) (by omega) (by omega) (by omega), show (2 : Int) + 1 = 3 from rfl, next_done]
    split
    · split
      · simp only [Option.bind_some]
        congr 3
        show (byteAt x 0 % 16 * 64 + bt x 1 % 64) * 64 + bt x 2 % 64 = byteAt x 0 % 16 * 4096 + bt x 1 % 64 * 64 + bt x 2 % 64
        omega
      · rfl
    · rfl
  have h3' : ¬ (224 ≤ byteAt x 0 ∧ byteAt x 0 ≤ 239) := h3
  rw [if_neg h3, if_neg h3']
  by_cases h4 : 240 ≤ bt x 0 ∧ bt x 0 ≤ 244
  · have h4' : 240 ≤ byteAt x 0 ∧ byteAt x 0 ≤ 244 := h4
    have hand := and7 (byteAt x 0) hb0.1 hb0.2
    unfold bAnd at hand
    rw [if_pos h4, if_pos h4', show ((4 : Int) == 0) = false from rfl, cond_false, show ((4 : Int) == 1) = false from rfl, cond_false, if_pos (by omega), if_pos (by decide +kernel), w64 (byteAt x 0) (by omega) (by omega)]
    rw [show Int.fdiv 255 (2 ^ min (IntKind.wrap .u64 (IntKind.wrap .i64 (4 + 1))).toNat (IntKind.bits .i64)) = 7 from by decide +kernel, hand, next_step1 _ _ _ _ _ (by omega) (by omega) (by omega) hx, next_step _ _ _ _ _ _ (by omega) (by omega) (by omega) (by omega) (by omega), show (2 : Int) + 1 = 3 from rfl, next_step _ _ _ _ _ _ (by omega) (by omega) (by omega) (by omega) (by omega), show (3 : Int) + 1 = 4 from rfl, next_done]
    split
    · split
      · split
        · simp only [Option.bind_some]
          congr 3
          show ((byteAt x 0 % 8 * 64 + bt x 1 % 64) * 64 + bt x 2 % 64) * 64 + bt x 3 % 64 = byteAt x 0 % 8 * 262144 + bt x 1 % 64 * 4096 + bt x 2 % 64 * 64 + bt x 3 % 64
          omega
        · rfl
      · rfl
    · rfl
  have h4' : ¬ (240 ≤ byteAt x 0 ∧ byteAt x 0 ≤ 244) := h4
  rw [if_neg h4, if_neg h4', beq_self_eq_true, cond_true]
theorem F20_0_eq (k : Nat) (s : ByteArray) (hk : 9 ≤ k) (hb : s.size ≤ 1073741824) : ∀ (n p : Nat) (xs ys : List Int), s.size < p + n → p ≤ s.size → xs.length ≤ p → ys.length ≤ p → ∀ m, s.size ≤ p + m →
    F20_0 k n s (p : Int) xs ys = some ((s, ()), (xs ++ (Go.Proofs.YtdgdeckaoajceaaU.dec s m p).map (·.1), ys ++ (Go.Proofs.YtdgdeckaoajceaaU.dec s m p).map (·.2), ()))
  | 0, p, xs, ys, h, hp, hx, hy, m, hm => by omega
  | n + 1, p, xs, ys, h, hp, hx, hy, m, hm => by
    simp only [F20_0]
    by_cases hlt : p < s.size
    · have hn := nx_len s p hlt
      obtain ⟨d, hn2⟩ : ∃ d : Nat, (nx s p).2 = (d : Int) := ⟨(nx s p).2.toNat, by omega⟩
      rw [decide_eq_true (by omega), cond_true, if_pos (by omega), Int.toNat_natCast, Int.toNat_natCast, F53_eq k _ hk (by rw [extract_size]; omega), nx_extract s p (by omega), Option.bind_some]
      simp only
      rw [if_pos (by simp only [List.length_set, List.length_replicate]; omega), if_pos (by simp only [List.length_set, List.length_replicate]; omega), hn2, w64 _ (by omega) (by omega), show ((p : Int) + (d : Int)) = ((p + d : Nat) : Int) from by omega]
      simp only [one_list, Option.bind_fun_some]
      cases m with
      | zero => omega
      | succ m =>
        rw [F20_0_eq k s hk hb n (p + d) _ _ (by omega) (by omega) (by simp; omega) (by simp; omega) m (by omega), Go.Proofs.YtdgdeckaoajceaaU.dec, if_pos hlt, hn2, Int.toNat_natCast]
        simp
    · rw [decide_eq_false (by omega), cond_false]
      have : Go.Proofs.YtdgdeckaoajceaaU.dec s m p = [] := by cases m with
        | zero => rfl
        | succ m => rw [Go.Proofs.YtdgdeckaoajceaaU.dec, if_neg hlt]
      simp [this]
theorem offs_len (s : ByteArray) : (offs s).length ≤ s.size + 1 := by
  have := scal_len s
  have := Go.Proofs.YtdgdeckaoajceaaU.offs_length s
  omega
theorem F20_eq (k : Nat) (s : ByteArray) (hb : s.size ≤ 1073741824) (hk : s.size + 9 ≤ k) : F20 k s = some ((scal s, offs s, ()), ()) := by
  have h := F20_0_eq k s (by omega) hb k 0 [] [] (by omega) (by omega) (by simp) (by simp) s.size (by omega)
  have hl := scal_len s
  rw [show ((0 : Nat) : Int) = 0 from rfl] at h
  simp only [List.nil_append] at h
  unfold F20
  rw [h, Option.bind_some]
  simp only [one_list]
  unfold scal at hl
  rw [if_pos (by simp only [List.length_map, List.length_singleton] at hl ⊢; omega)]
  rfl
end Go.Proofs.YtdgdeckaoajceaaE
/- Plain laws of seg: the document's Encode. Conditions: none. -/
set_option linter.unusedSimpArgs false
set_option linter.unusedVariables false
namespace Go.Proofs.YtdgdeckaoajceaaE
open Go.Proofs.YtdgdeckaoajceaaU (valid_iff valid_int encode_bad encode_size encL enc1 encode_enc1 enc1_lt str str_of str_size str_append data_length Scalars scal_encL)
theorem F27_eq (k : Nat) (a : Int) : F27 k a = some ((Utf8.valid a, ()), ()) := by
  unfold F27
  have hv := valid_int a
  by_cases h1 : a ≥ 0
  · rw [decide_eq_true h1, cond_true]
    by_cases h2 : a ≤ 1114111
    · rw [decide_eq_true h2, cond_true]
      by_cases h3 : a < 55296
      · rw [decide_eq_true h3, cond_true, hv.2 (by omega)]
      · rw [decide_eq_false h3, cond_false]
        congr 3
        by_cases h4 : a > 57343
        · rw [decide_eq_true h4, hv.2 (by omega)]
        · rw [decide_eq_false h4]
          symm
          rw [← Bool.not_eq_true, hv]
          omega
    · rw [decide_eq_false h2, cond_false]
      congr 3
      symm
      rw [← Bool.not_eq_true, hv]
      omega
  · rw [decide_eq_false h1, cond_false]
    congr 3
    symm
    rw [← Bool.not_eq_true, hv]
    omega
theorem or_all (m : Int) (K : Nat) (f : Int → Int) (h : ∀ c : Fin K, IntKind.wrap .u8 (bOr m (c.val : Int)) = f (c.val : Int)) (b : Int) (h0 : 0 ≤ b) (h1 : b < K) : IntKind.wrap .u8 (bOr m b) = f b := by
  have := h ⟨b.toNat, by omega⟩
  simpa [Int.toNat_of_nonneg h0] using this
theorem and63n (b : Int) (h0 : 0 ≤ b) (h1 : b ≤ 1114111) : bAnd b 63 = b % 64 := by
  obtain ⟨n, rfl⟩ := Int.eq_ofNat_of_zero_le h0
  have hx : n &&& 63 < 2 ^ 63 := Nat.and_lt_two_pow _ (by omega)
  unfold bAnd
  rw [BitVec.toNat_and, ofInt_i64 n (by omega), show (63 : Int) = ((63 : Nat) : Int) from rfl, ofInt_i64 63 (by omega), w64 _ (by omega) (by omega), show (63 : Nat) = 2 ^ 6 - 1 from rfl, Nat.and_two_pow_sub_one_eq_mod]
  omega
theorem or128 (b : Int) (h0 : 0 ≤ b) (h1 : b < 64) : IntKind.wrap .u8 (bOr 128 b) = 128 + b := or_all 128 64 (128 + ·) (by decide +kernel) b h0 h1
theorem or192 (b : Int) (h0 : 0 ≤ b) (h1 : b < 32) : IntKind.wrap .u8 (bOr 192 b) = 192 + b := or_all 192 32 (192 + ·) (by decide +kernel) b h0 h1
theorem or224 (b : Int) (h0 : 0 ≤ b) (h1 : b < 16) : IntKind.wrap .u8 (bOr 224 b) = 224 + b := or_all 224 16 (224 + ·) (by decide +kernel) b h0 h1
theorem or240 (b : Int) (h0 : 0 ≤ b) (h1 : b < 8) : IntKind.wrap .u8 (bOr 240 b) = 240 + b := or_all 240 8 (240 + ·) (by decide +kernel) b h0 h1
theorem fd6 (a : Int) : Int.fdiv a (2 ^ (min (Int.toNat (6 : Int)) (IntKind.bits .i64))) = a / 64 := Int.fdiv_eq_ediv_of_nonneg a (by decide)
theorem fd12 (a : Int) : Int.fdiv a (2 ^ (min (Int.toNat (12 : Int)) (IntKind.bits .i64))) = a / 4096 := Int.fdiv_eq_ediv_of_nonneg a (by decide)
theorem fd18 (a : Int) : Int.fdiv a (2 ^ (min (Int.toNat (18 : Int)) (IntKind.bits .i64))) = a / 262144 := Int.fdiv_eq_ediv_of_nonneg a (by decide)
theorem set2 {α : Type} (d x y : α) : List.set (List.set (List.replicate 2 d) 0 x) 1 y = [x, y] := (rfl : List.set (List.set [d, d] 0 x) 1 y = [x, y]).trans rfl
theorem set3 {α : Type} (d x y z : α) : List.set (List.set (List.set (List.replicate 3 d) 0 x) 1 y) 2 z = [x, y, z] := (rfl : List.set (List.set (List.set [d, d, d] 0 x) 1 y) 2 z = [x, y, z]).trans rfl
theorem set4 {α : Type} (d x y z w : α) : List.set (List.set (List.set (List.set (List.replicate 4 d) 0 x) 1 y) 2 z) 3 w = [x, y, z, w] := (rfl : List.set (List.set (List.set (List.set [d, d, d, d] 0 x) 1 y) 2 z) 3 w = [x, y, z, w]).trans rfl
def one56 (a0 : Int) : Option ((ByteArray × Unit) × Unit) :=
  bif decide (a0 < 128) then
    if List.length [IntKind.wrap .u8 a0] ≤ 9223372036854775807 then some ((bstr [IntKind.wrap .u8 a0], ()), ()) else none
  else bif decide (a0 < 2048) then
    if List.length [IntKind.wrap .u8 (bOr 192 (a0 / 64)), IntKind.wrap .u8 (bOr 128 (bAnd a0 63))] ≤ 9223372036854775807 then some ((bstr [IntKind.wrap .u8 (bOr 192 (a0 / 64)), IntKind.wrap .u8 (bOr 128 (bAnd a0 63))], ()), ()) else none
  else bif decide (a0 < 65536) then
    if List.length [IntKind.wrap .u8 (bOr 224 (a0 / 4096)), IntKind.wrap .u8 (bOr 128 (bAnd (a0 / 64) 63)), IntKind.wrap .u8 (bOr 128 (bAnd a0 63))] ≤ 9223372036854775807 then some ((bstr [IntKind.wrap .u8 (bOr 224 (a0 / 4096)), IntKind.wrap .u8 (bOr 128 (bAnd (a0 / 64) 63)), IntKind.wrap .u8 (bOr 128 (bAnd a0 63))], ()), ()) else none
  else
    if List.length [IntKind.wrap .u8 (bOr 240 (a0 / 262144)), IntKind.wrap .u8 (bOr 128 (bAnd (a0 / 4096) 63)), IntKind.wrap .u8 (bOr 128 (bAnd (a0 / 64) 63)), IntKind.wrap .u8 (bOr 128 (bAnd a0 63))] ≤ 9223372036854775807 then some ((bstr [IntKind.wrap .u8 (bOr 240 (a0 / 262144)), IntKind.wrap .u8 (bOr 128 (bAnd (a0 / 4096) 63)), IntKind.wrap .u8 (bOr 128 (bAnd (a0 / 64) 63)), IntKind.wrap .u8 (bOr 128 (bAnd a0 63))], ()), ()) else none
theorem bstr_nats (l : List Nat) : bstr (l.map fun (n : Nat) => (n : Int)) = str (l.map UInt8.ofNat) := by
  unfold bstr str
  rw [List.map_map]
  rfl
theorem one56_eq (m : Nat) (hv : Utf8.valid (m : Int) = true) : one56 (m : Int) = some ((Utf8.encode (m : Int), ()), ()) := by
  have hn := (valid_iff m).1 hv
  have he : Utf8.encode (m : Int) = str ((enc1 m).map UInt8.ofNat) := (str_of _).symm.trans (by rw [encode_enc1 m hv])
  rw [he, ← bstr_nats]
  unfold one56 enc1
  by_cases h1 : m < 128
  · rw [decide_eq_true (by omega), cond_true, if_pos h1, if_pos (by simp), wu8, Int.emod_eq_of_lt (by omega) (by omega)]
    rfl
  rw [decide_eq_false (by omega), cond_false, if_neg h1]
  by_cases h2 : m < 2048
  · rw [decide_eq_true (by omega), cond_true, if_pos h2, if_pos (by simp), and63n _ (by omega) (by omega), or192 _ (by omega) (by omega), or128 _ (by omega) (by omega)]
    congr 3
  rw [decide_eq_false (by omega), cond_false, if_neg h2]
  by_cases h3 : m < 65536
  · rw [decide_eq_true (by omega), cond_true, if_pos h3, if_pos (by simp), and63n _ (by omega) (by omega), and63n _ (by omega) (by omega), or224 _ (by omega) (by omega), or128 _ (by omega) (by omega), or128 _ (by omega) (by omega)]
    congr 3
  rw [decide_eq_false (by omega), cond_false, if_neg h3, if_pos (by simp), and63n _ (by omega) (by omega), and63n _ (by omega) (by omega), and63n _ (by omega) (by omega), or240 _ (by omega) (by omega), or128 _ (by omega) (by omega), or128 _ (by omega) (by omega), or128 _ (by omega) (by omega)]
  congr 3
theorem F1056_valid (k m : Nat) (hv : Utf8.valid (m : Int) = true) : F1056 k (m : Int) = some ((Utf8.encode (m : Int), ()), ()) := by
  rw [← one56_eq m hv]
  unfold F1056
  rw [F27_eq, Option.bind_some, hv]
  rw [show (!((true, ()), ()).1.1) = false from rfl, cond_false]
  simp only [fd6, fd12, fd18, one_list, set2, set3, set4]
  unfold one56 bAnd bOr
  rfl
theorem F56_eq (k : Nat) (n : Int) : F56 k n = some ((Utf8.encode n, ()), ()) := by
  cases hv : Utf8.valid n with
  | true =>
    have := (valid_int n).1 hv
    obtain ⟨m, rfl⟩ := Int.eq_ofNat_of_zero_le (show 0 ≤ n by omega)
    rw [← one56_eq m hv]
    unfold F56
    rw [F27_eq, Option.bind_some, hv]
    rw [show (!((true, ()), ()).1.1) = false from rfl, cond_false]
    simp only [fd6, fd12, fd18, one_list, set2, set3, set4]
    unfold one56 bAnd bOr
    rfl
  | false =>
    unfold F56
    rw [F27_eq, Option.bind_some, hv]
    rw [show (!((false, ()), ()).1.1) = true from rfl, cond_true, encode_bad n hv, show (65533 : Int) = ((65533 : Nat) : Int) from rfl, F1056_valid k 65533 (by decide), Option.bind_some]
theorem F26_go (q : Nat) (xs : List Int) (hb : xs.length ≤ 17592186044416) : ∀ (k i : Nat) (acc : List UInt8), xs.length < i + k → i ≤ xs.length → acc.length ≤ 4 * i →
    F26_0 q k xs (str acc) (i : Int) = some ((str (acc ++ encL (xs.drop i)), ()), ())
  | 0, i, acc, h, hi, ha => by omega
  | k + 1, i, acc, h, hi, ha => by
    simp only [F26_0]
    by_cases hlt : i < xs.length
    · have hsz := encode_size xs[i]
      have hl : (Utf8.encode xs[i]).data.toList.length = (Utf8.encode xs[i]).size := data_length _
      rw [dlt hlt, cond_true, if_pos (inR hlt), Int.toNat_natCast, getD_lt _ _ _ hlt, F56_eq, Option.bind_some]
      simp only
      rw [if_pos (by rw [str_size]; omega), wsucc i _ hlt (by omega), ← str_of (Utf8.encode xs[i]), str_append, F26_go q xs hb k (i + 1) _ (by omega) (by omega) (by rw [List.length_append, hl]; omega), List.drop_eq_getElem_cons hlt]
      simp only [encL, List.flatMap_cons, List.append_assoc, Option.bind_some]
    · have : i = xs.length := by omega
      subst this
      rw [dnlt, cond_false, List.drop_eq_nil_of_le (by omega)]
      simp [encL]
theorem F26_eq (k : Nat) (xs : List Int) (hb : xs.length ≤ 17592186044416) (hk : xs.length < k) : F26 k xs = some ((str (encL xs), ()), ()) := by
  have := F26_go k xs hb k 0 [] (by omega) (by omega) (by simp)
  simp only [List.nil_append, List.drop_zero] at this
  unfold F26
  rw [show (⟨#[]⟩ : ByteArray) = str [] from rfl, show (0 : Int) = ((0 : Nat) : Int) from rfl, this, Option.bind_some]
/-- Every scalar that decoding gives is one. -/
theorem nx_valid (s : ByteArray) (p : Nat) : Utf8.valid (Go.Proofs.YtdgdeckaoajceaaU.nx s p).1 = true := by
  have h0 := Go.Proofs.YtdgdeckaoajceaaU.bt_range s p
  have h1 := Go.Proofs.YtdgdeckaoajceaaU.bt_range s (p + 1)
  have h2 := Go.Proofs.YtdgdeckaoajceaaU.bt_range s (p + 2)
  have h3 := Go.Proofs.YtdgdeckaoajceaaU.bt_range s (p + 3)
  rw [valid_int]
  unfold Go.Proofs.YtdgdeckaoajceaaU.nx Go.Proofs.YtdgdeckaoajceaaU.nxL
  generalize Go.Proofs.YtdgdeckaoajceaaU.bt s p = b0 at *
  generalize Go.Proofs.YtdgdeckaoajceaaU.bt s (p + 1) = b1 at *
  generalize Go.Proofs.YtdgdeckaoajceaaU.bt s (p + 2) = b2 at *
  generalize Go.Proofs.YtdgdeckaoajceaaU.bt s (p + 3) = b3 at *
  unfold Go.Proofs.YtdgdeckaoajceaaU.loB Go.Proofs.YtdgdeckaoajceaaU.hiB Go.Proofs.YtdgdeckaoajceaaU.cont
  repeat' split
  all_goals (simp only; omega)
theorem dec_valid (s : ByteArray) : ∀ (m p : Nat), ∀ x ∈ Go.Proofs.YtdgdeckaoajceaaU.dec s m p, Utf8.valid x.1 = true
  | 0, p, x, h => by cases h
  | m + 1, p, x, h => by
    rw [Go.Proofs.YtdgdeckaoajceaaU.dec] at h
    split at h
    · rcases List.mem_cons.1 h with rfl | h
      · exact nx_valid s p
      · exact dec_valid s m _ x h
    · cases h
theorem scal_valid (s : ByteArray) : Scalars (Go.Proofs.YtdgdeckaoajceaaU.scal s) := fun n hn => by
  obtain ⟨x, hx, rfl⟩ := List.mem_map.1 hn
  exact dec_valid s _ _ x hx
end Go.Proofs.YtdgdeckaoajceaaE
/- Plain laws of seg: the bytes of a draw. Conditions: none. -/
set_option linter.unusedSimpArgs false
set_option linter.unusedVariables false
namespace Go.Proofs.YtdgdeckaoajceaaE
theorem F45_eq (k : Nat) (a n : Int) (h0 : 0 < n) (h1 : n ≤ 4611686018427387904) : F45 k a n = some ((a % n, ()), ()) := F44_eq k a n h0 h1
theorem F24_eq (k : Nat) (a n : Int) (h0 : 0 < n) (h1 : n ≤ 4611686018427387904) : F24 k a n = some ((a % n, ()), ()) := F44_eq k a n h0 h1
theorem F17_go (q : Nat) (x0 x1 : List Int) (T : List ByteArray) (hT : T.length = 20) (hT4 : ∀ t ∈ T, t.size ≤ 4) (h1 : x1.length ≤ 1000) :
    ∀ (d i n : Nat) (s : ByteArray), i + d = 40 → d < n → s.size ≤ 1003 + x1.length → s.size ≤ i * (4 + x1.length) → ∃ r : ByteArray, F17_0 q n x0 x1 s (i : Int) T = some ((r, ()), ()) ∧ r.size ≤ 1003 + x1.length ∧ r.size ≤ 40 * (4 + x1.length) := by
  intro d
  induction d with
  | zero =>
    intro i n s hi hn hs hs2
    have hm40 : i * (4 + x1.length) ≤ 40 * (4 + x1.length) := Nat.mul_le_mul_right _ (by omega)
    have hmul : (i + 1) * (4 + x1.length) = i * (4 + x1.length) + (4 + x1.length) := Nat.succ_mul _ _
    obtain ⟨n, rfl⟩ : ∃ m, n = m + 1 := ⟨n - 1, by omega⟩
    refine ⟨s, ?_, hs, by omega⟩
    simp only [F17_0]
    by_cases hlt : i < x0.length
    · rw [dlt hlt, cond_true, decide_eq_false (by omega), cond_false]
    · rw [decide_eq_false (by omega), cond_false]
  | succ d ih =>
    intro i n s hi hn hs hs2
    have hm40 : i * (4 + x1.length) ≤ 40 * (4 + x1.length) := Nat.mul_le_mul_right _ (by omega)
    have hmul : (i + 1) * (4 + x1.length) = i * (4 + x1.length) + (4 + x1.length) := Nat.succ_mul _ _
    obtain ⟨n, rfl⟩ : ∃ m, n = m + 1 := ⟨n - 1, by omega⟩
    by_cases hlt : i < x0.length
    · by_cases hsz : (s.size : Int) < 1000
      · have ea := F45_eq q x0[i] 20 (by decide) (by decide)
        have eb := F45_eq q (IntKind.wrap .i64 (Int.tdiv x0[i] 32)) 8 (by decide) (by decide)
        have ec := F45_eq q (IntKind.wrap .i64 (Int.tdiv x0[i] 256)) ((x1.length : Int) + 1) (by omega) (by omega)
        have w1 : 0 ≤ x0[i] % 20 ∧ x0[i] % 20 < 20 := by omega
        have w3 : 0 ≤ IntKind.wrap .i64 (Int.tdiv x0[i] 256) % ((x1.length : Int) + 1) ∧ IntKind.wrap .i64 (Int.tdiv x0[i] 256) % ((x1.length : Int) + 1) < (x1.length : Int) + 1 := ⟨Int.emod_nonneg _ (by omega), Int.emod_lt_of_pos _ (by omega)⟩
        obtain ⟨a, ha⟩ : ∃ a, x0[i] % 20 = a := ⟨_, rfl⟩
        obtain ⟨b, hb⟩ : ∃ b, IntKind.wrap .i64 (Int.tdiv x0[i] 32) % 8 = b := ⟨_, rfl⟩
        obtain ⟨c, hc⟩ : ∃ c, IntKind.wrap .i64 (Int.tdiv x0[i] 256) % ((x1.length : Int) + 1) = c := ⟨_, rfl⟩
        rw [ha] at ea w1
        rw [hb] at eb
        rw [hc] at ec w3
        have hm : a.toNat < T.length := by omega
        have ht4 := hT4 _ (List.getElem_mem hm)
        have hsa : (s ++ T[a.toNat]).size = s.size + T[a.toNat].size := ByteArray.size_append
        have hsb : (bstr (List.take (Int.toNat c - Int.toNat 0) (List.drop (Int.toNat 0) x1))).size ≤ x1.length := by
          rw [bstr_size, List.length_take, List.length_drop]
          omega
        have hsc : ((s ++ T[a.toNat]) ++ bstr (List.take (Int.toNat c - Int.toNat 0) (List.drop (Int.toNat 0) x1))).size = (s ++ T[a.toNat]).size + (bstr (List.take (Int.toNat c - Int.toNat 0) (List.drop (Int.toNat 0) x1))).size := ByteArray.size_append
        have hsd : (List.take (Int.toNat c - Int.toNat 0) (List.drop (Int.toNat 0) x1)).length ≤ x1.length := by
          rw [List.length_take, List.length_drop]
          omega
        simp only [F17_0]
        rw [dlt hlt, cond_true, decide_eq_true (by omega), cond_true, decide_eq_true hsz, cond_true, if_pos (inR hlt), Int.toNat_natCast, getD_lt _ _ _ hlt, hT, show ((20 : Nat) : Int) = 20 from rfl, ea, Option.bind_some]
        simp only
        rw [if_pos (by omega), getD_lt T _ _ hm, if_pos (by omega), if_pos (inR hlt), eb, Option.bind_some]
        simp only
        by_cases hb0 : b = 0
        · rw [hb0, beq_self_eq_true, cond_true, if_pos (inR hlt), w64 ((x1.length : Int) + 1) (by omega) (by omega), ec, Option.bind_some]
          simp only
          rw [if_pos (by omega), if_pos (by omega), if_pos (by omega), w64 ((i : Int) + 1) (by omega) (by omega), show ((i : Int) + 1) = ((i + 1 : Nat) : Int) from by omega]
          obtain ⟨r, e, h⟩ := ih (i + 1) n ((s ++ T[a.toNat]) ++ bstr (List.take (Int.toNat c - Int.toNat 0) (List.drop (Int.toNat 0) x1))) (by omega) (by omega) (by omega) (by omega)
          exact ⟨r, by rw [e, Option.bind_some], h⟩
        · rw [beq_false_of_ne hb0, cond_false, w64 ((i : Int) + 1) (by omega) (by omega), show ((i : Int) + 1) = ((i + 1 : Nat) : Int) from by omega]
          obtain ⟨r, e, h⟩ := ih (i + 1) n (s ++ T[a.toNat]) (by omega) (by omega) (by omega) (by omega)
          exact ⟨r, by rw [e, Option.bind_some], h⟩
      · refine ⟨s, ?_, hs, by omega⟩
        simp only [F17_0]
        rw [dlt hlt, cond_true, decide_eq_true (by omega), cond_true, decide_eq_false hsz, cond_false]
    · refine ⟨s, ?_, hs, by omega⟩
      simp only [F17_0]
      rw [decide_eq_false (by omega), cond_false]
def tab17 : List ByteArray := (List.set (List.set (List.set (List.set (List.set (List.set (List.set (List.set (List.set (List.set (List.set (List.set (List.set (List.set (List.set (List.set (List.set (List.set (List.set (List.set (List.replicate 20 ByteArray.empty) 0 (⟨#[97]⟩ : ByteArray)) 1 (⟨#[90]⟩ : ByteArray)) 2 (⟨#[32]⟩ : ByteArray)) 3 (⟨#[195, 164]⟩ : ByteArray)) 4 (⟨#[226, 130, 172]⟩ : ByteArray)) 5 (⟨#[228, 184, 128]⟩ : ByteArray)) 6 (⟨#[240, 159, 152, 128]⟩ : ByteArray)) 7 (⟨#[239, 191, 189]⟩ : ByteArray)) 8 (⟨#[128]⟩ : ByteArray)) 9 (⟨#[255]⟩ : ByteArray)) 10 (⟨#[195]⟩ : ByteArray)) 11 (⟨#[192, 128]⟩ : ByteArray)) 12 (⟨#[226, 130]⟩ : ByteArray)) 13 (⟨#[224, 128]⟩ : ByteArray)) 14 (⟨#[237, 160, 128]⟩ : ByteArray)) 15 (⟨#[240, 159]⟩ : ByteArray)) 16 (⟨#[240, 159, 152]⟩ : ByteArray)) 17 (⟨#[244, 144]⟩ : ByteArray)) 18 (⟨#[245]⟩ : ByteArray)) 19 (⟨#[224, 160]⟩ : ByteArray))
theorem tab17_ok : tab17.length = 20 ∧ ∀ t ∈ tab17, t.size ≤ 4 := by decide +kernel
theorem F17_ok (k : Nat) (x0 x1 : List Int) (hk : 100 ≤ k) (h1 : x1.length ≤ 1000) : ∃ r : ByteArray, F17 k x0 x1 = some ((r, ()), ()) ∧ r.size ≤ 1003 + x1.length ∧ r.size ≤ 40 * (4 + x1.length) := by
  obtain ⟨r, e, h⟩ := F17_go k x0 x1 tab17 tab17_ok.1 tab17_ok.2 h1 40 0 k ⟨#[]⟩ (by omega) (by omega) (by simp [ByteArray.size]) (by simp [ByteArray.size])
  refine ⟨r, ?_, h⟩
  show (F17_0 k k x0 x1 ⟨#[]⟩ ((0 : Nat) : Int) tab17).bind (fun r22 => some ((r22.1.1, ()), ())) = _
  rw [e, Option.bind_some]
end Go.Proofs.YtdgdeckaoajceaaE
/- Plain laws of seg: a scalar's letter. Conditions: none. -/
set_option linter.unusedSimpArgs false
set_option linter.unusedVariables false
namespace Go.Proofs.YtdgdeckaoajceaaE
theorem F80_eq (k : Nat) (a b : Int) : F80 k a b = some ((decide (a < b), ()), ()) := by
  unfold F80 F83
  rw [Option.bind_some, bne_self_eq_false]
  rfl
theorem CutP_lt {B : Int} {l : List Int} (h : CutP B l) : ∀ (d a : Nat), a + d + 1 < l.length → List.getD l a 0 < List.getD l (a + d + 1) 0
  | 0, a, hd => by
    have := h.2.2.2 (a + 1) (by omega) hd
    rwa [Nat.add_sub_cancel] at this
  | d + 1, a, hd => by
    have h1 := CutP_lt h d a (by omega)
    have := h.2.2.2 (a + (d + 1) + 1) (by omega) hd
    rw [Nat.add_sub_cancel] at this
    rw [show a + d + 1 = a + (d + 1) from by omega] at h1
    omega
theorem CutP_mono {B : Int} {l : List Int} (h : CutP B l) {a b : Nat} (hab : a < b) (hb : b < l.length) : List.getD l a 0 < List.getD l b 0 := by
  have := CutP_lt h (b - a - 1) a (by omega)
  rwa [show a + (b - a - 1) + 1 = b from by omega] at this
theorem CutP_le {B : Int} {l : List Int} (h : CutP B l) {a b : Nat} (hab : a ≤ b) (hb : b < l.length) : List.getD l a 0 ≤ List.getD l b 0 := by
  by_cases e : a = b
  · rw [e]; omega
  · have := CutP_mono h (show a < b by omega) hb
    omega
/-- Where a number lies among the cuts. -/
def AtP (l : List Int) (n : Int) (i : Nat) : Prop := i < l.length ∧ List.getD l i 0 ≤ n ∧ (i + 1 < l.length → n < List.getD l (i + 1) 0)
theorem AtP_one {B : Int} {l : List Int} (h : CutP B l) {n : Int} {i j : Nat} (hi : AtP l n i) (hj : AtP l n j) : i = j := by
  obtain ⟨i1, i2, i3⟩ := hi
  obtain ⟨j1, j2, j3⟩ := hj
  by_cases h1 : i < j
  · have a := i3 (by omega)
    have b := CutP_le h (show i + 1 ≤ j by omega) j1
    omega
  by_cases h2 : j < i
  · have a := j3 (by omega)
    have b := CutP_le h (show j + 1 ≤ i by omega) i1
    omega
  omega
theorem F28_0_ok (k : Nat) (cu le : List Int) (n : Int) (hl : cu.length ≤ 100000) : ∀ (d m i : Nat), i + d = cu.length → 0 < d → d ≤ m → List.getD cu i 0 ≤ n →
    ∃ j : Nat, F28_0 k m cu le n (i : Int) = some ((le, (j : Int), ()), ()) ∧ AtP cu n j := by
  intro d
  induction d with
  | zero => intro m i h h0; omega
  | succ d ih =>
    intro m i h h0 hm hc
    obtain ⟨m, rfl⟩ : ∃ m', m = m' + 1 := ⟨m - 1, by omega⟩
    have hw : IntKind.wrap .i64 ((i : Int) + 1) = ((i + 1 : Nat) : Int) := by rw [w64 _ (by omega) (by omega)]; omega
    simp only [F28_0, hw]
    by_cases hlt : i + 1 < cu.length
    · rw [dlt hlt, cond_true, if_pos (inR hlt), Int.toNat_natCast]
      by_cases hle : List.getD cu (i + 1) 0 ≤ n
      · rw [decide_eq_true hle, cond_true]
        obtain ⟨j, e, hj⟩ := ih m (i + 1) (by omega) (by omega) (by omega) hle
        exact ⟨j, by rw [e, Option.bind_some], hj⟩
      · rw [decide_eq_false hle, cond_false]
        exact ⟨i, rfl, by omega, hc, fun _ => by omega⟩
    · rw [decide_eq_false (by omega), cond_false]
      exact ⟨i, rfl, by omega, hc, fun h => absurd h hlt⟩
theorem F28_ok {B : Int} (k : Nat) (cu le : List Int) (n : Int) (h : CutP B cu) (hl : cu.length ≤ 1000) (he : cu.length = le.length) (hn : 0 ≤ n) (hk : 1000 ≤ k) :
    ∃ j : Nat, AtP cu n j ∧ F28 k cu le n = some ((List.getD le j 0, ()), ()) := by
  obtain ⟨j, e, hj⟩ := F28_0_ok k cu le n (by omega) cu.length k 0 (by omega) (by have := h.1; omega) (by omega) (by rw [h.2.1]; exact hn)
  refine ⟨j, hj, ?_⟩
  unfold F28
  rw [show (0 : Int) = ((0 : Nat) : Int) from rfl, e, Option.bind_some]
  simp only
  have := hj.1
  rw [if_pos (by omega), Int.toNat_natCast]
theorem half_eq (a b : Nat) (h : a + b ≤ 1000000) : IntKind.wrap .i64 (Int.fdiv (IntKind.wrap .u64 (IntKind.wrap .i64 ((a : Int) + (b : Int)))) (2 ^ (min (Int.toNat (1 : Int)) (IntKind.bits .u64)))) = (((a + b) / 2 : Nat) : Int) := by
  rw [w64 ((a : Int) + (b : Int)) (by omega) (by omega), wu64 _ (by omega) (by omega), show (2 : Int) ^ (min (Int.toNat (1 : Int)) (IntKind.bits .u64)) = 2 from rfl, Int.fdiv_eq_ediv_of_nonneg _ (by decide), w64 _ (by omega) (by omega)]
  omega
theorem F71_0_ok {B : Int} (k : Nat) (l : List Int) (n q : Int) (h : CutP B l) (hl : l.length ≤ 1000) : ∀ (d m a b : Nat), b ≤ a + d → a ≤ b → b ≤ l.length → d < m → (∀ x, x < a → List.getD l x 0 < n) → (∀ x, b ≤ x → x < l.length → n ≤ List.getD l x 0) →
    ∃ i : Nat, F71_0 k m l n q (a : Int) (b : Int) = some ((l, n, q, (i : Int), ()), ()) ∧ i ≤ l.length ∧ (∀ x, x < i → List.getD l x 0 < n) ∧ (∀ x, i ≤ x → x < l.length → n ≤ List.getD l x 0) := by
  intro d
  induction d with
  | zero =>
    intro m a b h1 h2 h3 h4 h5 h6
    obtain ⟨m, rfl⟩ : ∃ m', m = m' + 1 := ⟨m - 1, by omega⟩
    obtain rfl : a = b := by omega
    simp only [F71_0]
    rw [decide_eq_false (by omega), cond_false]
    exact ⟨a, rfl, h3, h5, h6⟩
  | succ d ih =>
    intro m a b h1 h2 h3 h4 h5 h6
    obtain ⟨m, rfl⟩ : ∃ m', m = m' + 1 := ⟨m - 1, by omega⟩
    simp only [F71_0, half_eq a b (by omega)]
    by_cases hab : a < b
    · obtain ⟨c, hc⟩ : ∃ c, (a + b) / 2 = c := ⟨_, rfl⟩
      have hc1 : a ≤ c ∧ c < b := by omega
      rw [hc, decide_eq_true (by omega), cond_true, if_pos (by omega), Int.toNat_natCast, F80_eq, Option.bind_some]
      simp only
      by_cases hlt : List.getD l c 0 < n
      · rw [decide_eq_true hlt, cond_true, w64 _ (by omega) (by omega), show ((c : Int) + 1) = ((c + 1 : Nat) : Int) from by omega]
        obtain ⟨i, e, hi⟩ := ih m (c + 1) b (by omega) (by omega) h3 (by omega) (fun x hx => by
          have := CutP_le h (show x ≤ c by omega) (by omega)
          omega) h6
        exact ⟨i, by rw [e, Option.bind_some], hi⟩
      · rw [decide_eq_false hlt, cond_false]
        obtain ⟨i, e, hi⟩ := ih m a c (by omega) (by omega) (by omega) (by omega) h5 (fun x hx hx2 => by
          have := CutP_le h hx hx2
          omega)
        exact ⟨i, by rw [e, Option.bind_some], hi⟩
    · rw [decide_eq_false (by omega), cond_false]
      obtain rfl : a = b := by omega
      exact ⟨a, rfl, h3, h5, h6⟩
theorem F48_ok {B : Int} (k : Nat) (cu le : List Int) (n : Int) (h : CutP B cu) (hl : cu.length ≤ 1000) (he : cu.length = le.length) (hn : 0 ≤ n) (hk : 1010 ≤ k) :
    ∃ j : Nat, AtP cu n j ∧ F48 k cu le n = some ((List.getD le j 0, ()), ()) := by
  obtain ⟨i, e, h1, h2, h3⟩ := F71_0_ok k cu n (cu.length : Int) h hl cu.length k 0 cu.length (by omega) (by omega) (by omega) (by omega) (fun x hx => by omega) (fun x hx hx2 => by omega)
  rw [show ((0 : Nat) : Int) = 0 from rfl] at e
  have hp := h.1
  by_cases hf : i < cu.length ∧ List.getD cu i 0 = n
  · refine ⟨i, ⟨hf.1, by omega, fun hlt => ?_⟩, ?_⟩
    · have := CutP_mono h (show i < i + 1 by omega) hlt
      omega
    · unfold F48 F71
      rw [e, Option.bind_some]
      simp only
      rw [decide_eq_true (by omega), cond_true, if_pos (by omega), Int.toNat_natCast, hf.2, beq_self_eq_true, cond_true, Option.bind_some]
      simp only
      rw [Bool.not_true, cond_false, decide_eq_false (by omega), cond_false, decide_eq_false (by omega), cond_false, if_pos (by omega), Int.toNat_natCast]
  · have hi0 : 0 < i := by
      rcases Nat.eq_zero_or_pos i with rfl | h0
      · have h4 := h3 0 (by omega) (by omega)
        have h5 := h.2.1
        exact absurd ⟨by omega, by omega⟩ hf
      · exact h0
    have hw : IntKind.wrap .i64 ((i : Int) - 1) = ((i - 1 : Nat) : Int) := by rw [w64 _ (by omega) (by omega)]; omega
    have h4 := h2 (i - 1) (by omega)
    refine ⟨i - 1, ⟨by omega, by omega, fun hlt => ?_⟩, ?_⟩
    · rw [show i - 1 + 1 = i from by omega] at hlt ⊢
      have h5 := h3 i (by omega) hlt
      by_cases h6 : List.getD cu i 0 = n
      · exact absurd ⟨hlt, h6⟩ hf
      · omega
    · have h71 : F71 k cu n = some (((i : Int), false, ()), ()) := by
        unfold F71
        rw [e, Option.bind_some]
        simp only
        by_cases hlt : i < cu.length
        · have h6 : ¬ List.getD cu i 0 = n := fun h6 => hf ⟨hlt, h6⟩
          rw [decide_eq_true (by omega), cond_true, if_pos (by omega), Int.toNat_natCast, beq_false_of_ne h6, cond_false, if_pos (by omega)]
          unfold F81
          rw [Option.bind_some, bne_self_eq_false]
          rfl
        · rw [decide_eq_false (by omega), cond_false]
      unfold F48
      rw [h71, Option.bind_some]
      simp only [hw]
      rw [Bool.not_false, cond_true, decide_eq_false (by omega), cond_false, decide_eq_false (by omega), cond_false, if_pos (by omega), Int.toNat_natCast]
theorem inOrdL_range : ∀ (l : List Int) (n m : Int), 0 ≤ n → inOrdL n l = some m → ∀ a ∈ l, 0 ≤ a ∧ a < m
  | [], n, m, h0, h, a, ha => by cases ha
  | b :: l, n, m, h0, h, a, ha => by
    have hle := inOrdL_le (b :: l) n m h
    rw [inOrdL] at h
    split at h
    · cases h
    · rename_i hc
      have hle2 := inOrdL_le l _ m h
      rcases List.mem_cons.1 ha with rfl | ha
      · split at hle2 <;> omega
      · exact inOrdL_range l _ m (by split <;> omega) h a ha
end Go.Proofs.YtdgdeckaoajceaaE
/- Plain laws of seg: the two runs. Conditions: none. -/
set_option linter.unusedSimpArgs false
set_option linter.unusedVariables false
namespace Go.Proofs.YtdgdeckaoajceaaE
def lk (nx : List (List Int)) (q c : Int) : Int := List.getD (List.getD nx (Int.toNat q) []) (Int.toNat c) 0
/-- The backward run: what stands at each boundary. -/
def bk (nx : List (List Int)) (ou l : List Int) : Nat → Int → List Int → List Int
  | 0, q, acc => List.set acc 0 (List.getD ou (Int.toNat q) 0)
  | j + 1, q, acc => bk nx ou l j (lk nx q (List.getD l j 0)) (List.set acc (j + 1) (List.getD ou (Int.toNat q) 0))
/-- The forward run: what each boundary costs. -/
def fw (nx : List (List Int)) (em : List (List (List Int))) (l b : List Int) : Nat → Nat → Int → List (List Int) → List (List Int)
  | 0, i, q, acc => acc
  | d + 1, i, q, acc => fw nx em l b d (i + 1) (lk nx q (List.getD l i 0)) (acc ++ [List.getD (List.getD em (Int.toNat q) []) (Int.toNat (List.getD b i 0)) []])
theorem getD_mem {α : Type} {l : List α} {i : Nat} {d : α} (h : i < l.length) : List.getD l i d ∈ l := by
  rw [getD_lt _ _ _ h]
  exact List.getElem_mem h
theorem NextP_row {K N : Nat} {nx : List (List Int)} (h : NextP K N nx) {q : Int} (h0 : 0 ≤ q) (h1 : q < K) : (List.getD nx (Int.toNat q) []).length = N := by
  have hq : Int.toNat q < nx.length := by have := h.1; omega
  exact (h.2 _ (getD_mem hq)).1
theorem NextP_lk {K N : Nat} {nx : List (List Int)} (h : NextP K N nx) {q c : Int} (h0 : 0 ≤ q) (h1 : q < K) (h2 : 0 ≤ c) (h3 : c < N) : 0 ≤ lk nx q c ∧ lk nx q c < K := by
  have hq : Int.toNat q < nx.length := by have := h.1; omega
  have hr := h.2 _ (getD_mem (d := []) hq)
  exact hr.2 _ (getD_mem (by omega))
theorem bk_length (nx : List (List Int)) (ou l : List Int) : ∀ (j : Nat) (q : Int) (acc : List Int), (bk nx ou l j q acc).length = acc.length
  | 0, q, acc => by simp [bk]
  | j + 1, q, acc => by rw [bk, bk_length nx ou l j]; simp
theorem mem_set' {l : List Int} {P : Int → Prop} {i : Nat} {a : Int} (h : ∀ x ∈ l, P x) (ha : P a) : ∀ x ∈ List.set l i a, P x := fun x hx => by
  rcases List.mem_or_eq_of_mem_set hx with h1 | rfl
  · exact h x h1
  · exact ha
theorem bk_range {K N : Nat} {nx : List (List Int)} {ou l : List Int} {P : Int → Prop} (hN : NextP K N nx) (ho : ou.length = K) (hl : ∀ x ∈ l, 0 ≤ x ∧ x < N) (hP : ∀ x ∈ ou, P x) : ∀ (j : Nat) (q : Int) (acc : List Int), j ≤ l.length → 0 ≤ q → q < K → (∀ x ∈ acc, P x) → ∀ x ∈ bk nx ou l j q acc, P x
  | 0, q, acc, hj, h0, h1, ha => by
    rw [bk]
    exact mem_set' ha (hP _ (getD_mem (by omega)))
  | j + 1, q, acc, hj, h0, h1, ha => by
    have hc := hl _ (getD_mem (d := 0) (show j < l.length by omega))
    have hq := NextP_lk hN h0 h1 hc.1 hc.2
    rw [bk]
    exact bk_range hN ho hl hP j _ _ (by omega) hq.1 hq.2 (mem_set' ha (hP _ (getD_mem (by omega))))
theorem F50_0_eq {K N : Nat} (k : Nat) (nx : List (List Int)) (ou l : List Int) (hN : NextP K N nx) (ho : ou.length = K) (hl : ∀ x ∈ l, 0 ≤ x ∧ x < N) (hb : l.length ≤ 1099511627776) : ∀ (j n : Nat) (q : Int) (acc : List Int), j < n → j ≤ l.length → 0 ≤ q → q < K → acc.length = l.length + 1 →
    F50_0 k n l q (j : Int) (nx, (ou, ())) acc = some ((), (bk nx ou l j q acc, ()))
  | 0, n, q, acc, hn, hj, h0, h1, ha => by
    obtain ⟨n, rfl⟩ : ∃ m, n = m + 1 := ⟨n - 1, by omega⟩
    simp only [F50_0]
    rw [decide_eq_true (show q ≥ 0 from h0), cond_true, decide_eq_true (show q < ((ou.length : Nat) : Int) by omega), cond_true, if_pos (by omega), if_pos (by omega), show (((0 : Nat) : Int) == 0) = true from rfl, cond_true]
    rfl
  | j + 1, n, q, acc, hn, hj, h0, h1, ha => by
    obtain ⟨n, rfl⟩ : ∃ m, n = m + 1 := ⟨n - 1, by omega⟩
    have hj2 : j < l.length := by omega
    have hc := hl _ (getD_mem (d := 0) hj2)
    have hq := NextP_lk hN h0 h1 hc.1 hc.2
    have hr := NextP_row hN h0 h1
    have hw : IntKind.wrap .i64 (((j + 1 : Nat) : Int) - 1) = ((j : Nat) : Int) := by rw [w64 _ (by omega) (by omega)]; omega
    have ih := F50_0_eq k nx ou l hN ho hl hb j n (lk nx q (List.getD l j 0)) (List.set acc (j + 1) (List.getD ou (Int.toNat q) 0)) (by omega) (by omega) hq.1 hq.2 (by simp [ha])
    simp only [F50_0, hw, Int.toNat_natCast]
    rw [decide_eq_true (show q ≥ 0 from h0), cond_true, decide_eq_true (show q < ((ou.length : Nat) : Int) by omega), cond_true, if_pos (by omega), if_pos (by omega), beq_false_of_ne (by omega), cond_false, cond_true, decide_eq_true (show q < ((nx.length : Nat) : Int) by have := hN.1; omega), cond_true, if_pos (inR hj2), decide_eq_true (show List.getD l j 0 ≥ 0 from hc.1), cond_true, if_pos (inR hj2), if_pos (by have := hN.1; omega), decide_eq_true (show List.getD l j 0 < (((List.getD nx (Int.toNat q) []).length : Nat) : Int) by omega), cond_true, if_pos (by have := hN.1; omega), if_pos (inR hj2), if_pos (by omega), bk]
    rw [show List.getD (List.getD nx (Int.toNat q) []) (Int.toNat (List.getD l j 0)) 0 = lk nx q (List.getD l j 0) from rfl, ih, Option.bind_some]
theorem F52_0_eq {K N : Nat} (k : Nat) (nx : List (List Int)) (ou l : List Int) (hN : NextP K N nx) (ho : ou.length = K) (hl : ∀ x ∈ l, 0 ≤ x ∧ x < N) (hb : l.length ≤ 1099511627776) : ∀ (j n : Nat) (q : Int) (acc : List Int), j < n → j ≤ l.length → 0 ≤ q → q < K → acc.length = l.length + 1 →
    F52_0 k n l q ((j : Int) - 1) (nx, (ou, ())) (List.set acc j (List.getD ou (Int.toNat q) 0)) = some ((), (bk nx ou l j q acc, ()))
  | 0, n, q, acc, hn, hj, h0, h1, ha => by
    obtain ⟨n, rfl⟩ : ∃ m, n = m + 1 := ⟨n - 1, by omega⟩
    simp only [F52_0]
    rw [decide_eq_false (by omega), cond_false]
    rfl
  | j + 1, n, q, acc, hn, hj, h0, h1, ha => by
    obtain ⟨n, rfl⟩ : ∃ m, n = m + 1 := ⟨n - 1, by omega⟩
    have hj2 : j < l.length := by omega
    have hc := hl _ (getD_mem (d := 0) hj2)
    have hq := NextP_lk hN h0 h1 hc.1 hc.2
    have hr := NextP_row hN h0 h1
    have hw : (((j + 1 : Nat) : Int) - 1) = ((j : Nat) : Int) := by omega
    have hw2 : IntKind.wrap .i64 (((j : Nat) : Int) - 1) = ((j : Nat) : Int) - 1 := by rw [w64 _ (by omega) (by omega)]
    have ih := F52_0_eq k nx ou l hN ho hl hb j n (lk nx q (List.getD l j 0)) (List.set acc (j + 1) (List.getD ou (Int.toNat q) 0)) (by omega) (by omega) hq.1 hq.2 (by simp [ha])
    simp only [F52_0, hw, hw2, Int.toNat_natCast]
    rw [decide_eq_true (by omega), cond_true, if_pos (by have := hN.1; omega), if_pos (inR hj2), if_pos (by omega), show List.getD (List.getD nx (Int.toNat q) []) (Int.toNat (List.getD l j 0)) 0 = lk nx q (List.getD l j 0) from rfl, if_pos (by omega), if_pos (by simp only [List.length_set]; omega), ih, Option.bind_some, bk]
theorem F50_eq {K N : Nat} (k : Nat) (nx : List (List Int)) (ou l : List Int) (hN : NextP K N nx) (ho : ou.length = K) (hK : 1 ≤ K) (hl : ∀ x ∈ l, 0 ≤ x ∧ x < N) (hb : l.length ≤ 1099511627776) (hk : l.length < k) :
    F50 k (nx, (ou, ())) l = some ((bk nx ou l l.length 0 (List.replicate (l.length + 1) 0), ()), ()) := by
  unfold F50
  simp only
  rw [w64 _ (by omega) (by omega), if_pos (by omega), show ((l.length : Nat) : Int) + 1 = ((l.length + 1 : Nat) : Int) from by omega, Int.toNat_natCast, F50_0_eq k nx ou l hN ho hl hb l.length k 0 _ hk (Nat.le_refl _) (by omega) (by omega) (by simp), Option.bind_some]
theorem F52_eq {K N : Nat} (k : Nat) (nx : List (List Int)) (ou l : List Int) (hN : NextP K N nx) (ho : ou.length = K) (hK : 1 ≤ K) (hl : ∀ x ∈ l, 0 ≤ x ∧ x < N) (hb : l.length ≤ 1099511627776) (hk : l.length < k) :
    F52 k (nx, (ou, ())) l = some ((bk nx ou l l.length 0 (List.replicate (l.length + 1) 0), ()), ()) := by
  have h := F52_0_eq k nx ou l hN ho hl hb l.length k 0 (List.replicate (l.length + 1) 0) hk (Nat.le_refl _) (by omega) (by omega) (by simp)
  unfold F52
  simp only
  rw [w64 (((l.length : Nat) : Int) + 1) (by omega) (by omega), if_pos (by omega), if_pos (by omega), show ((l.length : Nat) : Int) + 1 = ((l.length + 1 : Nat) : Int) from by omega, Int.toNat_natCast, Int.toNat_natCast, if_pos (by simp only [List.length_replicate]; omega), w64 _ (by omega) (by omega), h, Option.bind_some]
theorem fw_length (nx : List (List Int)) (em : List (List (List Int))) (l b : List Int) : ∀ (d i : Nat) (q : Int) (acc : List (List Int)), (fw nx em l b d i q acc).length = acc.length + d
  | 0, i, q, acc => rfl
  | d + 1, i, q, acc => by rw [fw, fw_length nx em l b d]; simp; omega
def VecP (v : List Int) : Prop := v.length = 3 ∧ ∀ x ∈ v, 0 ≤ x ∧ x ≤ 1152921504606846976
theorem EmP_at {K : Nat} {em : List (List (List Int))} (h : EmP K em) {q c : Int} (h0 : 0 ≤ q) (h1 : q < K) (h2 : 0 ≤ c) (h3 : c ≤ 1) : VecP (List.getD (List.getD em (Int.toNat q) []) (Int.toNat c) []) := by
  have hq : Int.toNat q < em.length := by have := h.1; omega
  have hr := h.2 _ (getD_mem (d := []) hq)
  exact hr.2 _ (getD_mem (by omega))
theorem EmP_row {K : Nat} {em : List (List (List Int))} (h : EmP K em) {q : Int} (h0 : 0 ≤ q) (h1 : q < K) : (List.getD em (Int.toNat q) []).length = 2 := by
  have hq : Int.toNat q < em.length := by have := h.1; omega
  exact (h.2 _ (getD_mem (d := []) hq)).1
theorem fw_range {K N : Nat} {nx : List (List Int)} {em : List (List (List Int))} {l b : List Int} (hN : NextP K N nx) (he : EmP K em) (hl : ∀ x ∈ l, 0 ≤ x ∧ x < N) (hbl : b.length = l.length + 1) (hb : ∀ x ∈ b, 0 ≤ x ∧ x ≤ 1) : ∀ (d i : Nat) (q : Int) (acc : List (List Int)), i + d = l.length + 1 → 0 ≤ q → q < K → (∀ v ∈ acc, VecP v) → ∀ v ∈ fw nx em l b d i q acc, VecP v
  | 0, i, q, acc, hi, h0, h1, ha => by rw [fw]; exact ha
  | d + 1, i, q, acc, hi, h0, h1, ha => by
    have hbi := hb _ (getD_mem (d := 0) (show i < b.length by omega))
    rw [fw]
    have hv := EmP_at he h0 h1 hbi.1 hbi.2
    cases d with
    | zero => rw [fw]; exact all_append ha hv
    | succ d =>
      have hc := hl _ (getD_mem (d := 0) (show i < l.length by omega))
      have hq := NextP_lk hN h0 h1 hc.1 hc.2
      exact fw_range hN he hl hbl hb (d + 1) (i + 1) _ _ (by omega) hq.1 hq.2 (all_append ha hv)
theorem F51_0_eq {K N : Nat} (k : Nat) (nx : List (List Int)) (em : List (List (List Int))) (l b : List Int) (hN : NextP K N nx) (he : EmP K em) (hl : ∀ x ∈ l, 0 ≤ x ∧ x < N) (hbl : b.length = l.length + 1) (hb : ∀ x ∈ b, 0 ≤ x ∧ x ≤ 1) (hs : l.length ≤ 1000000) : ∀ (d i n : Nat) (q : Int) (acc : List (List Int)), i + d = l.length + 1 → d < n → 0 ≤ q → q < K → acc.length = i →
    F51_0 k n l b q (i : Int) (nx, (em, ())) acc = some ((), (fw nx em l b d i q acc, ()))
  | 0, i, n, q, acc, hi, hn, h0, h1, ha => by
    obtain ⟨n, rfl⟩ : ∃ m, n = m + 1 := ⟨n - 1, by omega⟩
    simp only [F51_0]
    rw [decide_eq_false (by omega), cond_false]
    rfl
  | d + 1, i, n, q, acc, hi, hn, h0, h1, ha => by
    obtain ⟨n, rfl⟩ : ∃ m, n = m + 1 := ⟨n - 1, by omega⟩
    have hib : i < b.length := by omega
    have hbi := hb _ (getD_mem (d := 0) hib)
    have hrow := EmP_row he h0 h1
    have hwi : IntKind.wrap .i64 ((i : Int) + 1) = ((i + 1 : Nat) : Int) := by rw [w64 _ (by omega) (by omega)]; omega
    simp only [F51_0, hwi, Int.toNat_natCast, one_list]
    rw [decide_eq_true (show (i : Int) ≤ ((l.length : Nat) : Int) by omega), cond_true, if_pos (by have := he.1; omega), if_pos (inR hib), if_pos (by omega), if_pos (by simp only [List.length_singleton]; omega), fw]
    by_cases hlt : i < l.length
    · have hc := hl _ (getD_mem (d := 0) hlt)
      have hq := NextP_lk hN h0 h1 hc.1 hc.2
      have hr := NextP_row hN h0 h1
      rw [dlt hlt, cond_true, if_pos (by have := hN.1; omega), if_pos (inR hlt), if_pos (by omega), show List.getD (List.getD nx (Int.toNat q) []) (Int.toNat (List.getD l i 0)) 0 = lk nx q (List.getD l i 0) from rfl,
        F51_0_eq k nx em l b hN he hl hbl hb hs d (i + 1) n _ _ (by omega) (by omega) hq.1 hq.2 (by simp [ha]), Option.bind_some]
    · obtain rfl : d = 0 := by omega
      rw [decide_eq_false (by omega), cond_false, F51_0_eq k nx em l b hN he hl hbl hb hs 0 (i + 1) n _ _ (by omega) (by omega) h0 h1 (by simp [ha]), Option.bind_some]
      rfl
theorem F49_0_eq {K N : Nat} (k : Nat) (nx : List (List Int)) (em : List (List (List Int))) (l b : List Int) (hN : NextP K N nx) (he : EmP K em) (hl : ∀ x ∈ l, 0 ≤ x ∧ x < N) (hbl : b.length = l.length + 1) (hb : ∀ x ∈ b, 0 ≤ x ∧ x ≤ 1) (hs : l.length ≤ 1000000) : ∀ (d i n : Nat) (q : Int) (acc : List (List Int)), i + d = l.length + 1 → d < n → 0 ≤ q → q < K → acc.length = i →
    F49_0 k n l b q ((l.length + 1 : Nat) : Int) (i : Int) (nx, (em, ())) acc = some ((), (fw nx em l b d i q acc, ()))
  | 0, i, n, q, acc, hi, hn, h0, h1, ha => by
    obtain ⟨n, rfl⟩ : ∃ m, n = m + 1 := ⟨n - 1, by omega⟩
    simp only [F49_0]
    rw [decide_eq_false (show ¬ (i : Int) < ((l.length + 1 : Nat) : Int) by omega), cond_false]
    rfl
  | d + 1, i, n, q, acc, hi, hn, h0, h1, ha => by
    obtain ⟨n, rfl⟩ : ∃ m, n = m + 1 := ⟨n - 1, by omega⟩
    have hib : i < b.length := by omega
    have hbi := hb _ (getD_mem (d := 0) hib)
    have hrow := EmP_row he h0 h1
    have hwi : IntKind.wrap .i64 ((i : Int) + 1) = ((i + 1 : Nat) : Int) := by rw [w64 _ (by omega) (by omega)]; omega
    have h57 : F57 k = some (([1152921504606846976, 1152921504606846976, 1152921504606846976], ()), ()) := rfl
    rw [F49_0, decide_eq_true (show (i : Int) < ((l.length + 1 : Nat) : Int) by omega), cond_true, h57, Option.bind_some, decide_eq_true (show q ≥ 0 from h0), cond_true, decide_eq_true (show q < (((nx, (em, ())).2.1.length : Nat) : Int) by have := he.1; simp only; omega)]
    simp only [hwi, Int.toNat_natCast, one_list]
    rw [cond_true, dlt hib, cond_true, if_pos (inR hib), decide_eq_true (show List.getD b i 0 ≥ 0 from hbi.1), cond_true, if_pos (inR hib), if_pos (by have := he.1; omega), decide_eq_true (show List.getD b i 0 < (((List.getD em (Int.toNat q) []).length : Nat) : Int) by omega), cond_true, if_pos (by have := he.1; omega), if_pos (inR hib), if_pos (by omega), if_pos (by simp only [List.length_singleton]; omega), fw]
    by_cases hlt : i < l.length
    · have hc := hl _ (getD_mem (d := 0) hlt)
      have hq := NextP_lk hN h0 h1 hc.1 hc.2
      have hr := NextP_row hN h0 h1
      rw [dlt hlt, cond_true, cond_true, decide_eq_true (show q < ((nx.length : Nat) : Int) by have := hN.1; omega), cond_true, if_pos (inR hlt), decide_eq_true (show List.getD l i 0 ≥ 0 from hc.1), cond_true, if_pos (inR hlt), if_pos (by have := hN.1; omega), decide_eq_true (show List.getD l i 0 < (((List.getD nx (Int.toNat q) []).length : Nat) : Int) by omega), cond_true, if_pos (by have := hN.1; omega), if_pos (inR hlt), if_pos (by omega), show List.getD (List.getD nx (Int.toNat q) []) (Int.toNat (List.getD l i 0)) 0 = lk nx q (List.getD l i 0) from rfl,
        F49_0_eq k nx em l b hN he hl hbl hb hs d (i + 1) n _ _ (by omega) (by omega) hq.1 hq.2 (by simp [ha]), Option.bind_some]
    · obtain rfl : d = 0 := by omega
      rw [decide_eq_false (show ¬ (i : Int) < ((l.length : Nat) : Int) by omega), cond_false, F49_0_eq k nx em l b hN he hl hbl hb hs 0 (i + 1) n _ _ (by omega) (by omega) h0 h1 (by simp [ha]), Option.bind_some]
      rfl
theorem F51_eq {K N : Nat} (k : Nat) (nx : List (List Int)) (em : List (List (List Int))) (l b : List Int) (hN : NextP K N nx) (he : EmP K em) (hK : 1 ≤ K) (hl : ∀ x ∈ l, 0 ≤ x ∧ x < N) (hbl : b.length = l.length + 1) (hb : ∀ x ∈ b, 0 ≤ x ∧ x ≤ 1) (hs : l.length ≤ 1000000) (hk : l.length + 1 < k) :
    F51 k (nx, (em, ())) l b = some ((fw nx em l b (l.length + 1) 0 0 [], ()), ()) := by
  unfold F51
  have h := F51_0_eq k nx em l b hN he hl hbl hb hs (l.length + 1) 0 k 0 [] (by omega) hk (by omega) (by omega) rfl
  rw [show ((0 : Nat) : Int) = 0 from rfl] at h
  rw [h, Option.bind_some]
end Go.Proofs.YtdgdeckaoajceaaE
/- Plain laws of seg: Segment and the document's. Conditions: none. -/
set_option linter.unusedSimpArgs false
set_option linter.unusedVariables false
namespace Go.Proofs.YtdgdeckaoajceaaE
open Go.Proofs.YtdgdeckaoajceaaU (scal offs)
/-- A scalar's letter. -/
def ltr (cu le : List Int) (n : Int) : Int := match F28 2000 cu le n with
  | some r => r.1.1
  | none => 0
theorem ltr_at {B : Int} (cu le : List Int) (n : Int) (h : CutP B cu) (hl : cu.length ≤ 1000) (he : cu.length = le.length) (hn : 0 ≤ n) : ∃ j : Nat, AtP cu n j ∧ ltr cu le n = List.getD le j 0 := by
  obtain ⟨j, hj, e⟩ := F28_ok 2000 cu le n h hl he hn (by omega)
  refine ⟨j, hj, ?_⟩
  unfold ltr
  rw [e]
theorem F28_eq {B : Int} (k : Nat) (cu le : List Int) (n : Int) (h : CutP B cu) (hl : cu.length ≤ 1000) (he : cu.length = le.length) (hn : 0 ≤ n) (hk : 1010 ≤ k) : F28 k cu le n = some ((ltr cu le n, ()), ()) := by
  obtain ⟨i, hi, e⟩ := ltr_at cu le n h hl he hn
  obtain ⟨j, hj, e2⟩ := F28_ok k cu le n h hl he hn (by omega)
  rw [e2, e, AtP_one h hi hj]
theorem F48_eq {B : Int} (k : Nat) (cu le : List Int) (n : Int) (h : CutP B cu) (hl : cu.length ≤ 1000) (he : cu.length = le.length) (hn : 0 ≤ n) (hk : 1010 ≤ k) : F48 k cu le n = some ((ltr cu le n, ()), ()) := by
  obtain ⟨i, hi, e⟩ := ltr_at cu le n h hl he hn
  obtain ⟨j, hj, e2⟩ := F48_ok k cu le n h hl he hn hk
  rw [e2, e, AtP_one h hi hj]
theorem ltr_range {B m : Int} (cu le : List Int) (n : Int) (h : CutP B cu) (hl : cu.length ≤ 1000) (he : cu.length = le.length) (hn : 0 ≤ n) (ho : inOrdL 0 le = some m) : 0 ≤ ltr cu le n ∧ ltr cu le n < m := by
  obtain ⟨i, hi, e⟩ := ltr_at cu le n h hl he hn
  rw [e]
  exact inOrdL_range le 0 m (by omega) ho _ (getD_mem (by have := hi.1; omega))
/-- The letters of some bytes. -/
def lts (t : Tb) (s : ByteArray) : List Int := (scal s).map (ltr t.1 t.2.1)
/-- What the letters cost at each boundary. -/
def sgb (t : Tb) (l : List Int) : List Int := bk t.2.2.1.1 t.2.2.1.2.1 l l.length 0 (List.replicate (l.length + 1) 0)
def sg (t : Tb) (l : List Int) : List (List Int) := fw t.2.2.2.1.1 t.2.2.2.1.2.1 l (sgb t l) (l.length + 1) 0 0 []
theorem sg_length (t : Tb) (l : List Int) : (sg t l).length = l.length + 1 := by
  unfold sg
  rw [fw_length]
  simp
theorem scal_pos (s : ByteArray) : ∀ n ∈ scal s, 0 ≤ n := fun n hn => by
  have := (Go.Proofs.YtdgdeckaoajceaaU.valid_int n).1 (scal_valid s n hn)
  omega
theorem lts_range {K N : Nat} {t : Tb} (h : MakeP K N t) (s : ByteArray) : ∀ x ∈ lts t s, 0 ≤ x ∧ x < N := fun x hx => by
  obtain ⟨n, hn, rfl⟩ := List.mem_map.1 hx
  obtain ⟨h1, h2, h3, h4, _⟩ := h
  exact ltr_range t.1 t.2.1 n h1 (by omega) h2 (scal_pos s n hn) h4
theorem lts_len (t : Tb) (s : ByteArray) : (lts t s).length ≤ s.size := by
  have := scal_len s
  unfold lts
  rwa [List.length_map]
theorem lts_len2 (t : Tb) (s : ByteArray) : (lts t s).length = (scal s).length := by
  unfold lts
  rw [List.length_map]
theorem F18_0_eq {K N : Nat} (k : Nat) (t : Tb) (h : MakeP K N t) (s : ByteArray) (hs : s.size ≤ 1000000) (hk : 1010 ≤ k) : ∀ (d i n : Nat) (acc : List Int), i + d = (scal s).length → d < n → acc.length = i →
    F18_0 k n (((scal s).length : Nat) : Int) (i : Int) t (scal s) acc = some ((), (t, acc ++ ((scal s).drop i).map (ltr t.1 t.2.1), ()))
  | 0, i, n, acc, hi, hn, ha => by
    obtain ⟨n, rfl⟩ : ∃ m, n = m + 1 := ⟨n - 1, by omega⟩
    obtain rfl : i = (scal s).length := by omega
    simp only [F18_0]
    rw [dnlt, cond_false, List.drop_eq_nil_of_le (Nat.le_refl _), List.map_nil, List.append_nil]
  | d + 1, i, n, acc, hi, hn, ha => by
    obtain ⟨n, rfl⟩ : ∃ m, n = m + 1 := ⟨n - 1, by omega⟩
    have hlt : i < (scal s).length := by omega
    have hsl := scal_len s
    have h1 := h.1
    have h2 := h.2.1
    have h3 := h.2.2.1
    have e := F48_eq k t.1 t.2.1 (scal s)[i] h1 (by omega) h2 (scal_pos s _ (List.getElem_mem hlt)) hk
    simp only [F18_0]
    rw [dlt hlt, cond_true, if_pos (inR hlt), Int.toNat_natCast, getD_lt _ _ _ hlt, e, Option.bind_some]
    simp only [one_list]
    rw [if_pos (by simp only [List.length_singleton]; omega), wsucc i _ hlt (by omega), F18_0_eq k t h s hs hk d (i + 1) n _ (by omega) (by omega) (by simp [ha]), Option.bind_some, List.drop_eq_getElem_cons hlt, List.map_cons, List.append_assoc]
    rfl
theorem F19_0_eq {K N : Nat} (k : Nat) (t : Tb) (h : MakeP K N t) (s : ByteArray) (hs : s.size ≤ 1000000) (hk : 1010 ≤ k) : ∀ (d i n : Nat) (acc : List Int), i + d = (scal s).length → d < n → acc.length = i →
    F19_0 k n (i : Int) t (scal s) acc = some ((), (t, acc ++ ((scal s).drop i).map (ltr t.1 t.2.1), ()))
  | 0, i, n, acc, hi, hn, ha => by
    obtain ⟨n, rfl⟩ : ∃ m, n = m + 1 := ⟨n - 1, by omega⟩
    obtain rfl : i = (scal s).length := by omega
    simp only [F19_0]
    rw [dnlt, cond_false, List.drop_eq_nil_of_le (Nat.le_refl _), List.map_nil, List.append_nil]
  | d + 1, i, n, acc, hi, hn, ha => by
    obtain ⟨n, rfl⟩ : ∃ m, n = m + 1 := ⟨n - 1, by omega⟩
    have hlt : i < (scal s).length := by omega
    have hsl := scal_len s
    have h1 := h.1
    have h2 := h.2.1
    have h3 := h.2.2.1
    have e := F28_eq k t.1 t.2.1 (scal s)[i] h1 (by omega) h2 (scal_pos s _ (List.getElem_mem hlt)) hk
    simp only [F19_0]
    rw [dlt hlt, cond_true, if_pos (inR hlt), Int.toNat_natCast, getD_lt _ _ _ hlt, e, Option.bind_some]
    simp only [one_list]
    rw [if_pos (by simp only [List.length_singleton]; omega), wsucc i _ hlt (by omega), F19_0_eq k t h s hs hk d (i + 1) n _ (by omega) (by omega) (by simp [ha]), Option.bind_some, List.drop_eq_getElem_cons hlt, List.map_cons, List.append_assoc]
    rfl
theorem MakeP_TbV {K N : Nat} {t : Tb} (h : MakeP K N t) : TbV t := fun l hl v hv => by
  obtain ⟨h1, h2, h3, h4, h5, h6, h7, h8, h9, h10⟩ := h
  exact ((h10.2 l hl).2 v hv).1
theorem F54_eq (k : Nat) (l : List (List Int)) (h : l.length ≤ 1000000) : F54 k l = some ((l, ()), ()) := by
  unfold F54
  cases l with
  | nil => rfl
  | cons a l =>
    rw [show ((((a :: l).length : Nat) : Int) == 0) = false from nz (by simp), cond_false, if_pos (by simp only [List.replicate_zero, List.length_nil]; omega)]
    rfl
theorem F49_eq {K N : Nat} (k : Nat) (nx : List (List Int)) (em : List (List (List Int))) (l b : List Int) (hN : NextP K N nx) (he : EmP K em) (hK : 1 ≤ K) (hl : ∀ x ∈ l, 0 ≤ x ∧ x < N) (hbl : b.length = l.length + 1) (hb : ∀ x ∈ b, 0 ≤ x ∧ x ≤ 1) (hs : l.length ≤ 100000) (hk : l.length + 1 < k) :
    F49 k (nx, (em, ())) l b = some ((fw nx em l b (l.length + 1) 0 0 [], ()), ()) := by
  have h := F49_0_eq k nx em l b hN he hl hbl hb (by omega) (l.length + 1) 0 k 0 [] (by omega) hk (by omega) (by omega) rfl
  have hw : IntKind.wrap .i64 (((l.length : Nat) : Int) + 1) = ((l.length + 1 : Nat) : Int) := by rw [w64 _ (by omega) (by omega)]; omega
  rw [show ((0 : Nat) : Int) = 0 from rfl] at h
  unfold F49
  simp only [hw]
  rw [h, Option.bind_some]
  simp only
  rw [F54_eq k _ (by rw [fw_length]; simp; omega), Option.bind_some]
theorem sgb_ok {K N : Nat} {t : Tb} (h : MakeP K N t) (hK : 1 ≤ K) (l : List Int) (hl : ∀ x ∈ l, 0 ≤ x ∧ x < N) : (sgb t l).length = l.length + 1 ∧ ∀ x ∈ sgb t l, 0 ≤ x ∧ x ≤ 1 := by
  obtain ⟨h1, h2, h3, h4, h5, h6, h7, h8, h9, h10⟩ := h
  refine ⟨by unfold sgb; rw [bk_length]; simp, ?_⟩
  unfold sgb
  exact bk_range h5 h6 hl h7 l.length 0 _ (Nat.le_refl _) (by omega) (by omega) (fun x hx => by rw [List.eq_of_mem_replicate hx]; omega)
theorem sg_ok {K N : Nat} {t : Tb} (h : MakeP K N t) (hK : 1 ≤ K) (l : List Int) (hl : ∀ x ∈ l, 0 ≤ x ∧ x < N) : ∀ v ∈ sg t l, VecP v := by
  obtain ⟨b1, b2⟩ := sgb_ok h hK l hl
  obtain ⟨h1, h2, h3, h4, h5, h6, h7, h8, h9, h10⟩ := h
  unfold sg
  exact fw_range h9 h10 hl b1 b2 (l.length + 1) 0 0 [] (by omega) (by omega) (by omega) (fun v hv => by cases hv)
theorem F18_bad (k : Nat) (t : Tb) (hv : TbV t) (hr : ¬ RightP t) (s : ByteArray) (hk : 100010 ≤ k) : F18 k t s = some (([], (5 : Int), ()), ()) := by
  obtain ⟨r, e, h⟩ := F46_ok k t hk hv
  unfold F18
  rw [e, Option.bind_some]
  cases r with
  | true => exact absurd (h.1 rfl) hr
  | false => rfl
theorem F18_long (k : Nat) (t : Tb) (hv : TbV t) (hr : RightP t) (s : ByteArray) (hk : 100010 ≤ k) (hs : 4000 < s.size) : F18 k t s = some (([], (6 : Int), ()), ()) := by
  obtain ⟨r, e, h⟩ := F46_ok k t hk hv
  obtain rfl := h.2 hr
  unfold F18
  rw [e, Option.bind_some]
  simp only
  rw [Bool.not_true, cond_false, decide_eq_true (show ((s.size : Nat) : Int) > 4000 by omega), cond_true]
theorem F18_eq {K N : Nat} (k : Nat) (t : Tb) (h : MakeP K N t) (hK : 1 ≤ K) (hK2 : K ≤ 9) (s : ByteArray) (hs : s.size ≤ 4000) (hk : 100010 ≤ k) : F18 k t s = some ((sg t (lts t s), (0 : Int), ()), ()) := by
  obtain ⟨r, e, hr⟩ := F46_ok k t hk (MakeP_TbV h)
  obtain rfl := hr.2 (MakeP_right h hK hK2)
  have hl := lts_len t s
  have hlr := lts_range h s
  obtain ⟨b1, b2⟩ := sgb_ok h hK _ hlr
  have e0 := F18_0_eq k t h s (by omega) (by omega) (scal s).length 0 k [] (by omega) (by have := scal_len s; omega) rfl
  rw [List.drop_zero, List.nil_append] at e0
  obtain ⟨h1, h2, h3, h4, h5, h6, h7, h8, h9, h10⟩ := h
  have e1 := F50_eq k t.2.2.1.1 t.2.2.1.2.1 (lts t s) h5 h6 hK hlr (by omega) (by omega)
  have e2 := F49_eq k t.2.2.2.1.1 t.2.2.2.1.2.1 (lts t s) (sgb t (lts t s)) h9 h10 hK hlr b1 b2 (by omega) (by omega)
  unfold F18
  rw [e, Option.bind_some]
  simp only
  rw [Bool.not_true, cond_false, decide_eq_false (show ¬ ((s.size : Nat) : Int) > 4000 by omega), cond_false, F47_eq k s (by omega) (by omega), Option.bind_some]
  simp only
  rw [show (0 : Int) = ((0 : Nat) : Int) from rfl, e0, Option.bind_some]
  simp only
  rw [show t.2.2.1 = (t.2.2.1.1, (t.2.2.1.2.1, ())) from rfl, show (scal s).map (ltr t.1 t.2.1) = lts t s from rfl, e1, Option.bind_some]
  simp only
  rw [show t.2.2.2.1 = (t.2.2.2.1.1, (t.2.2.2.1.2.1, ())) from rfl, show bk t.2.2.1.1 t.2.2.1.2.1 (lts t s) (lts t s).length 0 (List.replicate ((lts t s).length + 1) 0) = sgb t (lts t s) from rfl]
  rw [e2, Option.bind_some]
  rfl
theorem F34_ok' (k : Nat) (t : Tb) (hk : 100010 ≤ k) (hv : TbV t) (hle : t.2.1.length ≤ 100005) : ∃ r, F34 k t = some ((r, ()), ()) ∧ (r = true ↔ RightP t) := by
  obtain ⟨r, _, h1, h2⟩ := right_same k t hk hv hle
  exact ⟨r, h1, h2⟩
theorem F19_eq {K N : Nat} (k : Nat) (t : Tb) (h : MakeP K N t) (hK : 1 ≤ K) (hK2 : K ≤ 9) (s : ByteArray) (hs : s.size ≤ 4000) (hk : 100010 ≤ k) : F19 k t s = some ((sg t (lts t s), (0 : Int), ()), ()) := by
  obtain ⟨r, e, hr⟩ := F34_ok' k t hk (MakeP_TbV h) (by have := h.2.1; have := h.2.2.1; omega)
  obtain rfl := hr.2 (MakeP_right h hK hK2)
  have hl := lts_len t s
  have hlr := lts_range h s
  obtain ⟨b1, b2⟩ := sgb_ok h hK _ hlr
  have e0 := F19_0_eq k t h s (by omega) (by omega) (scal s).length 0 k [] (by omega) (by have := scal_len s; omega) rfl
  rw [List.drop_zero, List.nil_append] at e0
  obtain ⟨h1, h2, h3, h4, h5, h6, h7, h8, h9, h10⟩ := h
  have e1 := F52_eq k t.2.2.1.1 t.2.2.1.2.1 (lts t s) h5 h6 hK hlr (by omega) (by omega)
  have e2 := F51_eq k t.2.2.2.1.1 t.2.2.2.1.2.1 (lts t s) (sgb t (lts t s)) h9 h10 hK hlr b1 b2 (by omega) (by omega)
  unfold F19
  rw [e, Option.bind_some]
  simp only
  rw [Bool.not_true, cond_false, decide_eq_false (show ¬ ((s.size : Nat) : Int) > 4000 by omega), cond_false, F20_eq k s (by omega) (by omega), Option.bind_some]
  simp only
  rw [show (0 : Int) = ((0 : Nat) : Int) from rfl, e0, Option.bind_some]
  simp only
  rw [show t.2.2.1 = (t.2.2.1.1, (t.2.2.1.2.1, ())) from rfl, show (scal s).map (ltr t.1 t.2.1) = lts t s from rfl, e1, Option.bind_some]
  simp only
  rw [show t.2.2.2.1 = (t.2.2.2.1.1, (t.2.2.2.1.2.1, ())) from rfl, show bk t.2.2.1.1 t.2.2.1.2.1 (lts t s) (lts t s).length 0 (List.replicate ((lts t s).length + 1) 0) = sgb t (lts t s) from rfl]
  rw [e2, Option.bind_some]
  rfl
theorem F22_eq {K N : Nat} (k : Nat) (t : Tb) (h : MakeP K N t) (hK : 1 ≤ K) (hK2 : K ≤ 9) (s : ByteArray) (hs : s.size ≤ 4000) (hk : 100010 ≤ k) : F22 k t s = some ((((sg t (lts t s), ()), ((0 : Int), ())), ()), ()) := by
  have := lts_len t s
  unfold F22
  rw [F18_eq k t h hK hK2 s hs hk, Option.bind_some]
  simp only
  rw [F54_eq k _ (by rw [sg_length]; omega), Option.bind_some]
theorem F29_eq {K N : Nat} (k : Nat) (t : Tb) (h : MakeP K N t) (hK : 1 ≤ K) (hK2 : K ≤ 9) (s : ByteArray) (hs : s.size ≤ 4000) (hk : 100010 ≤ k) : F29 k t s = some (((sg t (lts t s), ((0 : Int), ())), ()), ()) := by
  unfold F29
  rw [F19_eq k t h hK hK2 s hs hk, Option.bind_some]
theorem F21_0_self (k : Nat) (l : List (List Int)) (hl : l.length ≤ 1000000) : ∀ (d i n : Nat), i + d = l.length → d < n → F21_0 k n l l (i : Int) = some (.inl ((), ()))
  | 0, i, n, hi, hn => by
    obtain ⟨n, rfl⟩ : ∃ m, n = m + 1 := ⟨n - 1, by omega⟩
    obtain rfl : i = l.length := by omega
    simp only [F21_0]
    rw [dnlt, cond_false]
  | d + 1, i, n, hi, hn => by
    obtain ⟨n, rfl⟩ : ∃ m, n = m + 1 := ⟨n - 1, by omega⟩
    have hlt : i < l.length := by omega
    simp only [F21_0]
    rw [dlt hlt, cond_true, if_pos (inR hlt), if_pos (inR hlt), beq_self_eq_true, Bool.not_true, cond_false, wsucc i _ hlt (by omega), F21_0_self k l hl d (i + 1) n (by omega) (by omega), Option.bind_some]
theorem F21_self (k : Nat) (l : List (List Int)) (hl : l.length ≤ 100000) (hk : 100010 ≤ k) : F21 k l l = some ((true, ()), ()) := by
  unfold F21
  simp only
  rw [bne_self_eq_false, cond_false, show (0 : Int) = ((0 : Nat) : Int) from rfl, F21_0_self k l (by omega) l.length 0 k (by omega) (by omega), Option.bind_some]
end Go.Proofs.YtdgdeckaoajceaaE
/- Plain laws of seg: cursors, and the best of a window. Conditions: none. -/
set_option linter.unusedSimpArgs false
set_option linter.unusedVariables false
namespace Go.Proofs.YtdgdeckaoajceaaE
theorem F15_eq (k : Nat) : F15 (k + 200) = some ((true, ()), ()) := by kernel_rfl
abbrev CurT := (((List (List Int)) × Unit) × (Int × Unit))
abbrev RecT := ((List (List Int)) × (Int × Unit))
def cur (z : List (List Int)) (p : Int) : CurT := ((z, ()), (p, ()))
def rec_ (z : List (List Int)) (p : Int) : RecT := (z, (p, ()))
theorem F23_eq (k : Nat) (z : List (List Int)) (p : Int) : F23 k (cur z p) = some ((((z.length : Nat) : Int), ()), (cur z p, ())) := rfl
theorem F41_eq (k : Nat) (z : List (List Int)) (p : Int) : F41 k (rec_ z p) = some ((((z.length : Nat) : Int), ()), (rec_ z p, ())) := rfl
/-- Where a step to a place leads. -/
def inZ (z : List (List Int)) (a : Int) : Bool := decide (0 ≤ a ∧ a < ((z.length : Nat) : Int))
def sk (z : List (List Int)) (p a : Int) : Int := bif inZ z a then a else p
theorem F30_eq (k : Nat) (z : List (List Int)) (p a : Int) : F30 k (cur z p) a = some ((inZ z a, ()), (cur z (sk z p a), ())) := by
  unfold F30 sk inZ
  by_cases h1 : a < 0
  · rw [decide_eq_true h1, cond_true, decide_eq_false (show ¬ (0 ≤ a ∧ a < ((z.length : Nat) : Int)) by omega), cond_false]
  rw [decide_eq_false h1, cond_false, F23_eq, Option.bind_some]
  simp only
  by_cases h2 : a ≥ ((z.length : Nat) : Int)
  · rw [decide_eq_true h2, cond_true, decide_eq_false (show ¬ (0 ≤ a ∧ a < ((z.length : Nat) : Int)) by omega), cond_false]
  · rw [decide_eq_false h2, cond_false, decide_eq_true (show 0 ≤ a ∧ a < ((z.length : Nat) : Int) by omega), cond_true]
    rfl
theorem F31_eq (k : Nat) (z : List (List Int)) (p a : Int) : F31 k (rec_ z p) a = some ((inZ z a, ()), (rec_ z (sk z p a), ())) := by
  unfold F31 sk inZ
  by_cases h1 : a < 0
  · rw [decide_eq_true h1, cond_true, decide_eq_false (show ¬ (0 ≤ a ∧ a < ((z.length : Nat) : Int)) by omega), cond_false]
  rw [decide_eq_false h1, cond_false]
  show (bif decide (a ≥ ((z.length : Nat) : Int)) then _ else _) = _
  by_cases h2 : a ≥ ((z.length : Nat) : Int)
  · rw [decide_eq_true h2, cond_true, decide_eq_false (show ¬ (0 ≤ a ∧ a < ((z.length : Nat) : Int)) by omega), cond_false]
  · rw [decide_eq_false h2, cond_false, decide_eq_true (show 0 ≤ a ∧ a < ((z.length : Nat) : Int) by omega), cond_true]
    rfl
theorem sk_in {z : List (List Int)} {p a : Int} (h : 0 ≤ p ∧ p < z.length) : 0 ≤ sk z p a ∧ sk z p a < z.length := by
  unfold sk inZ
  by_cases h1 : 0 ≤ a ∧ a < ((z.length : Nat) : Int)
  · rw [decide_eq_true h1, cond_true]; exact h1
  · rw [decide_eq_false h1, cond_false]; exact h
abbrev vz (z : List (List Int)) (p : Int) : List Int := List.getD z (Int.toNat p) []
theorem F32_eq (k : Nat) (z : List (List Int)) (p : Int) (h : 0 ≤ p ∧ p < z.length) : F32 k (cur z p) = some ((p, vz z p, ()), (cur z p, ())) := by
  unfold F32
  rw [F23_eq, Option.bind_some]
  simp only
  rw [beq_false_of_ne (by omega), cond_false]
  show (if 0 ≤ p ∧ p < ((z.length : Nat) : Int) then _ else _) = _
  rw [if_pos h]
  rfl
theorem F33_eq (k : Nat) (z : List (List Int)) (p : Int) (h : 0 ≤ p ∧ p < z.length) : F33 k (rec_ z p) = some ((p, vz z p, ()), (rec_ z p, ())) := by
  unfold F33
  show (bif (((z.length : Nat) : Int) == 0) then _ else if 0 ≤ p ∧ p < ((z.length : Nat) : Int) then _ else _) = _
  rw [beq_false_of_ne (by omega), cond_false, if_pos h]
  rfl
theorem F36_eq (k : Nat) (z : List (List Int)) (p : Int) (h : 0 ≤ p ∧ p < z.length) (hz : z.length ≤ 1000000) : F36 k (cur z p) = some ((inZ z (p + 1), ()), (cur z (sk z p (p + 1)), ())) := by
  unfold F36
  show (F30 k (cur z p) (IntKind.wrap .i64 (p + 1))).bind _ = _
  rw [w64 _ (by omega) (by omega), F30_eq, Option.bind_some]
theorem F37_eq (k : Nat) (z : List (List Int)) (p : Int) (h : 0 ≤ p ∧ p < z.length) (hz : z.length ≤ 1000000) : F37 k (cur z p) = some ((inZ z (p - 1), ()), (cur z (sk z p (p - 1)), ())) := by
  unfold F37
  show (F30 k (cur z p) (IntKind.wrap .i64 (p - 1))).bind _ = _
  rw [w64 _ (by omega) (by omega), F30_eq, Option.bind_some]
theorem F38_eq (k : Nat) (z : List (List Int)) (p : Int) (h : 0 ≤ p ∧ p < z.length) (hz : z.length ≤ 1000000) : F38 k (rec_ z p) = some ((inZ z (p + 1), ()), (rec_ z (sk z p (p + 1)), ())) := by
  unfold F38
  show (F31 k (rec_ z p) (IntKind.wrap .i64 (p + 1))).bind _ = _
  rw [w64 _ (by omega) (by omega), F31_eq, Option.bind_some]
theorem F39_eq (k : Nat) (z : List (List Int)) (p : Int) (h : 0 ≤ p ∧ p < z.length) (hz : z.length ≤ 1000000) : F39 k (rec_ z p) = some ((inZ z (p - 1), ()), (rec_ z (sk z p (p - 1)), ())) := by
  unfold F39
  show (F31 k (rec_ z p) (IntKind.wrap .i64 (p - 1))).bind _ = _
  rw [w64 _ (by omega) (by omega), F31_eq, Option.bind_some]
/-! ### the best of a window -/
def INF : Int := 1152921504606846976
def wt (z : List (List Int)) (c : Nat) (j : Nat) : Int := List.getD (List.getD z j []) c 0
def BestP (z : List (List Int)) (c a b : Nat) (bi bv : Int) : Prop :=
  (bi = 0 ∧ bv = INF ∧ ∀ j, a ≤ j → j < b → INF ≤ wt z c j) ∨
  (∃ i : Nat, bi = i ∧ a ≤ i ∧ i < b ∧ bv = wt z c i ∧ bv < INF ∧ (∀ j, a ≤ j → j < b → bv ≤ wt z c j) ∧ (∀ j, i < j → j < b → bv < wt z c j))
theorem BestP_one {z : List (List Int)} {c a b : Nat} {bi bv bi' bv' : Int} (h : BestP z c a b bi bv) (h' : BestP z c a b bi' bv') : bi = bi' ∧ bv = bv' := by
  rcases h with ⟨h1, h2, h3⟩ | ⟨i, h1, h2, h3, h4, h5, h6, h7⟩
  · rcases h' with ⟨g1, g2, g3⟩ | ⟨j, g1, g2, g3, g4, g5, g6, g7⟩
    · exact ⟨by rw [h1, g1], by rw [h2, g2]⟩
    · have := h3 j g2 g3
      omega
  · rcases h' with ⟨g1, g2, g3⟩ | ⟨j, g1, g2, g3, g4, g5, g6, g7⟩
    · have := g3 i h2 h3
      omega
    · have e1 := h6 j g2 g3
      have e2 := g6 i h2 h3
      have : i = j := by
        by_cases l1 : i < j
        · have := h7 j l1 g3; omega
        by_cases l2 : j < i
        · have := g7 i l2 h3; omega
        omega
      subst this
      exact ⟨by rw [h1, g1], by omega⟩
theorem F55_0_ok (k : Nat) (z : List (List Int)) (p : Int) (c a b : Nat) (hc : c < 3) (hb : b < z.length) (hz : z.length ≤ 1000000) : ∀ (d i n : Nat) (bi bv : Int), i + d = b + 1 → a ≤ i → d < n → BestP z c a i bi bv →
    ∃ bi' bv' : Int, F55_0 k n (b : Int) (c : Int) bi bv (i : Int) (cur z p) = some ((bi', bv', ()), (cur z p, ())) ∧ BestP z c a (b + 1) bi' bv'
  | 0, i, n, bi, bv, hi, ha, hn, h => by
    obtain ⟨n, rfl⟩ : ∃ m, n = m + 1 := ⟨n - 1, by omega⟩
    obtain rfl : i = b + 1 := by omega
    refine ⟨bi, bv, ?_, h⟩
    simp only [F55_0]
    rw [decide_eq_false (by omega), cond_false]
  | d + 1, i, n, bi, bv, hi, ha, hn, h => by
    obtain ⟨n, rfl⟩ : ∃ m, n = m + 1 := ⟨n - 1, by omega⟩
    have hwi : IntKind.wrap .i64 ((i : Int) + 1) = ((i + 1 : Nat) : Int) := by rw [w64 _ (by omega) (by omega)]; omega
    have hI : INF = 1152921504606846976 := rfl
    have hlt : i < z.length := by omega
    simp only [F55_0, hwi]
    rw [decide_eq_true (show (i : Int) ≤ (b : Int) by omega), cond_true, if_pos (show 0 ≤ (i : Int) ∧ (i : Int) < (((cur z p).1.1.length : Nat) : Int) from inR hlt), if_pos (show 0 ≤ (c : Int) ∧ (c : Int) < ((3 : Nat) : Int) by omega)]
    show ∃ bi' bv' : Int, (bif decide (wt z c i < 1152921504606846976) then bif decide (wt z c i ≤ bv) then (F55_0 k n (b : Int) (c : Int) (i : Int) (wt z c i) ((i + 1 : Nat) : Int) (cur z p)).bind some else (F55_0 k n (b : Int) (c : Int) bi bv ((i + 1 : Nat) : Int) (cur z p)).bind some else (F55_0 k n (b : Int) (c : Int) bi bv ((i + 1 : Nat) : Int) (cur z p)).bind some) = some ((bi', bv', ()), (cur z p, ())) ∧ BestP z c a (b + 1) bi' bv'
    by_cases h1 : wt z c i < 1152921504606846976
    · rw [decide_eq_true h1, cond_true]
      by_cases h2 : wt z c i ≤ bv
      · rw [decide_eq_true h2, cond_true]
        obtain ⟨bi', bv', e, hh⟩ := F55_0_ok k z p c a b hc hb hz d (i + 1) n (i : Int) (wt z c i) (by omega) (by omega) (by omega) (Or.inr ⟨i, rfl, ha, by omega, rfl, by omega, fun j hj hj2 => by
          by_cases e : j = i
          · subst e; omega
          · rcases h with ⟨_, g2, g3⟩ | ⟨i0, _, _, _, _, _, g6, _⟩
            · have := g3 j hj (by omega); omega
            · have := g6 j hj (by omega); omega, fun j hj hj2 => by omega⟩)
        exact ⟨bi', bv', by rw [e, Option.bind_some], hh⟩
      · rw [decide_eq_false h2, cond_false]
        obtain ⟨bi', bv', e, hh⟩ := F55_0_ok k z p c a b hc hb hz d (i + 1) n bi bv (by omega) (by omega) (by omega) (by
          rcases h with ⟨_, g2, g3⟩ | ⟨i0, g1, g2, g3, g4, g5, g6, g7⟩
          · omega
          · refine Or.inr ⟨i0, g1, g2, by omega, g4, g5, fun j hj hj2 => ?_, fun j hj hj2 => ?_⟩
            · by_cases e : j = i
              · subst e; omega
              · exact g6 j hj (by omega)
            · by_cases e : j = i
              · subst e; omega
              · exact g7 j hj (by omega))
        exact ⟨bi', bv', by rw [e, Option.bind_some], hh⟩
    · rw [decide_eq_false h1, cond_false]
      obtain ⟨bi', bv', e, hh⟩ := F55_0_ok k z p c a b hc hb hz d (i + 1) n bi bv (by omega) (by omega) (by omega) (by
        rcases h with ⟨g1, g2, g3⟩ | ⟨i0, g1, g2, g3, g4, g5, g6, g7⟩
        · refine Or.inl ⟨g1, g2, fun j hj hj2 => ?_⟩
          by_cases e : j = i
          · subst e; omega
          · exact g3 j hj (by omega)
        · refine Or.inr ⟨i0, g1, g2, by omega, g4, g5, fun j hj hj2 => ?_, fun j hj hj2 => ?_⟩
          · by_cases e : j = i
            · subst e; omega
            · exact g6 j hj (by omega)
          · by_cases e : j = i
            · subst e; omega
            · exact g7 j hj (by omega))
      exact ⟨bi', bv', by rw [e, Option.bind_some], hh⟩
def okW (z : List (List Int)) (a b c : Int) : Bool := decide (0 ≤ a ∧ a ≤ b ∧ b < ((z.length : Nat) : Int) ∧ 0 ≤ c ∧ c ≤ 2)
theorem F25_out (k : Nat) (z : List (List Int)) (p a b c : Int) (h : okW z a b c = false) : F25 k (cur z p) a b c = some (((0 : Int), false, ()), (cur z p, ())) := by
  have h := of_decide_eq_false h
  unfold F25
  by_cases h1 : a < 0
  · rw [decide_eq_true h1, cond_true]
  rw [decide_eq_false h1, cond_false]
  by_cases h2 : b < a
  · rw [decide_eq_true h2, cond_true]
  rw [decide_eq_false h2, cond_false, F23_eq, Option.bind_some]
  simp only
  by_cases h3 : b ≥ ((z.length : Nat) : Int)
  · rw [decide_eq_true h3, cond_true]
  rw [decide_eq_false h3, cond_false]
  by_cases h4 : c < 0
  · rw [decide_eq_true h4, cond_true]
  rw [decide_eq_false h4, cond_false]
  rw [decide_eq_true (show c > 2 by omega), cond_true]
theorem F25_in (k : Nat) (z : List (List Int)) (p : Int) (a b c : Nat) (hc : c < 3) (hab : a ≤ b) (hb : b < z.length) (hz : z.length ≤ 100000) (hk : 100010 ≤ k) : ∃ bi bv : Int, F25 k (cur z p) (a : Int) (b : Int) (c : Int) = some ((bi, decide (bv < INF), ()), (cur z p, ())) ∧ BestP z c a (b + 1) bi bv := by
  obtain ⟨bi, bv, e, h⟩ := F55_0_ok k z p c a b hc hb (by omega) (b + 1 - a) a k 0 INF (by omega) (Nat.le_refl _) (by omega) (Or.inl ⟨rfl, rfl, fun j h1 h2 => by omega⟩)
  refine ⟨bi, bv, ?_, h⟩
  unfold F25
  rw [decide_eq_false (by omega), cond_false, decide_eq_false (by omega), cond_false, F23_eq, Option.bind_some]
  simp only
  rw [decide_eq_false (show ¬ (b : Int) ≥ ((z.length : Nat) : Int) by omega), cond_false, decide_eq_false (by omega), cond_false, decide_eq_false (by omega), cond_false]
  unfold F55
  rw [show (1152921504606846976 : Int) = INF from rfl, e, Option.bind_some]
  simp only [Option.bind_some]
def MinP (z : List (List Int)) (c a b i : Nat) : Prop := a ≤ i ∧ i < b ∧ (∀ j, a ≤ j → j < b → wt z c i ≤ wt z c j) ∧ (∀ j, i < j → j < b → wt z c i < wt z c j)
theorem F40_0_ok (k : Nat) (z : List (List Int)) (p : Int) (c a b : Nat) (hc : c < 3) (hab : a ≤ b) (hb : b < z.length) (hz : z.length ≤ 1000000) : ∀ (d i n m : Nat), i + d = b + 1 → a < i → d < n → MinP z c a i m →
    ∃ m' : Nat, F40_0 k n (b : Int) (c : Int) (m : Int) (i : Int) (rec_ z p) = some (((c : Int), (m' : Int), ()), (rec_ z p, ())) ∧ MinP z c a (b + 1) m'
  | 0, i, n, m, hi, ha, hn, h => by
    obtain ⟨n, rfl⟩ : ∃ m, n = m + 1 := ⟨n - 1, by omega⟩
    obtain rfl : i = b + 1 := by omega
    refine ⟨m, ?_, h⟩
    simp only [F40_0]
    rw [decide_eq_false (by omega), cond_false]
  | d + 1, i, n, m, hi, ha, hn, h => by
    obtain ⟨n, rfl⟩ : ∃ m, n = m + 1 := ⟨n - 1, by omega⟩
    have hwi : IntKind.wrap .i64 ((i : Int) + 1) = ((i + 1 : Nat) : Int) := by rw [w64 _ (by omega) (by omega)]; omega
    obtain ⟨g1, g2, g3, g4⟩ := h
    have hlt : i < z.length := by omega
    have hlm : m < z.length := by omega
    simp only [F40_0, hwi]
    rw [decide_eq_true (show (i : Int) ≤ (b : Int) by omega), cond_true, if_pos (show 0 ≤ (i : Int) ∧ (i : Int) < (((rec_ z p).1.length : Nat) : Int) from inR hlt), if_pos (show 0 ≤ (c : Int) ∧ (c : Int) < ((3 : Nat) : Int) by omega), if_pos (show 0 ≤ (m : Int) ∧ (m : Int) < (((rec_ z p).1.length : Nat) : Int) from inR hlm), if_pos (show 0 ≤ (c : Int) ∧ (c : Int) < ((3 : Nat) : Int) by omega)]
    show ∃ m' : Nat, (bif decide (wt z c i ≤ wt z c m) then (F40_0 k n (b : Int) (c : Int) (i : Int) ((i + 1 : Nat) : Int) (rec_ z p)).bind some else (F40_0 k n (b : Int) (c : Int) (m : Int) ((i + 1 : Nat) : Int) (rec_ z p)).bind some) = some (((c : Int), (m' : Int), ()), (rec_ z p, ())) ∧ MinP z c a (b + 1) m'
    by_cases h2 : wt z c i ≤ wt z c m
    · rw [decide_eq_true h2, cond_true]
      obtain ⟨m', e, hh⟩ := F40_0_ok k z p c a b hc hab hb hz d (i + 1) n i (by omega) (by omega) (by omega) ⟨by omega, by omega, fun j hj hj2 => by
        by_cases e : j = i
        · subst e; omega
        · have := g3 j hj (by omega); omega, fun j hj hj2 => by omega⟩
      exact ⟨m', by rw [e, Option.bind_some], hh⟩
    · rw [decide_eq_false h2, cond_false]
      obtain ⟨m', e, hh⟩ := F40_0_ok k z p c a b hc hab hb hz d (i + 1) n m (by omega) (by omega) (by omega) ⟨g1, by omega, fun j hj hj2 => by
        by_cases e : j = i
        · subst e; omega
        · exact g3 j hj (by omega), fun j hj hj2 => by
        by_cases e : j = i
        · subst e; omega
        · exact g4 j hj (by omega)⟩
      exact ⟨m', by rw [e, Option.bind_some], hh⟩
theorem F40_out (k : Nat) (z : List (List Int)) (p a b c : Int) (h : okW z a b c = false) : F40 k (rec_ z p) a b c = some (((0 : Int), false, ()), (rec_ z p, ())) := by
  have h := of_decide_eq_false h
  unfold F40
  by_cases h1 : a < 0
  · rw [decide_eq_true h1, cond_true]
  rw [decide_eq_false h1, cond_false]
  show (bif decide (b ≥ ((z.length : Nat) : Int)) then _ else _) = _
  by_cases h3 : b ≥ ((z.length : Nat) : Int)
  · rw [decide_eq_true h3, cond_true]
  rw [decide_eq_false h3, cond_false]
  by_cases h2 : a > b
  · rw [decide_eq_true h2, cond_true]
  rw [decide_eq_false h2, cond_false]
  by_cases h4 : c < 0
  · rw [decide_eq_true h4, cond_true]
  rw [decide_eq_false h4, cond_false]
  rw [decide_eq_true (show c > 2 by omega), cond_true]
theorem F40_in (k : Nat) (z : List (List Int)) (p : Int) (a b c : Nat) (hc : c < 3) (hab : a ≤ b) (hb : b < z.length) (hz : z.length ≤ 100000) (hk : 100010 ≤ k) : ∃ bi bv : Int, F40 k (rec_ z p) (a : Int) (b : Int) (c : Int) = some ((bi, decide (bv < INF), ()), (rec_ z p, ())) ∧ BestP z c a (b + 1) bi bv := by
  obtain ⟨k, rfl⟩ : ∃ k', k = k' + 1 := ⟨k - 1, by omega⟩
  have hwa : IntKind.wrap .i64 ((a : Int) + 1) = ((a + 1 : Nat) : Int) := by rw [w64 _ (by omega) (by omega)]; omega
  obtain ⟨m, e, g1, g2, g3, g4⟩ := F40_0_ok (k + 1) z p c a b hc hab hb (by omega) (b - a) (a + 1) k a (by omega) (by omega) (by omega) ⟨Nat.le_refl _, by omega, fun j h1 h2 => by
    obtain rfl : j = a := by omega
    exact Int.le_refl _, fun j h1 h2 => by omega⟩
  have e0 : F40_0 (k + 1) (k + 1) (b : Int) (c : Int) (a : Int) (a : Int) (rec_ z p) = some (((c : Int), (m : Int), ()), (rec_ z p, ())) := by
    have hla : a < z.length := by omega
    simp only [F40_0, hwa]
    rw [decide_eq_true (show (a : Int) ≤ (b : Int) by omega), cond_true, if_pos (show 0 ≤ (a : Int) ∧ (a : Int) < (((rec_ z p).1.length : Nat) : Int) from inR hla), if_pos (show 0 ≤ (c : Int) ∧ (c : Int) < ((3 : Nat) : Int) by omega), if_pos (show 0 ≤ (a : Int) ∧ (a : Int) < (((rec_ z p).1.length : Nat) : Int) from inR hla), if_pos (show 0 ≤ (c : Int) ∧ (c : Int) < ((3 : Nat) : Int) by omega), decide_eq_true (Int.le_refl _), cond_true, e, Option.bind_some]
  have hu : F40 (k + 1) (rec_ z p) (a : Int) (b : Int) (c : Int) = bif decide (wt z c m ≥ INF) then some (((0 : Int), false, ()), (rec_ z p, ())) else some (((m : Int), true, ()), (rec_ z p, ())) := by
    unfold F40
    rw [decide_eq_false (by omega), cond_false]
    show (bif decide ((b : Int) ≥ ((z.length : Nat) : Int)) then _ else _) = _
    rw [decide_eq_false (show ¬ (b : Int) ≥ ((z.length : Nat) : Int) by omega), cond_false, decide_eq_false (by omega), cond_false, decide_eq_false (by omega), cond_false, decide_eq_false (by omega), cond_false, e0, Option.bind_some]
    simp only
    have hlm : m < z.length := by omega
    rw [if_pos (show 0 ≤ (m : Int) ∧ (m : Int) < (((rec_ z p).1.length : Nat) : Int) from inR hlm), if_pos (show 0 ≤ (c : Int) ∧ (c : Int) < ((3 : Nat) : Int) by omega)]
    rfl
  rw [hu]
  by_cases hi : wt z c m ≥ INF
  · refine ⟨0, INF, ?_, Or.inl ⟨rfl, rfl, fun j h1 h2 => by have := g3 j h1 h2; omega⟩⟩
    rw [decide_eq_true hi, cond_true, decide_eq_false (show ¬ INF < INF by omega)]
  · refine ⟨m, wt z c m, ?_, Or.inr ⟨m, rfl, g1, g2, rfl, by omega, g3, g4⟩⟩
    rw [decide_eq_false hi, cond_false, decide_eq_true (show wt z c m < INF by omega)]
theorem best_same (k : Nat) (z : List (List Int)) (p p' a b c : Int) (hz : z.length ≤ 100000) (hk : 100010 ≤ k) : ∃ (bi : Int) (ok : Bool), F25 k (cur z p) a b c = some ((bi, ok, ()), (cur z p, ())) ∧ F40 k (rec_ z p') a b c = some ((bi, ok, ()), (rec_ z p', ())) := by
  cases h : okW z a b c with
  | false => exact ⟨0, false, F25_out k z p a b c h, F40_out k z p' a b c h⟩
  | true =>
    obtain ⟨h1, h2, h3, h4, h5⟩ := of_decide_eq_true h
    obtain ⟨a, rfl⟩ := Int.eq_ofNat_of_zero_le h1
    obtain ⟨b, rfl⟩ := Int.eq_ofNat_of_zero_le (show 0 ≤ b by omega)
    obtain ⟨c, rfl⟩ := Int.eq_ofNat_of_zero_le h4
    obtain ⟨bi, bv, e, hh⟩ := F25_in k z p a b c (by omega) (by omega) (by omega) hz hk
    obtain ⟨bi', bv', e', hh'⟩ := F40_in k z p' a b c (by omega) (by omega) (by omega) hz hk
    obtain ⟨e1, e2⟩ := BestP_one hh hh'
    subst e1
    subst e2
    exact ⟨bi, _, e, e'⟩
end Go.Proofs.YtdgdeckaoajceaaE
/- Plain laws of seg: how every law begins. Conditions: none. -/
set_option linter.unusedSimpArgs false
set_option linter.unusedVariables false
namespace Go.Proofs.YtdgdeckaoajceaaE
open Go.Proofs.YtdgdeckaoajceaaU (scal offs)
theorem start : ∃ k, 100010 ≤ k ∧ F15 k = some ((true, ()), ()) := ⟨100210, by omega, F15_eq 100010⟩
theorem mod_nat (a n : Int) (h : 0 < n) : ∃ c : Nat, a % n = (c : Int) ∧ (c : Int) < n := by
  have h0 := Int.emod_nonneg a (show n ≠ 0 by omega)
  have h1 := Int.emod_lt_of_pos a h
  exact ⟨(a % n).toNat, by omega, by omega⟩
theorem lts_nil (t : Tb) : lts t ⟨#[]⟩ = [] := by
  have h : scal ⟨#[]⟩ = [] := by decide +kernel
  unfold lts
  rw [h]
  rfl
theorem sg_nil (t : Tb) : sg t [] = [List.getD (List.getD t.2.2.2.1.2.1 (Int.toNat 0) []) (Int.toNat (List.getD t.2.2.1.2.1 (Int.toNat 0) 0)) []] := rfl
theorem sg_pos (t : Tb) (l : List Int) : 0 < (sg t l).length := by rw [sg_length]; omega
end Go.Proofs.YtdgdeckaoajceaaE
