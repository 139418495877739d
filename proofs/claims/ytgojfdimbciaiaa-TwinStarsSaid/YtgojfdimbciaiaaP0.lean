/- Plain laws. Conditions: none. -/
import Derived.Test.YtgojfdimbciaiaaG2
/- Plain laws: numbers, loops. Conditions: none. -/
set_option linter.unusedSimpArgs false
set_option linter.unusedVariables false
namespace Go.Proofs.YtgojfdimbciaiaaE
theorem w64 (x : Int) (h : -9223372036854775808 ≤ x) (h2 : x ≤ 9223372036854775807) : IntKind.wrap .i64 x = x := by
  simp only [IntKind.wrap, IntKind.signed, IntKind.bits, Bool.true_and]
  split
  · rename_i hc
    have hc' := of_decide_eq_true hc
    omega
  · rename_i hc
    have hc' : ¬ _ := fun h => hc (decide_eq_true h)
    omega
theorem wu8 (x : Int) : IntKind.wrap .u8 x = x % 256 := by
  simp only [IntKind.wrap, IntKind.signed, IntKind.bits]
  simp
theorem wu64 (x : Int) (h : 0 ≤ x) (h2 : x ≤ 18446744073709551615) : IntKind.wrap .u64 x = x := by
  simp only [IntKind.wrap, IntKind.signed, IntKind.bits, Bool.false_and]
  simp
  omega
theorem getD_lt {α : Type} (l : List α) (i : Nat) (d : α) (h : i < l.length) : List.getD l i d = l[i] := by
  simp [List.getD_eq_getElem?_getD, List.getElem?_eq_getElem h]
theorem inR {i n : Nat} (h : i < n) : (0 : Int) ≤ (i : Int) ∧ (i : Int) < ((n : Nat) : Int) := by omega
theorem dlt {i n : Nat} (h : i < n) : decide ((i : Int) < ((n : Nat) : Int)) = true := by simpa using h
theorem dnlt (n : Nat) : decide ((n : Int) < ((n : Nat) : Int)) = false := by simp
theorem wsucc (i n : Nat) (h : i < n) (hn : n ≤ 9223372036854775807) : IntKind.wrap .i64 ((i : Int) + 1) = ((i + 1 : Nat) : Int) := by
  rw [w64 _ (by omega) (by omega)]; omega
/-- A loop over a list: `G l s` is what is left to be told of the rest `l` in the state `s`. -/
theorem loop_list {α S R : Type} (F : Nat → Int → S → Option R) (l : List α) (G : List α → S → R) (I : Nat → S → Prop)
    (h0 : ∀ n s, I l.length s → F (n + 1) ((l.length : Nat) : Int) s = some (G [] s))
    (h1 : ∀ n i s (h : i < l.length), I i s → (F (n + 1) (i : Int) s = some (G (l[i] :: l.drop (i + 1)) s)) ∨ ∃ s', I (i + 1) s' ∧ F (n + 1) (i : Int) s = F n ((i + 1 : Nat) : Int) s' ∧ G (l[i] :: l.drop (i + 1)) s = G (l.drop (i + 1)) s') :
    ∀ n i s, i ≤ l.length → l.length - i < n → I i s → F n (i : Int) s = some (G (l.drop i) s)
  | 0, i, s, _, hn, _ => by omega
  | n + 1, i, s, hi, hn, hI => by
    by_cases hlt : i < l.length
    · rw [List.drop_eq_getElem_cons hlt]
      rcases h1 n i s hlt hI with h | ⟨s', hI', e, eG⟩
      · exact h
      · rw [e, eG]
        exact loop_list F l G I h0 h1 n (i + 1) s' hlt (by omega) hI'
    · obtain rfl : i = l.length := by omega
      rw [h0 n s hI, List.drop_length]
/-- From its beginning on. -/
theorem loop_list0 {α S R : Type} (F : Nat → Int → S → Option R) (l : List α) (G : List α → S → R) (I : Nat → S → Prop)
    (h0 : ∀ n s, I l.length s → F (n + 1) ((l.length : Nat) : Int) s = some (G [] s))
    (h1 : ∀ n i s (h : i < l.length), I i s → (F (n + 1) (i : Int) s = some (G (l[i] :: l.drop (i + 1)) s)) ∨ ∃ s', I (i + 1) s' ∧ F (n + 1) (i : Int) s = F n ((i + 1 : Nat) : Int) s' ∧ G (l[i] :: l.drop (i + 1)) s = G (l.drop (i + 1)) s') (n : Nat) (s : S) (hn : l.length < n) (hI : I 0 s) : F n 0 s = some (G l s) := by
  have := loop_list F l G I h0 h1 n 0 s (Nat.zero_le _) (by omega) hI
  simpa using this
/-- A loop by a count. -/
theorem loop_count {S R : Type} (F : Nat → Int → S → Option R) (m : Nat) (G : Nat → S → R) (I : Nat → S → Prop)
    (h0 : ∀ n s, I m s → F (n + 1) ((m : Nat) : Int) s = some (G 0 s))
    (h1 : ∀ n i j s (h : i < m) (hj : m - i = j + 1), I i s → (F (n + 1) (i : Int) s = some (G (j + 1) s)) ∨ ∃ s', I (i + 1) s' ∧ F (n + 1) (i : Int) s = F n ((i + 1 : Nat) : Int) s' ∧ G (j + 1) s = G j s') :
    ∀ n i s, i ≤ m → m - i < n → I i s → F n (i : Int) s = some (G (m - i) s)
  | 0, i, s, _, hn, _ => by omega
  | n + 1, i, s, hi, hn, hI => by
    by_cases hlt : i < m
    · obtain ⟨j, hj⟩ : ∃ j, m - i = j + 1 := ⟨m - i - 1, by omega⟩
      rw [hj]
      rcases h1 n i j s hlt hj hI with h | ⟨s', hI', e, eG⟩
      · exact h
      · rw [e, eG]
        have := loop_count F m G I h0 h1 n (i + 1) s' hlt (by omega) hI'
        rwa [show m - (i + 1) = j by omega] at this
    · obtain rfl : i = m := by omega
      rw [h0 n s hI, Nat.sub_self]
theorem loop_count0 {S R : Type} (F : Nat → Int → S → Option R) (m : Nat) (G : Nat → S → R) (I : Nat → S → Prop)
    (h0 : ∀ n s, I m s → F (n + 1) ((m : Nat) : Int) s = some (G 0 s))
    (h1 : ∀ n i j s (h : i < m) (hj : m - i = j + 1), I i s → (F (n + 1) (i : Int) s = some (G (j + 1) s)) ∨ ∃ s', I (i + 1) s' ∧ F (n + 1) (i : Int) s = F n ((i + 1 : Nat) : Int) s' ∧ G (j + 1) s = G j s') (n : Nat) (s : S) (hn : m < n) (hI : I 0 s) : F n 0 s = some (G m s) := by
  have := loop_count F m G I h0 h1 n 0 s (Nat.zero_le _) (by omega) hI
  simpa using this
/-- A number's eight bytes. -/
def be8 (n : Int) : List Int := [n / 72057594037927936 % 256, n / 281474976710656 % 256, n / 1099511627776 % 256, n / 4294967296 % 256, n / 16777216 % 256, n / 65536 % 256, n / 256 % 256, n % 256]
/-- A number that eight bytes say. -/
def valL (l : List Int) : Int := l.foldl (fun n c => IntKind.wrap .i64 (n * 256 + c)) 0
def IsB (l : List Int) : Prop := ∀ x ∈ l, 0 ≤ x ∧ x ≤ 255
def I64 (n : Int) : Prop := -9223372036854775808 ≤ n ∧ n ≤ 9223372036854775807
theorem be8_len (n : Int) : (be8 n).length = 8 := rfl
theorem be8_isB (n : Int) : IsB (be8 n) := by
  intro x hx
  simp only [be8, List.mem_cons, List.not_mem_nil, or_false] at hx
  omega
theorem wrap_I64 (x : Int) : I64 (IntKind.wrap .i64 x) := by
  unfold I64
  simp only [IntKind.wrap, IntKind.signed, IntKind.bits, Bool.true_and]
  split
  · rename_i hc
    have hc' := of_decide_eq_true hc
    omega
  · rename_i hc
    have hc' : ¬ _ := fun h => hc (decide_eq_true h)
    omega
theorem wrap_mod (x : Int) : IntKind.wrap .i64 x % 18446744073709551616 = x % 18446744073709551616 := by
  simp only [IntKind.wrap, IntKind.signed, IntKind.bits, Bool.true_and]
  split
  · omega
  · omega
theorem wrap_eq {x y : Int} (h : x % 18446744073709551616 = y % 18446744073709551616) : IntKind.wrap .i64 x = IntKind.wrap .i64 y := by
  simp only [IntKind.wrap]
  have : (2 : Int) ^ IntKind.bits .i64 = 18446744073709551616 := rfl
  simp only [this, h]
theorem valL_be8 (n : Int) (h : I64 n) : valL (be8 n) = n := by
  unfold I64 at h
  simp only [valL, be8, List.foldl_cons, List.foldl_nil]
  rw [w64 (0 * 256 + _) (by omega) (by omega)]
  rw [w64 ((0 * 256 + n / 72057594037927936 % 256) * 256 + n / 281474976710656 % 256) (by omega) (by omega)]
  rw [show ((0 * 256 + n / 72057594037927936 % 256) * 256 + n / 281474976710656 % 256) = n / 281474976710656 % 65536 by omega]
  rw [w64 (n / 281474976710656 % 65536 * 256 + n / 1099511627776 % 256) (by omega) (by omega)]
  rw [show (n / 281474976710656 % 65536 * 256 + n / 1099511627776 % 256) = n / 1099511627776 % 16777216 by omega]
  rw [w64 (n / 1099511627776 % 16777216 * 256 + n / 4294967296 % 256) (by omega) (by omega)]
  rw [show (n / 1099511627776 % 16777216 * 256 + n / 4294967296 % 256) = n / 4294967296 % 4294967296 by omega]
  rw [w64 (n / 4294967296 % 4294967296 * 256 + n / 16777216 % 256) (by omega) (by omega)]
  rw [show (n / 4294967296 % 4294967296 * 256 + n / 16777216 % 256) = n / 16777216 % 1099511627776 by omega]
  rw [w64 (n / 16777216 % 1099511627776 * 256 + n / 65536 % 256) (by omega) (by omega)]
  rw [show (n / 16777216 % 1099511627776 * 256 + n / 65536 % 256) = n / 65536 % 281474976710656 by omega]
  rw [w64 (n / 65536 % 281474976710656 * 256 + n / 256 % 256) (by omega) (by omega)]
  rw [show (n / 65536 % 281474976710656 * 256 + n / 256 % 256) = n / 256 % 72057594037927936 by omega]
  rw [wrap_eq (y := n) (by omega), w64 n h.1 h.2]
/-- Eight bytes are those of the number that they say. -/
theorem be8_valL (l : List Int) (hb : IsB l) (hl : l.length = 8) : be8 (valL l) = l := by
  match l, hl with
  | [a, b, c, d, e, f, g, h], _ =>
    have ha := hb a (by simp)
    have hb' := hb b (by simp)
    have hc := hb c (by simp)
    have hd := hb d (by simp)
    have he := hb e (by simp)
    have hf := hb f (by simp)
    have hg := hb g (by simp)
    have hh := hb h (by simp)
    have hw : valL [a, b, c, d, e, f, g, h] % 18446744073709551616 = (((((((a * 256 + b) * 256 + c) * 256 + d) * 256 + e) * 256 + f) * 256 + g) * 256 + h) := by
      simp only [valL, List.foldl_cons, List.foldl_nil]
      rw [w64 (0 * 256 + a) (by omega) (by omega), w64 ((0 * 256 + a) * 256 + b) (by omega) (by omega)]
      rw [w64 (((0 * 256 + a) * 256 + b) * 256 + c) (by omega) (by omega), w64 ((((0 * 256 + a) * 256 + b) * 256 + c) * 256 + d) (by omega) (by omega)]
      rw [w64 (((((0 * 256 + a) * 256 + b) * 256 + c) * 256 + d) * 256 + e) (by omega) (by omega), w64 ((((((0 * 256 + a) * 256 + b) * 256 + c) * 256 + d) * 256 + e) * 256 + f) (by omega) (by omega)]
      rw [w64 (((((((0 * 256 + a) * 256 + b) * 256 + c) * 256 + d) * 256 + e) * 256 + f) * 256 + g) (by omega) (by omega), wrap_mod]
      omega
    generalize valL [a, b, c, d, e, f, g, h] = v at hw
    simp only [be8]
    rw [show v % 256 = h by omega]
    have h7 : v / 256 % 72057594037927936 = ((((((a * 256 + b) * 256 + c) * 256 + d) * 256 + e) * 256 + f) * 256 + g) := by omega
    rw [show v / 256 % 256 = g by omega]
    have h6 : v / 65536 % 281474976710656 = (((((a * 256 + b) * 256 + c) * 256 + d) * 256 + e) * 256 + f) := by omega
    rw [show v / 65536 % 256 = f by omega]
    have h5 : v / 16777216 % 1099511627776 = ((((a * 256 + b) * 256 + c) * 256 + d) * 256 + e) := by omega
    rw [show v / 16777216 % 256 = e by omega]
    have h4 : v / 4294967296 % 4294967296 = (((a * 256 + b) * 256 + c) * 256 + d) := by omega
    rw [show v / 4294967296 % 256 = d by omega]
    have h3 : v / 1099511627776 % 16777216 = ((a * 256 + b) * 256 + c) := by omega
    rw [show v / 1099511627776 % 256 = c by omega]
    have h2 : v / 281474976710656 % 65536 = (a * 256 + b) := by omega
    rw [show v / 281474976710656 % 256 = b by omega, show v / 72057594037927936 % 256 = a by omega]
/-- A byte behind a number. -/
theorem or_byte (n c : Int) (h0 : 0 ≤ c) (h1 : c ≤ 255) : IntKind.wrap .i64 (((BitVec.ofInt 64 (IntKind.wrap .i64 (n * 256)) ||| BitVec.ofInt 64 (IntKind.wrap .i64 c)).toNat : Nat) : Int) = IntKind.wrap .i64 (n * 256 + c) := by
  rw [w64 c (by omega) (by omega)]
  apply wrap_eq
  rw [BitVec.toNat_or, BitVec.toNat_ofInt, BitVec.toNat_ofInt]
  have e1 : (IntKind.wrap .i64 (n * 256) % ((2 ^ 64 : Nat) : Int)).toNat = (n % 72057594037927936).toNat * 256 := by
    have h := wrap_mod (n * 256)
    rw [show ((2 ^ 64 : Nat) : Int) = 18446744073709551616 from rfl, h]
    omega
  have e2 : (c % ((2 ^ 64 : Nat) : Int)).toNat = c.toNat := by
    rw [show ((2 ^ 64 : Nat) : Int) = 18446744073709551616 from rfl]
    omega
  rw [e1, e2]
  have h3 := Nat.shiftLeft_add_eq_or_of_lt (b := c.toNat) (i := 8) (by omega) (n % 72057594037927936).toNat
  rw [Nat.shiftLeft_eq, show 2 ^ 8 = 256 from rfl] at h3
  rw [← h3]
  omega
/-- A loop that ends early at the first index that something holds of. -/
theorem loop_all {R : Type} (F : Nat → Int → Option R) (m : Nat) (p : Nat → Bool) (no : R) (yes : Nat → R)
    (h0 : ∀ n, F (n + 1) (m : Int) = some no) (h1 : ∀ n i, i < m → p i = true → F (n + 1) (i : Int) = some (yes i))
    (h2 : ∀ n i, i < m → p i = false → F (n + 1) (i : Int) = F n ((i + 1 : Nat) : Int)) (n : Nat) (hn : m < n) :
    ((∀ i, i < m → p i = false) ∧ F n 0 = some no) ∨ (∃ i, i < m ∧ p i = true ∧ F n 0 = some (yes i)) := by
  have go : ∀ n i, i ≤ m → m - i < n → ((∀ j, i ≤ j → j < m → p j = false) ∧ F n (i : Int) = some no) ∨ (∃ j, i ≤ j ∧ j < m ∧ p j = true ∧ F n (i : Int) = some (yes j)) := by
    intro n
    induction n with
    | zero => intro i h h'; omega
    | succ n ih =>
      intro i hi hn
      by_cases hlt : i < m
      · cases hp : p i with
        | true => exact .inr ⟨i, Nat.le_refl _, hlt, hp, h1 n i hlt hp⟩
        | false =>
          rw [h2 n i hlt hp]
          rcases ih (i + 1) hlt (by omega) with ⟨h, e⟩ | ⟨j, hj, hj2, hpj, e⟩
          · refine .inl ⟨fun j hj hj2 => ?_, e⟩
            by_cases hij : j = i
            · rw [hij]; exact hp
            · exact h j (by omega) hj2
          · exact .inr ⟨j, by omega, hj2, hpj, e⟩
      · obtain rfl : i = m := by omega
        exact .inl ⟨fun j hj hj2 => by omega, h0 n⟩
  rcases go n 0 (Nat.zero_le _) (by omega) with ⟨h, e⟩ | ⟨j, _, hj, hp, e⟩
  · exact .inl ⟨fun j hj => h j (Nat.zero_le _) hj, e⟩
  · exact .inr ⟨j, hj, hp, e⟩
/-- The same of a list's items. -/
theorem loop_any {α R : Type} (F : Nat → Int → Option R) (l : List α) (p : α → Bool) (no : R) (yes : Nat → R)
    (h0 : ∀ n, F (n + 1) ((l.length : Nat) : Int) = some no) (h1 : ∀ n i (h : i < l.length), p l[i] = true → F (n + 1) (i : Int) = some (yes i))
    (h2 : ∀ n i (h : i < l.length), p l[i] = false → F (n + 1) (i : Int) = F n ((i + 1 : Nat) : Int)) (n : Nat) (hn : l.length < n) :
    (l.any p = false ∧ F n 0 = some no) ∨ (l.any p = true ∧ ∃ i, i < l.length ∧ F n 0 = some (yes i)) := by
  rcases loop_all F l.length (fun i => if h : i < l.length then p l[i] else false) no yes h0 (fun n i h hp => h1 n i h (by simpa [h] using hp)) (fun n i h hp => h2 n i h (by simpa [h] using hp)) n hn with ⟨h, e⟩ | ⟨i, hi, hp, e⟩
  · refine .inl ⟨?_, e⟩
    rw [List.any_eq_false]
    intro x hx
    obtain ⟨i, hi, rfl⟩ := List.getElem_of_mem hx
    have := h i hi
    simp only [hi, dif_pos] at this
    simp [this]
  · refine .inr ⟨?_, i, hi, e⟩
    rw [List.any_eq_true]
    simp only [hi, dif_pos] at hp
    exact ⟨l[i], List.getElem_mem hi, hp⟩
/-- A loop that keeps something. -/
theorem loop_inv {S R : Type} (F : Nat → Int → S → Option R) (m : Nat) (I : Nat → S → Prop) (Q : R → Prop)
    (h0 : ∀ n s, I m s → ∃ r, F (n + 1) (m : Int) s = some r ∧ Q r)
    (h1 : ∀ n i s, i < m → I i s → (∃ r, F (n + 1) (i : Int) s = some r ∧ Q r) ∨ ∃ s', I (i + 1) s' ∧ F (n + 1) (i : Int) s = F n ((i + 1 : Nat) : Int) s') (n : Nat) (s : S) (hn : m < n) (hI : I 0 s) : ∃ r, F n 0 s = some r ∧ Q r := by
  have go : ∀ n i s, i ≤ m → m - i < n → I i s → ∃ r, F n (i : Int) s = some r ∧ Q r := by
    intro n
    induction n with
    | zero => intro i s a b; omega
    | succ n ih =>
      intro i s a b hI
      by_cases hi : i < m
      · rcases h1 n i s hi hI with h | ⟨s', hI', e⟩
        · exact h
        · rw [e]
          exact ih (i + 1) s' (by omega) (by omega) hI'
      · obtain rfl : i = m := by omega
        exact h0 n s hI
  exact go n 0 s (Nat.zero_le _) (by omega) hI
theorem all_append {α : Type} {P : α → Prop} {l : List α} {a : α} (h : ∀ x ∈ l, P x) (ha : P a) : ∀ x ∈ l ++ [a], P x := fun x hx => by
  rcases List.mem_append.1 hx with hx | hx
  · exact h x hx
  · rw [List.mem_singleton.1 hx]
    exact ha
theorem nz {n : Nat} (h : 0 < n) : (((n : Nat) : Int) == 0) = false := beq_false_of_ne (by omega)
end Go.Proofs.YtgojfdimbciaiaaE
/- Plain laws of twin: a side's graph, a walk's beginning. Conditions: none. -/
set_option linter.unusedSimpArgs false
set_option linter.unusedVariables false
namespace Go.Proofs.YtgojfdimbciaiaaE
theorem one_list {α : Type} (d x : α) : List.set (List.replicate 1 d) 0 x = [x] := (rfl : List.set [d] 0 x = [x]).trans rfl
theorem getD_mem {α : Type} {l : List α} {i : Nat} {d : α} (h : i < l.length) : List.getD l i d ∈ l := by
  rw [getD_lt _ _ _ h]
  exact List.getElem_mem h
theorem getD_set_same {α : Type} {l : List α} {i : Nat} {v d : α} (h : i < l.length) : List.getD (List.set l i v) i d = v := by
  rw [List.getD_eq_getElem?_getD, List.getElem?_set_self h]
  rfl
theorem getD_set_ne {α : Type} {l : List α} {i j : Nat} {v d : α} (h : i ≠ j) : List.getD (List.set l i v) j d = List.getD l j d := by
  rw [List.getD_eq_getElem?_getD, List.getD_eq_getElem?_getD, List.getElem?_set_ne h]
abbrev ArcT := Int × (Int × (Int × Unit))
abbrev SideT := List Int × (List Int × (List Int × (List ArcT × (Int × Unit))))
abbrev GrT := List (List Int) × Unit
abbrev WkT := GrT × (List Int × (List Int × Unit))
/-- Where arcs lead to. -/
def adj (l : List ArcT) (u : Int) : List Int := (l.filter fun a => a.1 == u).map fun a => a.2.1
theorem adj_succ (l : List ArcT) (i : Nat) (h : i < l.length) (u : Int) : adj (l.take (i + 1)) u = adj (l.take i) u ++ (if l[i].1 = u then [l[i].2.1] else []) := by
  unfold adj
  rw [List.take_add_one, List.getElem?_eq_getElem h, List.filter_append, List.map_append]
  congr 1
  by_cases e : l[i].1 = u
  · rw [if_pos e]
    simp [e]
  · rw [if_neg e]
    simp [e]
def ArcsP (n : Nat) (l : List ArcT) : Prop := ∀ a ∈ l, (0 ≤ a.1 ∧ a.1 < (n : Int)) ∧ 0 ≤ a.2.1 ∧ a.2.1 < (n : Int)
theorem adj_range {n : Nat} {l : List ArcT} (h : ArcsP n l) (u : Int) : ∀ v ∈ adj l u, 0 ≤ v ∧ v < (n : Int) := fun v hv => by
  unfold adj at hv
  obtain ⟨a, ha, rfl⟩ := List.mem_map.1 hv
  exact (h a (List.mem_filter.1 ha).1).2
theorem adj_len (l : List ArcT) (u : Int) : (adj l u).length ≤ l.length := by
  unfold adj
  rw [List.length_map]
  exact List.length_filter_le _ _
/-- The graph of arcs. -/
def GrP (n : Nat) (l : List ArcT) (nx : List (List Int)) : Prop := nx.length = n ∧ ∀ u : Nat, u < n → List.getD nx u [] = adj l (u : Int)
theorem F32_0_ok (k n : Nat) (l : List ArcT) (z : GrT) (hl : ArcsP n l) (hs : l.length ≤ 1000000) : ∀ (d m i : Nat) (nx : List (List Int)), i + d = l.length → d < m → GrP n (l.take i) nx →
    ∃ nx', F32_0 k m l ((l.length : Nat) : Int) (i : Int) z (nx, ()) = some ((), (z, (nx', ()), ())) ∧ GrP n l nx'
  | 0, m, i, nx, hi, hm, h => by
    obtain ⟨m, rfl⟩ : ∃ m', m = m' + 1 := ⟨m - 1, by omega⟩
    obtain rfl : i = l.length := by omega
    rw [List.take_length] at h
    refine ⟨nx, ?_, h⟩
    simp only [F32_0]
    rw [dnlt, cond_false]
  | d + 1, m, i, nx, hi, hm, h => by
    obtain ⟨m, rfl⟩ : ∃ m', m = m' + 1 := ⟨m - 1, by omega⟩
    have hlt : i < l.length := by omega
    obtain ⟨h1, h2⟩ := h
    obtain ⟨p1, p2⟩ := (hl _ (List.getElem_mem hlt)).1
    obtain ⟨p, hp⟩ := Int.eq_ofNat_of_zero_le p1
    have hpn : p < n := by omega
    have hadj := h2 p hpn
    have hal := adj_len (l.take i) (p : Int)
    rw [List.length_take] at hal
    have hin : 0 ≤ l[i].1 ∧ l[i].1 < ((nx.length : Nat) : Int) := by omega
    obtain ⟨nx', e, hh⟩ := F32_0_ok k n l z hl hs d m (i + 1) (List.set nx p (List.getD nx p [] ++ [l[i].2.1])) (by omega) (by omega) ⟨by rw [List.length_set]; exact h1, fun u hu => by
      rw [adj_succ l i hlt]
      by_cases e : p = u
      · subst e
        rw [getD_set_same (by omega), hadj, if_pos hp]
      · rw [getD_set_ne e, h2 u hu, if_neg (by omega), List.append_nil]⟩
    refine ⟨nx', ?_, hh⟩
    simp only [F32_0, one_list]
    rw [dlt hlt, cond_true, if_pos (inR hlt), Int.toNat_natCast, getD_lt _ _ _ hlt, if_pos hin, hp, Int.toNat_natCast, if_pos (by rw [hadj, List.length_singleton]; omega), if_pos (by omega), if_pos (by trivial), wsucc i _ hlt (by omega), e, Option.bind_some]
theorem F32_ok (k n : Nat) (s : SideT) (hn : s.1.length = n) (hl : ArcsP n s.2.2.2.1) (hs : s.2.2.2.1.length ≤ 1000000) (hk : s.2.2.2.1.length < k) (hn2 : n ≤ 1000000) : ∃ nx, F32 k s = some (((nx, ()), ()), ()) ∧ GrP n s.2.2.2.1 nx := by
  obtain ⟨nx, e, h⟩ := F32_0_ok k n s.2.2.2.1 (([] : List (List Int)), ()) hl hs s.2.2.2.1.length k 0 (List.replicate n []) (by omega) hk ⟨by simp, fun u hu => by
    rw [getD_lt _ _ _ (by simpa using hu)]
    simp [adj]⟩
  refine ⟨nx, ?_, h⟩
  unfold F32
  rw [hn, if_pos (by omega), Int.toNat_natCast]
  simp only
  rw [show (0 : Int) = ((0 : Nat) : Int) from rfl, e, Option.bind_some]
/-! ### A walk -/
def wk (nx : List (List Int)) (fr q : List Int) : WkT := ((nx, ()), (fr, (q, ())))
theorem F33_0_ok (k : Nat) (nx : List (List Int)) (t q : List Int) (n : Nat) (hn : n ≤ 1000000) : ∀ (d m i : Nat) (fr : List Int), i + d = n → d < m → fr.length = n → (∀ u, u < i → List.getD fr u 0 = -1) →
    F33_0 k m t (n : Int) (i : Int) (wk nx fr q) = some ((t, ()), (wk nx (List.replicate n (-1)) q, ()))
  | 0, m, i, fr, hi, hm, h1, h2 => by
    obtain ⟨m, rfl⟩ : ∃ m', m = m' + 1 := ⟨m - 1, by omega⟩
    obtain rfl : i = n := by omega
    have : fr = List.replicate i (-1) := by
      refine List.ext_getElem (by simp [h1]) fun u hu _ => ?_
      have := h2 u (by omega)
      rw [getD_lt _ _ _ hu] at this
      simp [this]
    simp only [F33_0]
    rw [decide_eq_false (by omega), cond_false, this]
  | d + 1, m, i, fr, hi, hm, h1, h2 => by
    obtain ⟨m, rfl⟩ : ∃ m', m = m' + 1 := ⟨m - 1, by omega⟩
    have ih := F33_0_ok k nx t q n hn d m (i + 1) (List.set fr i (-1)) (by omega) (by omega) (by rw [List.length_set]; exact h1) (fun u hu => by
      by_cases e : i = u
      · subst e; exact getD_set_same (by omega)
      · rw [getD_set_ne e]; exact h2 u (by omega))
    simp only [F33_0]
    rw [decide_eq_true (by omega), cond_true]
    show (if 0 ≤ (i : Int) ∧ (i : Int) < ((fr.length : Nat) : Int) then (F33_0 k m t (n : Int) (IntKind.wrap .i64 ((i : Int) + 1)) (wk nx (List.set fr i (-1)) q)).bind some else none) = _
    rw [if_pos (by omega), w64 _ (by omega) (by omega), show ((i : Int) + 1) = ((i + 1 : Nat) : Int) from by omega, ih, Option.bind_some]
theorem F33_ok (k n : Nat) (nx : List (List Int)) (r : Nat) (hn : nx.length = n) (hr : r < n) (hn2 : n ≤ 100000) (hk : 100010 ≤ k) : F33 k (nx, ()) [(r : Int)] = some ((wk nx (List.set (List.replicate n (-1)) r (r : Int)) [(r : Int)], ()), ()) := by
  obtain ⟨k, rfl⟩ : ∃ k', k = k' + 2 := ⟨k - 2, by omega⟩
  have e := F33_0_ok (k + 2) nx [(r : Int)] [] n (by omega) n (k + 2) 0 (List.replicate n 0) (by omega) (by omega) (by simp) (fun u hu => by omega)
  have e : F33_0 (k + 2) (k + 2) [(r : Int)] (n : Int) 0 ((nx, ()), (List.replicate n 0, ([], ()))) = some (([(r : Int)], ()), (wk nx (List.replicate n (-1)) [], ())) := e
  unfold F33
  simp only [List.length_replicate]
  rw [hn, if_pos (by omega), Int.toNat_natCast, e, Option.bind_some]
  simp only
  have e1 : F33_1 (k + 2) (k + 2) [(r : Int)] ((([(r : Int)] : List Int).length : Nat) : Int) 0 ((nx, ()), (List.replicate n (-1), ([], ()))) = some ((), (wk nx (List.set (List.replicate n (-1)) r (r : Int)) [(r : Int)], ())) := by
    simp only [F33_1, one_list]
    have hin : 0 ≤ (r : Int) ∧ (r : Int) < (((List.replicate n (-1 : Int)).length : Nat) : Int) := by
      rw [List.length_replicate]
      omega
    rw [decide_eq_true (show (0 : Int) < ((([(r : Int)] : List Int).length : Nat) : Int) by simp), cond_true, if_pos (show 0 ≤ (0 : Int) ∧ (0 : Int) < ((([(r : Int)] : List Int).length : Nat) : Int) by simp)]
    rw [show List.getD [(r : Int)] (Int.toNat 0) 0 = (r : Int) from rfl, if_pos hin, if_pos (by simp)]
    rfl
  have e1 : F33_1 (k + 2) (k + 2) [(r : Int)] ((([(r : Int)] : List Int).length : Nat) : Int) 0 (wk nx (List.replicate n (-1)) []) = _ := e1
  rw [e1, Option.bind_some]
end Go.Proofs.YtgojfdimbciaiaaE
/- Plain laws of twin: a walk, breadth first. Conditions: none. -/
set_option linter.unusedSimpArgs false
set_option linter.unusedVariables false
namespace Go.Proofs.YtgojfdimbciaiaaE
/-- One position that an arc leads to. -/
def vis1 (a : Int) (s : List Int × List Int) (w : Int) : List Int × List Int := if List.getD s.1 (Int.toNat w) 0 < 0 then (List.set s.1 (Int.toNat w) a, s.2 ++ [w]) else s
theorem vis1_len (a : Int) (s : List Int × List Int) (w : Int) : (vis1 a s w).1.length = s.1.length ∧ (vis1 a s w).2.length ≤ s.2.length + 1 := by
  unfold vis1
  split <;> simp
theorem F34_0_ok (k n : Nat) (nx : List (List Int)) (g a x y : Int) (b : Bool) (l : List Int) (hl : ∀ w ∈ l, 0 ≤ w ∧ w < (n : Int)) (hs : l.length ≤ 1000000) : ∀ (d m i : Nat) (fr q : List Int), i + d = l.length → d < m → fr.length = n → q.length + d ≤ 1000000 →
    F34_0 k m g a x y b l ((l.length : Nat) : Int) (i : Int) (wk nx fr q) = some ((g, x, y, b, ()), (wk nx ((l.drop i).foldl (vis1 a) (fr, q)).1 ((l.drop i).foldl (vis1 a) (fr, q)).2, ()))
  | 0, m, i, fr, q, hi, hm, h1, h2 => by
    obtain ⟨m, rfl⟩ : ∃ m', m = m' + 1 := ⟨m - 1, by omega⟩
    obtain rfl : i = l.length := by omega
    simp only [F34_0]
    rw [dnlt, cond_false, List.drop_eq_nil_of_le (Nat.le_refl _)]
    rfl
  | d + 1, m, i, fr, q, hi, hm, h1, h2 => by
    obtain ⟨m, rfl⟩ : ∃ m', m = m' + 1 := ⟨m - 1, by omega⟩
    have hlt : i < l.length := by omega
    obtain ⟨w0, w1⟩ := hl _ (List.getElem_mem hlt)
    have hin : 0 ≤ l[i] ∧ l[i] < (((wk nx fr q).2.1.length : Nat) : Int) := by
      show 0 ≤ l[i] ∧ l[i] < ((fr.length : Nat) : Int)
      omega
    simp only [F34_0, one_list]
    rw [dlt hlt, cond_true, if_pos (inR hlt), show Int.toNat (i : Int) = i from rfl, getD_lt l _ _ hlt, if_pos hin, wsucc i _ hlt (by omega), List.drop_eq_getElem_cons hlt, List.foldl_cons]
    by_cases hv : List.getD fr (Int.toNat l[i]) 0 < 0
    · have hv1 : vis1 a (fr, q) l[i] = (List.set fr (Int.toNat l[i]) a, q ++ [l[i]]) := if_pos hv
      rw [decide_eq_true (show List.getD (wk nx fr q).2.1 (Int.toNat l[i]) 0 < 0 from hv), cond_true, if_pos hin, hv1]
      rw [if_pos (show ((wk nx fr q).2.2.1.length + [l[i]].length) * (8 * 2) ≤ 281474976710656 ∧ (wk nx fr q).2.2.1.length + [l[i]].length ≤ 9223372036854775807 from (show (q.length + [l[i]].length) * (8 * 2) ≤ 281474976710656 ∧ q.length + [l[i]].length ≤ 9223372036854775807 by rw [List.length_singleton]; omega))]
      show (F34_0 k m g a x y b l ((l.length : Nat) : Int) ((i + 1 : Nat) : Int) (wk nx (List.set fr (Int.toNat l[i]) a) (q ++ [l[i]]))).bind some = _
      rw [F34_0_ok k n nx g a x y b l hl hs d m (i + 1) _ _ (by omega) (by omega) (by rw [List.length_set]; exact h1) (by simp; omega), Option.bind_some]
    · have hv1 : vis1 a (fr, q) l[i] = (fr, q) := if_neg hv
      rw [decide_eq_false (show ¬ List.getD (wk nx fr q).2.1 (Int.toNat l[i]) 0 < 0 from hv), cond_false, hv1, F34_0_ok k n nx g a x y b l hl hs d m (i + 1) _ _ (by omega) (by omega) h1 (by omega), Option.bind_some]
/-- What a walk knows: 'ord' are the positions that it came to, one by one. -/
structure Bf (n : Nat) (nx : List (List Int)) (r : Nat) (fr q : List Int) (ord : List Nat) : Prop where
  len : fr.length = n
  nd : ord.Nodup
  lt : ∀ v ∈ ord, v < n
  pos : 0 < ord.length
  fst : List.getD ord 0 0 = r
  root : List.getD fr r 0 = (r : Int)
  vis : ∀ v, v < n → (0 ≤ List.getD fr v 0 ↔ v ∈ ord)
  par : ∀ i, 0 < i → i < ord.length → ∃ j, j < i ∧ List.getD fr (List.getD ord i 0) 0 = ((List.getD ord j 0 : Nat) : Int) ∧ ((List.getD ord i 0 : Nat) : Int) ∈ List.getD nx (List.getD ord j 0) []
  que : ∀ x ∈ q, ∃ v : Nat, x = (v : Int) ∧ v ∈ ord
theorem nd_len : ∀ (n : Nat) (l : List Nat), l.Nodup → (∀ v ∈ l, v < n) → l.length ≤ n
  | 0, l, h, hl => by
    cases l with
    | nil => simp
    | cons a l => exact absurd (hl a (by simp)) (by omega)
  | n + 1, l, h, hl => by
    by_cases hn : n ∈ l
    · have e := List.length_erase_of_mem hn
      have := nd_len n (l.erase n) (h.erase n) (fun v hv => by
        have h1 := hl v (List.mem_of_mem_erase hv)
        have h2 := ((h.mem_erase_iff).1 hv).1
        omega)
      omega
    · have := nd_len n l h (fun v hv => by
        have h1 := hl v hv
        have h2 : v ≠ n := fun e => hn (e ▸ hv)
        omega)
      omega
theorem Bf.ord_len {n : Nat} {nx : List (List Int)} {r : Nat} {fr q : List Int} {ord : List Nat} (h : Bf n nx r fr q ord) : ord.length ≤ n := nd_len n ord h.nd h.lt
theorem vis1_ok {n : Nat} {nx : List (List Int)} {r : Nat} {fr q : List Int} {ord : List Nat} (h : Bf n nx r fr q ord) {a w : Nat} (ha : a ∈ ord) (hw : ((w : Nat) : Int) ∈ List.getD nx a []) (hn : w < n) :
    ∃ ord', Bf n nx r (vis1 (a : Int) (fr, q) (w : Int)).1 (vis1 (a : Int) (fr, q) (w : Int)).2 ord' ∧ ((ord' = ord ∧ (vis1 (a : Int) (fr, q) (w : Int)).2 = q ∧ w ∈ ord) ∨ (ord' = ord ++ [w] ∧ (vis1 (a : Int) (fr, q) (w : Int)).2 = q ++ [(w : Int)])) := by
  by_cases hv : List.getD fr w 0 < 0
  · have hv1 : vis1 (a : Int) (fr, q) (w : Int) = (List.set fr w (a : Int), q ++ [(w : Int)]) := if_pos hv
    have hno : ¬ w ∈ ord := fun e => by have := (h.vis w hn).2 e; omega
    have hwr : w ≠ r := fun e => by
      have := h.root
      rw [e] at hv
      omega
    rw [hv1]
    refine ⟨ord ++ [w], ⟨by rw [List.length_set]; exact h.len, ?_, fun v hv => ?_, by simp, ?_, ?_, fun v hvn => ?_, fun i h0 hi => ?_, fun x hx => ?_⟩, Or.inr ⟨rfl, rfl⟩⟩
    · rw [List.nodup_append]
      exact ⟨h.nd, by simp, fun x hx y hy => by rw [List.mem_singleton.1 hy]; exact fun e => hno (e ▸ hx)⟩
    · rcases List.mem_append.1 hv with hv | hv
      · exact h.lt v hv
      · rw [List.mem_singleton.1 hv]; exact hn
    · rw [List.getD_eq_getElem?_getD, List.getElem?_append_left h.pos, ← List.getD_eq_getElem?_getD]
      exact h.fst
    · rw [getD_set_ne hwr]
      exact h.root
    · by_cases e : w = v
      · subst e
        rw [getD_set_same (by rw [h.len]; exact hn)]
        exact ⟨fun _ => by simp, fun _ => by omega⟩
      · rw [getD_set_ne e, h.vis v hvn]
        constructor
        · intro hm; exact List.mem_append_left _ hm
        · intro hm
          rcases List.mem_append.1 hm with hm | hm
          · exact hm
          · exact absurd (List.mem_singleton.1 hm).symm e
    · by_cases hil : i < ord.length
      · obtain ⟨j, j1, j2, j3⟩ := h.par i h0 hil
        have ei : List.getD (ord ++ [w]) i 0 = List.getD ord i 0 := by rw [List.getD_eq_getElem?_getD, List.getElem?_append_left hil, ← List.getD_eq_getElem?_getD]
        have ej : List.getD (ord ++ [w]) j 0 = List.getD ord j 0 := by rw [List.getD_eq_getElem?_getD, List.getElem?_append_left (by omega), ← List.getD_eq_getElem?_getD]
        have hne : w ≠ List.getD ord i 0 := fun e => hno (e ▸ getD_mem hil)
        exact ⟨j, j1, by rw [ei, ej, getD_set_ne hne]; exact j2, by rw [ei, ej]; exact j3⟩
      · have hi2 : i = ord.length := by
          rw [List.length_append, List.length_singleton] at hi
          omega
        obtain ⟨j, hj, hja⟩ := List.getElem_of_mem ha
        have ei : List.getD (ord ++ [w]) i 0 = w := by
          rw [hi2, List.getD_eq_getElem?_getD, List.getElem?_append_right (Nat.le_refl _), Nat.sub_self]
          rfl
        have ej : List.getD (ord ++ [w]) j 0 = a := by rw [List.getD_eq_getElem?_getD, List.getElem?_append_left hj, List.getElem?_eq_getElem hj, hja]; rfl
        exact ⟨j, by omega, by rw [ei, ej, getD_set_same (by rw [h.len]; exact hn)], by rw [ei, ej]; exact hw⟩
    · rcases List.mem_append.1 hx with hx | hx
      · obtain ⟨v, v1, v2⟩ := h.que x hx
        exact ⟨v, v1, List.mem_append_left _ v2⟩
      · exact ⟨w, List.mem_singleton.1 hx, by simp⟩
  · have hv1 : vis1 (a : Int) (fr, q) (w : Int) = (fr, q) := if_neg hv
    rw [hv1]
    exact ⟨ord, h, Or.inl ⟨rfl, rfl, (h.vis w hn).1 (by omega)⟩⟩
theorem fold_ok {n : Nat} {nx : List (List Int)} {r a : Nat} : ∀ (l : List Int) (fr q : List Int) (ord : List Nat), Bf n nx r fr q ord → a ∈ ord → (∀ w ∈ l, w ∈ List.getD nx a [] ∧ 0 ≤ w ∧ w < (n : Int)) →
    ∃ ord', Bf n nx r (l.foldl (vis1 (a : Int)) (fr, q)).1 (l.foldl (vis1 (a : Int)) (fr, q)).2 ord' ∧ (∀ v ∈ ord, v ∈ ord') ∧ (∀ v ∈ ord', v ∈ ord ∨ ((v : Nat) : Int) ∈ (l.foldl (vis1 (a : Int)) (fr, q)).2) ∧ (∀ x ∈ q, x ∈ (l.foldl (vis1 (a : Int)) (fr, q)).2) ∧
      (∀ w ∈ l, ∃ u : Nat, w = (u : Int) ∧ u ∈ ord') ∧ (l.foldl (vis1 (a : Int)) (fr, q)).2.length + ord.length = q.length + ord'.length ∧ ord.length ≤ ord'.length
  | [], fr, q, ord, h, ha, hl => ⟨ord, h, fun v hv => hv, fun v hv => Or.inl hv, fun x hx => hx, (fun w hw => by cases hw), rfl, Nat.le_refl _⟩
  | w :: l, fr, q, ord, h, ha, hl => by
    obtain ⟨w1, w2, w3⟩ := hl w (by simp)
    obtain ⟨u, rfl⟩ := Int.eq_ofNat_of_zero_le w2
    obtain ⟨o1, b1, c1⟩ := vis1_ok h ha w1 (by omega)
    obtain ⟨fr1, q1⟩ : ∃ fr1, (vis1 (a : Int) (fr, q) (u : Int)).1 = fr1 := ⟨_, rfl⟩
    obtain ⟨q1, e2⟩ : ∃ q1, (vis1 (a : Int) (fr, q) (u : Int)).2 = q1 := ⟨_, rfl⟩
    have e3 : vis1 (a : Int) (fr, q) (u : Int) = ((vis1 (a : Int) (fr, q) (u : Int)).1, (vis1 (a : Int) (fr, q) (u : Int)).2) := rfl
    have hsub : ∀ v ∈ ord, v ∈ o1 := fun v hv => by
      rcases c1 with ⟨c, _, _⟩ | ⟨c, _⟩
      · rw [c]; exact hv
      · rw [c]; exact List.mem_append_left _ hv
    have huo : u ∈ o1 := by
      rcases c1 with ⟨c, _, c3⟩ | ⟨c, _⟩
      · rw [c]; exact c3
      · rw [c]; simp
    obtain ⟨o2, b2, d1, d2, d3, d4, d5, d6⟩ := fold_ok l _ _ o1 b1 (hsub a ha) (fun w hw => hl w (by simp [hw]))
    rw [← e3] at b2 d2 d3 d5
    rw [List.foldl_cons]
    refine ⟨o2, b2, fun v hv => d1 v (hsub v hv), fun v hv => ?_, fun x hx => ?_, fun w hw => ?_, ?_, ?_⟩
    · rcases d2 v hv with hv | hv
      · rcases c1 with ⟨c, _, _⟩ | ⟨c, c2⟩
        · rw [c] at hv; exact Or.inl hv
        · rw [c] at hv
          rcases List.mem_append.1 hv with hv | hv
          · exact Or.inl hv
          · rw [List.mem_singleton.1 hv]
            exact Or.inr (d3 _ (by rw [c2]; simp))
      · exact Or.inr hv
    · refine d3 x ?_
      rcases c1 with ⟨_, c2, _⟩ | ⟨_, c2⟩
      · rw [c2]; exact hx
      · rw [c2]; exact List.mem_append_left _ hx
    · rcases List.mem_cons.1 hw with rfl | hw
      · exact ⟨u, rfl, d1 u huo⟩
      · exact d4 w hw
    · rcases c1 with ⟨c, c2, _⟩ | ⟨c, c2⟩
      · rw [c, c2] at d5; exact d5
      · rw [c, c2] at d5
        simp only [List.length_append, List.length_singleton] at d5
        omega
    · rcases c1 with ⟨c, _⟩ | ⟨c, _⟩
      · rw [c] at d6; exact d6
      · rw [c, List.length_append] at d6; omega
end Go.Proofs.YtgojfdimbciaiaaE
/- Plain laws of twin: where a walk ends. Conditions: none. -/
set_option linter.unusedSimpArgs false
set_option linter.unusedVariables false
namespace Go.Proofs.YtgojfdimbciaiaaE
/-- All that arcs lead to from these positions are these. -/
def Shut (nx : List (List Int)) (ord : List Nat) : Prop := ∀ v ∈ ord, ∀ w ∈ List.getD nx v [], ∃ u : Nat, w = (u : Int) ∧ u ∈ ord
def Cl (nx : List (List Int)) (q : List Int) (ord : List Nat) : Prop := ∀ v ∈ ord, ((v : Nat) : Int) ∈ q ∨ ∀ w ∈ List.getD nx v [], ∃ u : Nat, w = (u : Int) ∧ u ∈ ord
def NxP (n : Nat) (nx : List (List Int)) : Prop := nx.length = n ∧ ∀ u : Nat, u < n → (List.getD nx u []).length ≤ 1000 ∧ ∀ w ∈ List.getD nx u [], 0 ≤ w ∧ w < (n : Int)
theorem F34_1_ok (k n : Nat) (nx : List (List Int)) (r goal : Nat) (hnx : NxP n nx) (hg : goal < n) (hn : n ≤ 1000) (hk : 100010 ≤ k) : ∀ (M m : Nat) (fr q : List Int) (ord : List Nat), Bf n nx r fr q ord → Cl nx q ord → 2 * (n - ord.length) + q.length ≤ M → M < m → M ≤ 10000 →
    ∃ fr' q' ord', F34_1 k m (goal : Int) (wk nx fr q) = some (((goal : Int), ()), (wk nx fr' q', ())) ∧ Bf n nx r fr' q' ord' ∧ (goal ∈ ord' ∨ Shut nx ord')
  | M, m, fr, [], ord, hb, hc, hM, hm, hM2 => by
    obtain ⟨m, rfl⟩ : ∃ m', m = m' + 1 := ⟨m - 1, by omega⟩
    refine ⟨fr, [], ord, ?_, hb, Or.inr fun v hv => ?_⟩
    · simp only [F34_1]
      rfl
    · rcases hc v hv with h | h
      · cases h
      · exact h
  | 0, m, fr, x :: q, ord, hb, hc, hM, hm, hM2 => by
    rw [List.length_cons] at hM
    omega
  | M + 1, m, fr, x :: q, ord, hb, hc, hM, hm, hM2 => by
    obtain ⟨m, rfl⟩ : ∃ m', m = m' + 1 := ⟨m - 1, by omega⟩
    have hlen := hb.len
    rw [List.length_cons] at hM
    have hin : 0 ≤ (goal : Int) ∧ (goal : Int) < (((wk nx fr (x :: q)).2.1.length : Nat) : Int) := by
      show 0 ≤ (goal : Int) ∧ (goal : Int) < ((fr.length : Nat) : Int)
      omega
    have hq0 : decide ((((wk nx fr (x :: q)).2.2.1.length : Nat) : Int) > 0) = true := by
      show decide ((((x :: q).length : Nat) : Int) > 0) = true
      simp
    by_cases hv : List.getD fr goal 0 < 0
    · obtain ⟨a, rfl, ha⟩ := hb.que x (by simp)
      have han := hb.lt a ha
      obtain ⟨n1, n2⟩ := hnx.2 a han
      have hb0 : Bf n nx r fr q ord := ⟨hb.len, hb.nd, hb.lt, hb.pos, hb.fst, hb.root, hb.vis, hb.par, fun y hy => hb.que y (by simp [hy])⟩
      obtain ⟨o1, b1, d1, d2, d3, d4, d5, d6⟩ := fold_ok (List.getD nx a []) fr q ord hb0 ha (fun w hw => ⟨hw, n2 w hw⟩)
      have e0 := F34_0_ok k n nx (goal : Int) (a : Int) (goal : Int) (List.getD fr goal 0) true (List.getD nx a []) n2 (by omega) (List.getD nx a []).length k 0 fr q (by omega) (by omega) hlen (by omega)
      rw [List.drop_zero] at e0
      have hol := b1.ord_len
      obtain ⟨fr', q', ord', e, hh⟩ := F34_1_ok k n nx r goal hnx hg hn hk M m _ _ o1 b1 (fun v hv => by
        rcases d2 v hv with h | h
        · rcases hc v h with h1 | h1
          · rcases List.mem_cons.1 h1 with h2 | h2
            · right
              have : v = a := by omega
              subst this
              exact d4
            · left; exact d3 _ h2
          · right
            intro w hw
            obtain ⟨u, u1, u2⟩ := h1 w hw
            exact ⟨u, u1, d1 u u2⟩
        · left; exact h) (by omega) (by omega) (by omega)
      refine ⟨fr', q', ord', ?_, hh⟩
      simp only [F34_1]
      rw [hq0, cond_true, if_pos hin]
      rw [decide_eq_true (show List.getD (wk nx fr ((a : Int) :: q)).2.1 (Int.toNat (goal : Int)) 0 < 0 from hv), cond_true]
      rw [if_pos (show (0 : Int) ≤ 0 ∧ (0 : Int) < (((wk nx fr ((a : Int) :: q)).2.2.1.length : Nat) : Int) from (show (0 : Int) ≤ 0 ∧ (0 : Int) < ((((a : Int) :: q).length : Nat) : Int) by simp))]
      rw [if_pos (show (0 : Int) ≤ 1 ∧ (1 : Int) ≤ (((wk nx fr ((a : Int) :: q)).2.2.1.length : Nat) : Int) ∧ (((wk nx fr ((a : Int) :: q)).2.2.1.length : Nat) : Int) ≤ (((wk nx fr ((a : Int) :: q)).2.2.1.length : Nat) : Int) from (show (0 : Int) ≤ 1 ∧ (1 : Int) ≤ ((((a : Int) :: q).length : Nat) : Int) ∧ ((((a : Int) :: q).length : Nat) : Int) ≤ ((((a : Int) :: q).length : Nat) : Int) by rw [List.length_cons]; omega))]
      have hw : List.take (Int.toNat (((wk nx fr ((a : Int) :: q)).2.2.1.length : Nat) : Int) - Int.toNat 1) (List.drop (Int.toNat 1) (wk nx fr ((a : Int) :: q)).2.2.1) = q := by
        show List.take (((a : Int) :: q).length - 1) (List.drop 1 ((a : Int) :: q)) = q
        simp
      rw [hw]
      rw [if_pos (show 0 ≤ List.getD (wk nx fr ((a : Int) :: q)).2.2.1 (Int.toNat 0) 0 ∧ List.getD (wk nx fr ((a : Int) :: q)).2.2.1 (Int.toNat 0) 0 < (((wk nx fr ((a : Int) :: q)).1.1.length : Nat) : Int) from (show 0 ≤ (a : Int) ∧ (a : Int) < ((nx.length : Nat) : Int) by have := hnx.1; omega))]
      show ((F34_0 k k (goal : Int) (a : Int) (goal : Int) (List.getD fr goal 0) true (List.getD nx a []) (((List.getD nx a []).length : Nat) : Int) ((0 : Nat) : Int) (wk nx fr q)).bind fun r11 => (F34_1 k m r11.1.1 r11.2.1).bind some) = _
      rw [e0, Option.bind_some]
      simp only
      rw [e, Option.bind_some]
    · refine ⟨fr, x :: q, ord, ?_, hb, Or.inl ((hb.vis goal hg).1 (by omega))⟩
      simp only [F34_1]
      rw [hq0, cond_true, if_pos hin]
      rw [decide_eq_false (show ¬ List.getD (wk nx fr (x :: q)).2.1 (Int.toNat (goal : Int)) 0 < 0 from hv), cond_false]
end Go.Proofs.YtgojfdimbciaiaaE
/- Plain laws of twin: the way that a walk tells. Conditions: none. -/
set_option linter.unusedSimpArgs false
set_option linter.unusedVariables false
namespace Go.Proofs.YtgojfdimbciaiaaE
theorem ext_getD {α : Type} {l m : List α} (d : α) (h : l.length = m.length) (e : ∀ i, i < l.length → List.getD l i d = List.getD m i d) : l = m := by
  refine List.ext_getElem h fun i h1 h2 => ?_
  have := e i h1
  rwa [getD_lt _ _ _ h1, getD_lt _ _ _ h2] at this
theorem getD_reverse (l : List Int) (j : Nat) (h : j < l.length) : List.getD l.reverse j 0 = List.getD l (l.length - 1 - j) 0 := by
  rw [getD_lt _ _ _ (by simpa using h), getD_lt _ _ _ (by omega), List.getElem_reverse]
/-- A row, turned from both ends as far as i. -/
def TurnP (l c : List Int) (i : Nat) : Prop := c.length = l.length ∧ ∀ j, j < l.length → List.getD c j 0 = if j < i ∨ l.length ≤ j + i then List.getD l (l.length - 1 - j) 0 else List.getD l j 0
theorem F52_0_ok (k : Nat) (l : List Int) (hl : l.length ≤ 1000000) (h0 : 0 < l.length) : ∀ (m i : Nat) (c : List Int), TurnP l c i → 2 * i ≤ l.length → l.length < m + 2 * i →
    F52_0 k m (i : Int) (((l.length : Nat) : Int) - 1 - (i : Int)) c = some ((), (l.reverse, ()))
  | 0, i, c, h, h1, h2 => by omega
  | m + 1, i, c, h, h1, h2 => by
    obtain ⟨hc, he⟩ := h
    simp only [F52_0]
    by_cases hlt : i + 1 + i < l.length
    · have hw1 : IntKind.wrap .i64 ((i : Int) + 1) = ((i + 1 : Nat) : Int) := by rw [w64 _ (by omega) (by omega)]; omega
      have hw2 : IntKind.wrap .i64 (((l.length : Nat) : Int) - 1 - (i : Int) - 1) = ((l.length : Nat) : Int) - 1 - ((i + 1 : Nat) : Int) := by rw [w64 _ (by omega) (by omega)]; omega
      have ht : Int.toNat (((l.length : Nat) : Int) - 1 - (i : Int)) = l.length - 1 - i := by omega
      rw [decide_eq_true (show (i : Int) < ((l.length : Nat) : Int) - 1 - (i : Int) by omega), cond_true, if_pos (by omega), if_pos (by omega), if_pos (by omega), if_pos (by rw [List.length_set]; omega), hw1, hw2, ht]
      rw [show Int.toNat (i : Int) = i from rfl]
      rw [F52_0_ok k l hl h0 m (i + 1) _ ⟨by simp only [List.length_set]; exact hc, fun j hj => ?_⟩ (by omega) (by omega), Option.bind_some]
      have e1 := he i (by omega)
      have e2 := he (l.length - 1 - i) (by omega)
      rw [if_neg (by omega)] at e1 e2
      by_cases j1 : l.length - 1 - i = j
      · subst j1
        rw [getD_set_same (by rw [List.length_set]; omega), e1, if_pos (by omega)]
        congr 1
        omega
      · rw [getD_set_ne j1]
        by_cases j2 : i = j
        · subst j2
          rw [getD_set_same (by omega), e2, if_pos (by omega)]
        · rw [getD_set_ne j2, he j hj]
          by_cases j3 : j < i ∨ l.length ≤ j + i
          · rw [if_pos j3, if_pos (by omega)]
          · rw [if_neg j3, if_neg (by omega)]
    · rw [decide_eq_false (by omega), cond_false]
      have : c = l.reverse := ext_getD 0 (by rw [List.length_reverse]; exact hc) fun j hj => by
        rw [getD_reverse l j (by omega), he j (by omega)]
        by_cases j3 : j < i ∨ l.length ≤ j + i
        · rw [if_pos j3]
        · rw [if_neg j3]
          congr 1
          omega
      rw [this]
theorem F52_ok (k : Nat) (l : List Int) (hl : l.length ≤ 100000) (h0 : 0 < l.length) (hk : 100010 ≤ k) : F52 k l = some ((), (l.reverse, ())) := by
  have e := F52_0_ok k l (by omega) h0 k 0 l ⟨rfl, fun j hj => by rw [if_neg (by omega)]⟩ (by omega) (by omega)
  rw [show ((0 : Nat) : Int) = 0 from rfl, Int.sub_zero] at e
  unfold F52
  simp only
  rw [w64 _ (by omega) (by omega), e, Option.bind_some]
theorem F35_eq (k : Nat) (l : List Int) (h : l.length ≤ 1000000) : F35 k l = some ((l, ()), ()) := by
  unfold F35
  cases l with
  | nil => rfl
  | cons a l =>
    rw [show ((((a :: l).length : Nat) : Int) == 0) = false from nz (by simp), cond_false, if_pos (by simp only [List.replicate_zero, List.length_nil]; omega)]
    rfl
/-- Down from a position that was come to, to the first one. -/
def Dn (nx : List (List Int)) (ord : List Nat) : List Nat → Prop
  | [] => False
  | [j] => j = 0
  | j :: i :: l => i < j ∧ ((List.getD ord j 0 : Nat) : Int) ∈ List.getD nx (List.getD ord i 0) [] ∧ Dn nx ord (i :: l)
def ordI (ord : List Nat) (j : Nat) : Int := ((List.getD ord j 0 : Nat) : Int)
theorem nd_inj {l : List Nat} (h : l.Nodup) {i j : Nat} (hi : i < l.length) (hj : j < l.length) (e : List.getD l i 0 = List.getD l j 0) : i = j := by
  rw [getD_lt _ _ _ hi, getD_lt _ _ _ hj] at e
  have hp := List.pairwise_iff_getElem.1 h
  by_cases h1 : i < j
  · exact absurd e (hp i j hi hj h1)
  by_cases h2 : j < i
  · exact absurd e.symm (hp j i hj hi h2)
  omega
theorem F34_2_ok (k n : Nat) (nx : List (List Int)) (r : Nat) (fr q : List Int) (ord : List Nat) (hb : Bf n nx r fr q ord) (hn : n ≤ 1000) : ∀ (B i : Nat), i ≤ B → i < ord.length → ∃ js : List Nat, Dn nx ord (i :: js) ∧ (∀ j ∈ i :: js, j ≤ i) ∧ js.length ≤ i ∧
    ∀ (m : Nat) (acc : List Int), i < m → acc.length + i ≤ 10000 → F34_2 k m (ordI ord i) (wk nx fr q) acc = some ((), (wk nx fr q, acc ++ js.map (ordI ord), ()))
  | B, 0, hB, hi => by
    refine ⟨[], rfl, fun j hj => by rw [List.mem_singleton.1 hj]; exact Nat.le_refl _, Nat.le_refl _, fun m acc hm ha => ?_⟩
    obtain ⟨m, rfl⟩ : ∃ m', m = m' + 1 := ⟨m - 1, by omega⟩
    have hf := hb.fst
    have hr := hb.root
    have hlt := hb.lt r (by rw [← hf]; exact getD_mem hi)
    have hlen := hb.len
    have hin : 0 ≤ ordI ord 0 ∧ ordI ord 0 < (((wk nx fr q).2.1.length : Nat) : Int) := by
      show 0 ≤ ((List.getD ord 0 0 : Nat) : Int) ∧ ((List.getD ord 0 0 : Nat) : Int) < ((fr.length : Nat) : Int)
      omega
    have he : (List.getD (wk nx fr q).2.1 (Int.toNat (ordI ord 0)) 0 != ordI ord 0) = false := by
      show (List.getD fr (List.getD ord 0 0) 0 != ((List.getD ord 0 0 : Nat) : Int)) = false
      rw [hf, hr]
      exact bne_self_eq_false _
    simp only [F34_2]
    rw [if_pos hin, he, cond_false, List.map_nil, List.append_nil]
  | 0, i + 1, hB, hi => by omega
  | B + 1, i + 1, hB, hi => by
    obtain ⟨j, j1, j2, j3⟩ := hb.par (i + 1) (by omega) hi
    obtain ⟨js, d1, d2, d3, d4⟩ := F34_2_ok k n nx r fr q ord hb hn B j (by omega) (by omega)
    refine ⟨j :: js, ⟨j1, j3, d1⟩, fun x hx => ?_, ?_, fun m acc hm ha => ?_⟩
    · rcases List.mem_cons.1 hx with rfl | hx
      · exact Nat.le_refl _
      · have := d2 x hx; omega
    · rw [List.length_cons]; omega
    · obtain ⟨m, rfl⟩ : ∃ m', m = m' + 1 := ⟨m - 1, by omega⟩
      have hlt := hb.lt _ (getD_mem (d := 0) hi)
      have hlen := hb.len
      have hin : 0 ≤ ordI ord (i + 1) ∧ ordI ord (i + 1) < (((wk nx fr q).2.1.length : Nat) : Int) := by
        show 0 ≤ ((List.getD ord (i + 1) 0 : Nat) : Int) ∧ ((List.getD ord (i + 1) 0 : Nat) : Int) < ((fr.length : Nat) : Int)
        omega
      have hg : List.getD (wk nx fr q).2.1 (Int.toNat (ordI ord (i + 1))) 0 = ordI ord j := j2
      have hne : (ordI ord j != ordI ord (i + 1)) = true := by
        rw [bne_iff_ne]
        intro e
        have := nd_inj hb.nd (show j < ord.length by omega) hi (by unfold ordI at e; omega)
        omega
      simp only [F34_2, hg, one_list]
      rw [if_pos hin, hne, cond_true, if_pos hin, if_pos (by rw [List.length_singleton]; omega), if_pos hin, d4 m (acc ++ [ordI ord j]) (by omega) (by rw [List.length_append, List.length_singleton]; omega), Option.bind_some, List.append_assoc]
      rfl
end Go.Proofs.YtgojfdimbciaiaaE
/- Plain laws of twin: ways. Conditions: none. -/
set_option linter.unusedSimpArgs false
set_option linter.unusedVariables false
namespace Go.Proofs.YtgojfdimbciaiaaE
theorem dn_get (nx : List (List Int)) (ord : List Nat) : ∀ (L : List Nat), Dn nx ord L → 0 < L.length ∧ List.getD L (L.length - 1) 0 = 0 ∧ ∀ k, k + 1 < L.length → List.getD L (k + 1) 0 < List.getD L k 0 ∧ ordI ord (List.getD L k 0) ∈ List.getD nx (List.getD ord (List.getD L (k + 1) 0) 0) []
  | [], h => h.elim
  | [j], h => ⟨by simp, h, fun k hk => by simp at hk⟩
  | j :: i :: l, h => by
    obtain ⟨h1, h2, h3⟩ := h
    obtain ⟨g1, g2, g3⟩ := dn_get nx ord (i :: l) h3
    refine ⟨by simp, ?_, fun k hk => ?_⟩
    · rw [show (j :: i :: l).length - 1 = (i :: l).length - 1 + 1 from by simp]
      exact g2
    · cases k with
      | zero => exact ⟨h1, h2⟩
      | succ k => exact g3 k (by simpa using hk)
theorem dn_mono (nx : List (List Int)) (ord : List Nat) (L : List Nat) (h : Dn nx ord L) : ∀ (d a : Nat), a + d + 1 < L.length → List.getD L (a + d + 1) 0 < List.getD L a 0
  | 0, a, hd => ((dn_get nx ord L h).2.2 a hd).1
  | d + 1, a, hd => by
    have h1 := dn_mono nx ord L h d a (by omega)
    have h2 := ((dn_get nx ord L h).2.2 (a + d + 1) (by omega)).1
    rw [show a + (d + 1) + 1 = a + d + 1 + 1 from by omega]
    omega
/-- A way, arc by arc, no position twice. -/
def WayP (n : Nat) (nx : List (List Int)) (r goal : Nat) (l : List Int) : Prop :=
  0 < l.length ∧ List.getD l 0 0 = (r : Int) ∧ List.getD l (l.length - 1) 0 = (goal : Int) ∧ (∀ i, i + 1 < l.length → List.getD l (i + 1) 0 ∈ List.getD nx (Int.toNat (List.getD l i 0)) []) ∧ (∀ i j, i < j → j < l.length → List.getD l i 0 ≠ List.getD l j 0) ∧ (∀ i, i < l.length → 0 ≤ List.getD l i 0 ∧ List.getD l i 0 < (n : Int)) ∧ l.length ≤ n
theorem way_of {n : Nat} {nx : List (List Int)} {r goal : Nat} {fr q : List Int} {ord : List Nat} (hb : Bf n nx r fr q ord) (L : List Nat) (hL : Dn nx ord L) (hg : ordI ord (List.getD L 0 0) = (goal : Int)) (hlt : ∀ j ∈ L, j < ord.length) : WayP n nx r goal (L.map (ordI ord)).reverse := by
  obtain ⟨g1, g2, g3⟩ := dn_get nx ord L hL
  have hlen : (L.map (ordI ord)).reverse.length = L.length := by simp
  have get : ∀ k, k < L.length → List.getD (L.map (ordI ord)).reverse k 0 = ordI ord (List.getD L (L.length - 1 - k) 0) := fun k hk => by
    rw [getD_reverse _ k (by simpa using hk), List.length_map, getD_lt _ _ _ (by rw [List.length_map]; omega), List.getElem_map, getD_lt L _ _ (by omega)]
  have rng : ∀ k, k < L.length → List.getD L k 0 < ord.length := fun k hk => hlt _ (getD_mem hk)
  have ol := hb.ord_len
  have inj : ∀ a b, a < b → b < L.length → List.getD L b 0 < List.getD L a 0 := fun a b hab hbl => by
    have := dn_mono nx ord L hL (b - a - 1) a (by omega)
    rwa [show a + (b - a - 1) + 1 = b from by omega] at this
  have dom : L.length ≤ ord.length := by
    have h0 : ∀ k, k < L.length → L.length - 1 - k ≤ List.getD L k 0 := by
      intro k
      induction hm : L.length - 1 - k generalizing k with
      | zero => intro _; omega
      | succ d ih =>
        intro hk
        have h1 := ih (k + 1) (by omega) (by omega)
        have h2 := (g3 k (by omega)).1
        omega
    have h1 := h0 0 g1
    have h2 := rng 0 g1
    omega
  refine ⟨by rw [hlen]; exact g1, ?_, ?_, fun i hi => ?_, fun i j hij hj => ?_, fun i hi => ?_, by rw [hlen]; omega⟩
  · rw [get 0 g1, Nat.sub_zero, g2]
    unfold ordI
    rw [hb.fst]
  · rw [hlen, get (L.length - 1) (by omega), show L.length - 1 - (L.length - 1) = 0 from by omega]
    exact hg
  · rw [hlen] at hi
    rw [get (i + 1) hi, get i (by omega)]
    have := (g3 (L.length - 1 - (i + 1)) (by omega)).2
    rw [show L.length - 1 - (i + 1) + 1 = L.length - 1 - i from by omega] at this
    exact this
  · rw [hlen] at hj
    rw [get i (by omega), get j hj]
    intro e
    have h1 := inj (L.length - 1 - j) (L.length - 1 - i) (by omega) (by omega)
    have := nd_inj hb.nd (rng (L.length - 1 - i) (by omega)) (rng (L.length - 1 - j) (by omega)) (by unfold ordI at e; omega)
    omega
  · rw [hlen] at hi
    rw [get i hi]
    have := hb.lt _ (getD_mem (d := 0) (rng (L.length - 1 - i) (by omega)))
    unfold ordI
    omega
theorem bf_begin (n : Nat) (nx : List (List Int)) (r : Nat) (hr : r < n) : Bf n nx r (List.set (List.replicate n (-1)) r (r : Int)) [(r : Int)] [r] := by
  refine ⟨by simp, by simp, fun v hv => by rw [List.mem_singleton.1 hv]; exact hr, by simp, rfl, getD_set_same (by simpa using hr), fun v hv => ?_, fun i h0 hi => by simp at hi; omega, fun x hx => ⟨r, List.mem_singleton.1 hx, by simp⟩⟩
  by_cases e : r = v
  · subst e
    rw [getD_set_same (by simpa using hr)]
    simp
  · rw [getD_set_ne e, getD_lt _ _ _ (by simpa using hv), List.getElem_replicate]
    constructor
    · intro h; omega
    · intro h; exact absurd (List.mem_singleton.1 h).symm e
/-- A walk from one position to another one. -/
theorem walk_ok (k n : Nat) (nx : List (List Int)) (r goal : Nat) (hnx : NxP n nx) (hr : r < n) (hg : goal < n) (hn : n ≤ 1000) (hk : 100010 ≤ k) :
    ∃ (w w' : WkT) (l : List Int), F33 k (nx, ()) [(r : Int)] = some ((w, ()), ()) ∧ F34 k w (goal : Int) = some ((l, ()), (w', ())) ∧ ((l = [] ∧ ∃ ord : List Nat, r ∈ ord ∧ ¬ goal ∈ ord ∧ Shut nx ord) ∨ WayP n nx r goal l) := by
  have e1 := F33_ok k n nx r hnx.1 hr (by omega) hk
  obtain ⟨fr, q, ord, e2, hb, ho⟩ := F34_1_ok k n nx r goal hnx hg hn hk (2 * n + 1) k _ _ [r] (bf_begin n nx r hr) (fun v hv => Or.inl (by rw [List.mem_singleton.1 hv]; simp)) (by simp; omega) (by omega) (by omega)
  have hlen := hb.len
  have hr0 : r ∈ ord := by
    have := getD_mem (d := 0) hb.pos
    rwa [hb.fst] at this
  have hin : 0 ≤ (goal : Int) ∧ (goal : Int) < (((wk nx fr q).2.1.length : Nat) : Int) := by
    show 0 ≤ (goal : Int) ∧ (goal : Int) < ((fr.length : Nat) : Int)
    omega
  by_cases hm : goal ∈ ord
  · obtain ⟨i, hi, hgi⟩ := List.getElem_of_mem hm
    obtain ⟨js, d1, d2, d3, d4⟩ := F34_2_ok k n nx r fr q ord hb hn i i (Nat.le_refl _) hi
    have ol := hb.ord_len
    have hoi : ordI ord i = (goal : Int) := by
      unfold ordI
      rw [getD_lt _ _ _ hi, hgi]
    have hw := way_of hb (i :: js) d1 hoi (fun j hj => by have := d2 j hj; omega)
    refine ⟨_, wk nx fr q, ((i :: js).map (ordI ord)).reverse, e1, ?_, Or.inr hw⟩
    have hnn : ¬ List.getD fr goal 0 < 0 := by have := (hb.vis goal hg).2 hm; omega
    have e3 := d4 k [(goal : Int)] (by omega) (by simp; omega)
    rw [hoi] at e3
    unfold F34
    rw [e2, Option.bind_some]
    simp only [one_list]
    rw [if_pos hin, decide_eq_false (show ¬ List.getD (wk nx fr q).2.1 (Int.toNat (goal : Int)) 0 < 0 from hnn), cond_false, e3, Option.bind_some]
    simp only
    rw [show [(goal : Int)] ++ js.map (ordI ord) = (i :: js).map (ordI ord) from by rw [List.map_cons, hoi]; rfl, F52_ok k _ (by simp; omega) (by simp) hk, Option.bind_some]
    simp only
    rw [if_pos (by simp)]
  · have hs := ho.resolve_left hm
    refine ⟨_, wk nx fr q, [], e1, ?_, Or.inl ⟨rfl, ord, hr0, hm, hs⟩⟩
    have hnn : List.getD fr goal 0 < 0 := by
      by_cases h : List.getD fr goal 0 < 0
      · exact h
      · exact absurd ((hb.vis goal hg).1 (by omega)) hm
    unfold F34
    rw [e2, Option.bind_some]
    simp only
    rw [if_pos hin, decide_eq_true (show List.getD (wk nx fr q).2.1 (Int.toNat (goal : Int)) 0 < 0 from hnn), cond_true]
end Go.Proofs.YtgojfdimbciaiaaE
/- Plain laws of twin: what comes to what (the document's way). Conditions: none. -/
set_option linter.unusedSimpArgs false
set_option linter.unusedVariables false
namespace Go.Proofs.YtgojfdimbciaiaaE
/-- An arc from one to another. -/
def Ed (l : List ArcT) (u v : Nat) : Prop := ∃ a ∈ l, a.1 = (u : Int) ∧ a.2.1 = (v : Int)
/-- What comes to what: whatever holds of the first and is handed on by arcs holds of the other. -/
def Rch (l : List ArcT) (u v : Nat) : Prop := ∀ S : Nat → Prop, S u → (∀ x y, S x → Ed l x y → S y) → S v
theorem Rch.refl (l : List ArcT) (u : Nat) : Rch l u u := fun S h _ => h
theorem Rch.trans {l : List ArcT} {u v w : Nat} (h : Rch l u v) (h' : Rch l v w) : Rch l u w := fun S hu hs => h' S (h S hu hs) hs
theorem Rch.ed {l : List ArcT} {u v : Nat} (h : Ed l u v) : Rch l u v := fun S hu hs => hs u v hu h
/-! ### square tables -/
def tb (M : List (List Bool)) (i j : Nat) : Bool := List.getD (List.getD M i []) j false
def setM (M : List (List Bool)) (i j : Nat) (b : Bool) : List (List Bool) := List.set M i (List.set (List.getD M i []) j b)
def Sq (n : Nat) (M : List (List Bool)) : Prop := M.length = n ∧ ∀ i, i < n → (List.getD M i []).length = n
theorem sq_set {n : Nat} {M : List (List Bool)} (h : Sq n M) {i : Nat} (hi : i < n) (j : Nat) (b : Bool) : Sq n (setM M i j b) := by
  refine ⟨by unfold setM; rw [List.length_set]; exact h.1, fun k hk => ?_⟩
  unfold setM
  by_cases e : i = k
  · subst e
    rw [getD_set_same (by rw [h.1]; exact hi), List.length_set]
    exact h.2 i hi
  · rw [getD_set_ne e]
    exact h.2 k hk
theorem tb_set {n : Nat} {M : List (List Bool)} (h : Sq n M) {i j : Nat} (hi : i < n) (hj : j < n) (b : Bool) (a c : Nat) : tb (setM M i j b) a c = if a = i ∧ c = j then b else tb M a c := by
  unfold tb setM
  by_cases e : i = a
  · subst e
    rw [getD_set_same (by rw [h.1]; exact hi)]
    by_cases e2 : j = c
    · subst e2
      rw [getD_set_same (by rw [h.2 i hi]; exact hj), if_pos ⟨rfl, rfl⟩]
    · rw [getD_set_ne e2, if_neg (fun x => e2 x.2.symm)]
  · rw [getD_set_ne e, if_neg (fun x => e x.1.symm)]
/-- One round of the document's loop. -/
def nxt (T : Nat → Nat → Bool) (k a b : Nat) : Bool := T a b || (T a k && T k b)
theorem nxt_row (T : Nat → Nat → Bool) (k b : Nat) : nxt T k k b = T k b := by unfold nxt; cases T k b <;> simp
theorem nxt_col (T : Nat → Nat → Bool) (k a : Nat) : nxt T k a k = T a k := by unfold nxt; cases T a k <;> simp
def Inv (n : Nat) (T : Nat → Nat → Bool) (k : Nat) (M : List (List Bool)) (i j : Nat) : Prop := Sq n M ∧ ∀ a b, a < n → b < n → tb M a b = if a < i ∨ (a = i ∧ b < j) then nxt T k a b else T a b
theorem inv_col {n : Nat} {T : Nat → Nat → Bool} {k : Nat} {M : List (List Bool)} {i j : Nat} (h : Inv n T k M i j) (hk : k < n) {a : Nat} (ha : a < n) : tb M a k = T a k := by
  rw [h.2 a k ha hk]
  split
  · exact nxt_col T k a
  · rfl
theorem inv_row {n : Nat} {T : Nat → Nat → Bool} {k : Nat} {M : List (List Bool)} {i j : Nat} (h : Inv n T k M i j) (hk : k < n) {b : Nat} (hb : b < n) : tb M k b = T k b := by
  rw [h.2 k b hk hb]
  split
  · exact nxt_row T k b
  · rfl
theorem inv_step {n : Nat} {T : Nat → Nat → Bool} {k : Nat} {M : List (List Bool)} {i j : Nat} (h : Inv n T k M i j) (hk : k < n) (hi : i < n) (hj : j < n) : Inv n T k (setM M i j (tb M i j || (tb M i k && tb M k j))) i (j + 1) := by
  refine ⟨sq_set h.1 hi j _, fun a b ha hb => ?_⟩
  rw [tb_set h.1 hi hj]
  by_cases e : a = i ∧ b = j
  · obtain ⟨rfl, rfl⟩ := e
    rw [if_pos ⟨rfl, rfl⟩, if_pos (by omega), inv_col h hk ha, inv_row h hk hb, h.2 a b ha hb, if_neg (by omega)]
    rfl
  · rw [if_neg e, h.2 a b ha hb]
    by_cases e2 : a < i ∨ (a = i ∧ b < j)
    · rw [if_pos e2, if_pos (by omega)]
    · rw [if_neg e2, if_neg (by omega)]
theorem F15_2_ok (k n kk i : Nat) (s : SideT) (T : Nat → Nat → Bool) (hk : kk < n) (hi : i < n) (hn : n ≤ 100000) : ∀ (d m j : Nat) (M : List (List Bool)), j + d = n → d < m → Inv n T kk M i j →
    ∃ M', F15_2 k m (n : Int) (kk : Int) (i : Int) (j : Int) s M = some (((n : Int), (kk : Int), (i : Int), ()), (s, M', ())) ∧ Inv n T kk M' i n
  | 0, m, j, M, hj, hm, h => by
    obtain ⟨m, rfl⟩ : ∃ m', m = m' + 1 := ⟨m - 1, by omega⟩
    obtain rfl : j = n := by omega
    refine ⟨M, ?_, h⟩
    simp only [F15_2]
    rw [decide_eq_false (by omega), cond_false]
  | d + 1, m, j, M, hj, hm, h => by
    obtain ⟨m, rfl⟩ : ∃ m', m = m' + 1 := ⟨m - 1, by omega⟩
    have hjn : j < n := by omega
    obtain ⟨M', e, hh⟩ := F15_2_ok k n kk i s T hk hi hn d m (j + 1) _ (by omega) (by omega) (inv_step h hk hi hjn)
    refine ⟨M', ?_, hh⟩
    have hM := h.1.1
    have hri := h.1.2 i hi
    have hrk := h.1.2 kk hk
    have hw : IntKind.wrap .i64 ((j : Int) + 1) = ((j + 1 : Nat) : Int) := by rw [w64 _ (by omega) (by omega)]; omega
    have ti : Int.toNat (i : Int) = i := rfl
    have tj : Int.toNat (j : Int) = j := rfl
    have tk : Int.toNat (kk : Int) = kk := rfl
    have c1 : 0 ≤ (i : Int) ∧ (i : Int) < ((M.length : Nat) : Int) := by omega
    have c2 : 0 ≤ (j : Int) ∧ (j : Int) < (((List.getD M i []).length : Nat) : Int) := by omega
    have c3 : 0 ≤ (kk : Int) ∧ (kk : Int) < (((List.getD M i []).length : Nat) : Int) := by omega
    have c4 : 0 ≤ (kk : Int) ∧ (kk : Int) < ((M.length : Nat) : Int) := by omega
    have c5 : 0 ≤ (j : Int) ∧ (j : Int) < (((List.getD M kk []).length : Nat) : Int) := by omega
    simp only [F15_2, hw]
    rw [decide_eq_true (show (j : Int) < (n : Int) by omega), cond_true, if_pos c1, if_pos c1, ti, tj, tk, if_pos c2]
    cases h1 : List.getD (List.getD M i []) j false with
    | true =>
      have e1 : tb M i j = true := h1
      rw [e1, Bool.true_or] at e
      rw [cond_true, if_pos c2]
      exact (congrArg (fun z => Option.bind z some) e).trans rfl
    | false =>
      have e1 : tb M i j = false := h1
      rw [e1, Bool.false_or] at e
      rw [cond_false, if_pos c1, if_pos c3]
      cases h2 : List.getD (List.getD M i []) kk false with
      | true =>
        have e2 : tb M i kk = true := h2
        rw [e2, Bool.true_and] at e
        rw [cond_true, if_pos c4, if_pos c5, if_pos c2]
        exact (congrArg (fun z => Option.bind z some) e).trans rfl
      | false =>
        have e2 : tb M i kk = false := h2
        rw [e2, Bool.false_and] at e
        rw [cond_false, if_pos c2]
        exact (congrArg (fun z => Option.bind z some) e).trans rfl
theorem inv_next {n : Nat} {T : Nat → Nat → Bool} {k : Nat} {M : List (List Bool)} {i : Nat} (h : Inv n T k M i n) : Inv n T k M (i + 1) 0 := ⟨h.1, fun a b ha hb => by
  rw [h.2 a b ha hb]
  by_cases e : a < i ∨ (a = i ∧ b < n)
  · rw [if_pos e, if_pos (by omega)]
  · rw [if_neg e, if_neg (by omega)]⟩
theorem F15_3_ok (k n kk : Nat) (s : SideT) (T : Nat → Nat → Bool) (hk : kk < n) (hn : n ≤ 100000) (hf : 100010 ≤ k) : ∀ (d m i : Nat) (M : List (List Bool)), i + d = n → d < m → Inv n T kk M i 0 →
    ∃ M', F15_3 k m (n : Int) (kk : Int) (i : Int) s M = some (((n : Int), (kk : Int), ()), (s, M', ())) ∧ Inv n T kk M' n 0
  | 0, m, i, M, hi, hm, h => by
    obtain ⟨m, rfl⟩ : ∃ m', m = m' + 1 := ⟨m - 1, by omega⟩
    obtain rfl : i = n := by omega
    refine ⟨M, ?_, h⟩
    simp only [F15_3]
    rw [decide_eq_false (by omega), cond_false]
  | d + 1, m, i, M, hi, hm, h => by
    obtain ⟨m, rfl⟩ : ∃ m', m = m' + 1 := ⟨m - 1, by omega⟩
    obtain ⟨M1, e1, h1⟩ := F15_2_ok k n kk i s T hk (by omega) hn n k 0 M (by omega) (by omega) h
    obtain ⟨M2, e2, h2⟩ := F15_3_ok k n kk s T hk hn hf d m (i + 1) M1 (by omega) (by omega) (inv_next h1)
    refine ⟨M2, ?_, h2⟩
    have hw : IntKind.wrap .i64 ((i : Int) + 1) = ((i + 1 : Nat) : Int) := by rw [w64 _ (by omega) (by omega)]; omega
    rw [show ((0 : Nat) : Int) = 0 from rfl] at e1
    simp only [F15_3]
    rw [decide_eq_true (show (i : Int) < (n : Int) by omega), cond_true, e1, Option.bind_some]
    simp only [hw]
    rw [e2, Option.bind_some]
/-- What the table knows behind so many rounds. -/
def WP (n : Nat) (l : List ArcT) (k : Nat) (T : Nat → Nat → Bool) : Prop :=
  (∀ m a b, m < k → a < n → b < n → T a m = true → T m b = true → T a b = true) ∧ (∀ a, a < n → T a a = true) ∧ (∀ a b, a < n → b < n → Ed l a b → T a b = true) ∧ ∀ a b, a < n → b < n → T a b = true → Rch l a b
theorem wp_step {n : Nat} {l : List ArcT} {k : Nat} {T : Nat → Nat → Bool} (h : WP n l k T) (hk : k < n) : WP n l (k + 1) (nxt T k) := by
  obtain ⟨h1, h2, h3, h4⟩ := h
  have ex : ∀ a b, nxt T k a b = true ↔ T a b = true ∨ (T a k = true ∧ T k b = true) := fun a b => by unfold nxt; rw [Bool.or_eq_true, Bool.and_eq_true]
  refine ⟨fun m a b hm ha hb x y => ?_, fun a ha => (ex a a).2 (Or.inl (h2 a ha)), fun a b ha hb he => (ex a b).2 (Or.inl (h3 a b ha hb he)), fun a b ha hb x => ?_⟩
  · rw [ex] at x y ⊢
    by_cases e : m = k
    · subst e
      right
      constructor
      · rcases x with x | x
        · exact x
        · exact x.1
      · rcases y with y | y
        · exact y
        · exact y.2
    · have hmk : m < k := by omega
      rcases x with x | ⟨x1, x2⟩
      · rcases y with y | ⟨y1, y2⟩
        · exact Or.inl (h1 m a b hmk ha hb x y)
        · exact Or.inr ⟨h1 m a k hmk ha hk x y1, y2⟩
      · rcases y with y | ⟨y1, y2⟩
        · exact Or.inr ⟨x1, h1 m k b hmk hk hb x2 y⟩
        · exact Or.inr ⟨x1, y2⟩
  · rw [ex] at x
    rcases x with x | ⟨x1, x2⟩
    · exact h4 a b ha hb x
    · exact (h4 a k ha hk x1).trans (h4 k b hk hb x2)
theorem wp_end {n : Nat} {l : List ArcT} {T : Nat → Nat → Bool} (h : WP n l n T) (hl : ArcsP n l) {u v : Nat} (hu : u < n) (hv : v < n) : T u v = true ↔ Rch l u v := by
  obtain ⟨h1, h2, h3, h4⟩ := h
  refine ⟨h4 u v hu hv, fun x => ?_⟩
  have := x (fun w => w < n ∧ T u w = true) ⟨hu, h2 u hu⟩ (fun a b ⟨ha, hab⟩ he => by
    have hb : b < n := by
      obtain ⟨c, hc, _, c2⟩ := he
      have := (hl c hc).2
      omega
    exact ⟨hb, h1 a u b ha hu hb hab (h3 a b ha hb he)⟩)
  exact this.2
end Go.Proofs.YtgojfdimbciaiaaE
/- Plain laws of twin: the document's Round. Conditions: none. -/
set_option linter.unusedSimpArgs false
set_option linter.unusedVariables false
namespace Go.Proofs.YtgojfdimbciaiaaE
theorem wp_congr {n : Nat} {l : List ArcT} {k : Nat} {T T' : Nat → Nat → Bool} (hk : k ≤ n) (e : ∀ a b, a < n → b < n → T a b = T' a b) (h : WP n l k T) : WP n l k T' := by
  obtain ⟨h1, h2, h3, h4⟩ := h
  refine ⟨fun m a b hm ha hb x y => ?_, fun a ha => by rw [← e a a ha ha]; exact h2 a ha, fun a b ha hb he => by rw [← e a b ha hb]; exact h3 a b ha hb he, fun a b ha hb x => h4 a b ha hb (by rw [e a b ha hb]; exact x)⟩
  rw [← e a m ha (by omega)] at x
  rw [← e m b (by omega) hb] at y
  rw [← e a b ha hb]
  exact h1 m a b hm ha hb x y
theorem F15_4_ok (k n : Nat) (s : SideT) (l : List ArcT) (hn : n ≤ 100000) (hf : 100010 ≤ k) : ∀ (d m kk : Nat) (M : List (List Bool)), kk + d = n → d < m → Sq n M → WP n l kk (tb M) →
    ∃ M', F15_4 k m (n : Int) (kk : Int) s M = some ((), (s, M', ())) ∧ Sq n M' ∧ WP n l n (tb M')
  | 0, m, kk, M, hi, hm, hq, h => by
    obtain ⟨m, rfl⟩ : ∃ m', m = m' + 1 := ⟨m - 1, by omega⟩
    obtain rfl : kk = n := by omega
    refine ⟨M, ?_, hq, h⟩
    simp only [F15_4]
    rw [decide_eq_false (by omega), cond_false]
  | d + 1, m, kk, M, hi, hm, hq, h => by
    obtain ⟨m, rfl⟩ : ∃ m', m = m' + 1 := ⟨m - 1, by omega⟩
    obtain ⟨M1, e1, h1⟩ := F15_3_ok k n kk s (tb M) (by omega) hn hf n k 0 M (by omega) (by omega) ⟨hq, fun a b ha hb => by rw [if_neg (by omega)]⟩
    obtain ⟨M2, e2, h2⟩ := F15_4_ok k n s l hn hf d m (kk + 1) M1 (by omega) (by omega) h1.1 (wp_congr (by omega) (fun a b ha hb => by rw [h1.2 a b ha hb, if_pos (by omega)]) (wp_step h (by omega)))
    refine ⟨M2, ?_, h2⟩
    have hw : IntKind.wrap .i64 ((kk : Int) + 1) = ((kk + 1 : Nat) : Int) := by rw [w64 _ (by omega) (by omega)]; omega
    rw [show ((0 : Nat) : Int) = 0 from rfl] at e1
    simp only [F15_4]
    rw [decide_eq_true (show (kk : Int) < (n : Int) by omega), cond_true, e1, Option.bind_some]
    simp only [hw]
    rw [e2, Option.bind_some]
theorem F15_0_ok (k n : Nat) (s : SideT) (hn : n ≤ 100000) : ∀ (d m i : Nat) (M : List (List Bool)), i + d = n → d < m → M.length = n → (∀ a, a < i → (List.getD M a []).length = n ∧ ∀ b, b < n → tb M a b = decide (a = b)) →
    ∃ M', F15_0 k m (n : Int) (i : Int) s M = some (((n : Int), ()), (s, M', ())) ∧ Sq n M' ∧ ∀ a b, a < n → b < n → tb M' a b = decide (a = b)
  | 0, m, i, M, hi, hm, hl, h => by
    obtain ⟨m, rfl⟩ : ∃ m', m = m' + 1 := ⟨m - 1, by omega⟩
    obtain rfl : i = n := by omega
    refine ⟨M, ?_, ⟨hl, fun a ha => (h a ha).1⟩, fun a b ha hb => (h a ha).2 b hb⟩
    simp only [F15_0]
    rw [decide_eq_false (by omega), cond_false]
  | d + 1, m, i, M, hi, hm, hl, h => by
    obtain ⟨m, rfl⟩ : ∃ m', m = m' + 1 := ⟨m - 1, by omega⟩
    have hin : i < n := by omega
    have hx : (List.set M i (List.replicate n false)).length = n := by rw [List.length_set]; exact hl
    have hrow : List.getD (List.set M i (List.replicate n false)) i [] = List.replicate n false := getD_set_same (by omega)
    obtain ⟨M', e, hh⟩ := F15_0_ok k n s hn d m (i + 1) (List.set (List.set M i (List.replicate n false)) i (List.set (List.replicate n false) i true)) (by omega) (by omega) (by rw [List.length_set]; exact hx) (fun a ha => by
      by_cases e : i = a
      · subst e
        have hr : List.getD (List.set (List.set M i (List.replicate n false)) i (List.set (List.replicate n false) i true)) i [] = List.set (List.replicate n false) i true := getD_set_same (by omega)
        refine ⟨by rw [hr]; simp, fun b hb => ?_⟩
        unfold tb
        rw [hr]
        by_cases e2 : i = b
        · subst e2
          rw [getD_set_same (by simpa using hin), decide_eq_true rfl]
        · rw [getD_set_ne e2, getD_lt _ _ _ (by simpa using hb), List.getElem_replicate, decide_eq_false e2]
      · have hr : List.getD (List.set (List.set M i (List.replicate n false)) i (List.set (List.replicate n false) i true)) a [] = List.getD M a [] := by rw [getD_set_ne e, getD_set_ne e]
        obtain ⟨g1, g2⟩ := h a (by omega)
        refine ⟨by rw [hr]; exact g1, fun b hb => ?_⟩
        unfold tb
        rw [hr]
        exact g2 b hb)
    refine ⟨M', ?_, hh⟩
    have hw : IntKind.wrap .i64 ((i : Int) + 1) = ((i + 1 : Nat) : Int) := by rw [w64 _ (by omega) (by omega)]; omega
    simp only [F15_0, hw]
    rw [decide_eq_true (show (i : Int) < (n : Int) by omega), cond_true, if_pos (by omega), if_pos (by omega), show Int.toNat (i : Int) = i from rfl, show Int.toNat (n : Int) = n from rfl, hrow, if_pos (by rw [hx]; omega), if_pos (by rw [List.length_replicate]; omega), e, Option.bind_some]
theorem F15_1_ok (k n : Nat) (s : SideT) (hl : ArcsP n s.2.2.2.1) (hs : s.2.2.2.1.length ≤ 100000) : ∀ (d m i : Nat) (M : List (List Bool)), i + d = s.2.2.2.1.length → d < m → Sq n M → (∀ a b, a < n → b < n → (tb M a b = true ↔ a = b ∨ Ed (s.2.2.2.1.take i) a b)) →
    ∃ M', F15_1 k m (n : Int) (i : Int) s M = some (((n : Int), ()), (s, M', ())) ∧ Sq n M' ∧ ∀ a b, a < n → b < n → (tb M' a b = true ↔ a = b ∨ Ed s.2.2.2.1 a b)
  | 0, m, i, M, hi, hm, hq, h => by
    obtain ⟨m, rfl⟩ : ∃ m', m = m' + 1 := ⟨m - 1, by omega⟩
    obtain rfl : i = s.2.2.2.1.length := by omega
    rw [List.take_length] at h
    refine ⟨M, ?_, hq, h⟩
    simp only [F15_1]
    rw [dnlt, cond_false]
  | d + 1, m, i, M, hi, hm, hq, h => by
    obtain ⟨m, rfl⟩ : ∃ m', m = m' + 1 := ⟨m - 1, by omega⟩
    have hlt : i < s.2.2.2.1.length := by omega
    obtain ⟨⟨p1, p2⟩, p3, p4⟩ := hl _ (List.getElem_mem hlt)
    obtain ⟨u, hu⟩ := Int.eq_ofNat_of_zero_le p1
    obtain ⟨v, hv⟩ := Int.eq_ofNat_of_zero_le p3
    have hun : u < n := by omega
    have hvn : v < n := by omega
    have hM := hq.1
    have hr := hq.2 u hun
    obtain ⟨M', e, hh⟩ := F15_1_ok k n s hl hs d m (i + 1) (setM M u v true) (by omega) (by omega) (sq_set hq hun v true) (fun a b ha hb => by
      rw [tb_set hq hun hvn]
      have hE : Ed (s.2.2.2.1.take (i + 1)) a b ↔ Ed (s.2.2.2.1.take i) a b ∨ (a = u ∧ b = v) := by
        unfold Ed
        rw [List.take_add_one, List.getElem?_eq_getElem hlt]
        constructor
        · rintro ⟨x, hx, x1, x2⟩
          rcases List.mem_append.1 hx with hx | hx
          · exact Or.inl ⟨x, hx, x1, x2⟩
          · right
            have : x = s.2.2.2.1[i] := by simpa using hx
            subst this
            exact ⟨by omega, by omega⟩
        · rintro (⟨x, hx, x1, x2⟩ | ⟨rfl, rfl⟩)
          · exact ⟨x, List.mem_append_left _ hx, x1, x2⟩
          · exact ⟨s.2.2.2.1[i], List.mem_append_right _ (by rw [Option.toList_some]; exact List.mem_singleton.2 rfl), hu, hv⟩
      rw [hE]
      by_cases e : a = u ∧ b = v
      · rw [if_pos e]
        exact ⟨fun _ => Or.inr (Or.inr e), fun _ => rfl⟩
      · rw [if_neg e, h a b ha hb]
        constructor
        · rintro (x | x)
          · exact Or.inl x
          · exact Or.inr (Or.inl x)
        · rintro (x | x | x)
          · exact Or.inl x
          · exact Or.inr x
          · exact absurd x e)
    refine ⟨M', ?_, hh⟩
    have hw : IntKind.wrap .i64 ((i : Int) + 1) = ((i + 1 : Nat) : Int) := by rw [w64 _ (by omega) (by omega)]; omega
    simp only [F15_1, hw]
    rw [dlt hlt, cond_true, if_pos (inR hlt), show Int.toNat (i : Int) = i from rfl, getD_lt _ _ _ hlt, hu, hv, if_pos (by omega), if_pos (inR hlt), show Int.toNat (u : Int) = u from rfl, if_pos (by omega), show Int.toNat (v : Int) = v from rfl]
    exact (congrArg (fun z => Option.bind z some) e).trans rfl
def PosP (s : SideT) : Prop := ∃ a ∈ s.2.2.2.1, a.2.2.1 > 0 ∧ Rch s.2.2.2.1 (Int.toNat a.2.1) (Int.toNat a.1)
theorem F15_5_ok (k n : Nat) (s : SideT) (M : List (List Bool)) (hl : ArcsP n s.2.2.2.1) (hs : s.2.2.2.1.length ≤ 100000) (hq : Sq n M) (hw : WP n s.2.2.2.1 n (tb M)) : ∀ (d m i : Nat), i + d = s.2.2.2.1.length → d < m →
    ((∃ a ∈ s.2.2.2.1.drop i, a.2.2.1 > 0 ∧ Rch s.2.2.2.1 (Int.toNat a.2.1) (Int.toNat a.1)) ∧ F15_5 k m (i : Int) s M = some (.inr ((true, ()), ()))) ∨ (¬ (∃ a ∈ s.2.2.2.1.drop i, a.2.2.1 > 0 ∧ Rch s.2.2.2.1 (Int.toNat a.2.1) (Int.toNat a.1)) ∧ F15_5 k m (i : Int) s M = some (.inl ((), ())))
  | 0, m, i, hi, hm => by
    obtain ⟨m, rfl⟩ : ∃ m', m = m' + 1 := ⟨m - 1, by omega⟩
    obtain rfl : i = s.2.2.2.1.length := by omega
    right
    refine ⟨(fun ⟨a, ha, _⟩ => by rw [List.drop_eq_nil_of_le (Nat.le_refl _)] at ha; cases ha), ?_⟩
    simp only [F15_5]
    rw [dnlt, cond_false]
  | d + 1, m, i, hi, hm => by
    obtain ⟨m, rfl⟩ : ∃ m', m = m' + 1 := ⟨m - 1, by omega⟩
    have hlt : i < s.2.2.2.1.length := by omega
    obtain ⟨⟨p1, p2⟩, p3, p4⟩ := hl _ (List.getElem_mem hlt)
    obtain ⟨u, hu⟩ := Int.eq_ofNat_of_zero_le p1
    obtain ⟨v, hv⟩ := Int.eq_ofNat_of_zero_le p3
    have hun : u < n := by omega
    have hvn : v < n := by omega
    have hM := hq.1
    have hr := hq.2 v hvn
    have hend := wp_end hw hl hvn hun
    have hww : IntKind.wrap .i64 ((i : Int) + 1) = ((i + 1 : Nat) : Int) := by rw [w64 _ (by omega) (by omega)]; omega
    have ih := F15_5_ok k n s M hl hs hq hw d m (i + 1) (by omega) (by omega)
    have hdrop := List.drop_eq_getElem_cons hlt
    have hno : ∀ h : ¬ (s.2.2.2.1[i].2.2.1 > 0 ∧ Rch s.2.2.2.1 (Int.toNat s.2.2.2.1[i].2.1) (Int.toNat s.2.2.2.1[i].1)), ((∃ a ∈ s.2.2.2.1.drop i, a.2.2.1 > 0 ∧ Rch s.2.2.2.1 (Int.toNat a.2.1) (Int.toNat a.1)) ↔ ∃ a ∈ s.2.2.2.1.drop (i + 1), a.2.2.1 > 0 ∧ Rch s.2.2.2.1 (Int.toNat a.2.1) (Int.toNat a.1)) := fun h => by
      rw [hdrop]
      constructor
      · rintro ⟨a, ha, x⟩
        rcases List.mem_cons.1 ha with rfl | ha
        · exact absurd x h
        · exact ⟨a, ha, x⟩
      · rintro ⟨a, ha, x⟩
        exact ⟨a, List.mem_cons_of_mem _ ha, x⟩
    simp only [F15_5, hww]
    rw [dlt hlt, cond_true, if_pos (inR hlt), show Int.toNat (i : Int) = i from rfl, getD_lt _ _ _ hlt]
    by_cases hp : s.2.2.2.1[i].2.2.1 > 0
    · rw [decide_eq_true hp, cond_true, if_pos (by omega), hv, show Int.toNat (v : Int) = v from rfl, if_pos (by omega), hu, show Int.toNat (u : Int) = u from rfl]
      cases ht : List.getD (List.getD M v []) u false with
      | true =>
        left
        refine ⟨⟨s.2.2.2.1[i], hdrop ▸ List.mem_cons_self, hp, by rw [hu, hv]; exact hend.1 ht⟩, ?_⟩
        rw [cond_true]
      | false =>
        have hn : ¬ (s.2.2.2.1[i].2.2.1 > 0 ∧ Rch s.2.2.2.1 (Int.toNat s.2.2.2.1[i].2.1) (Int.toNat s.2.2.2.1[i].1)) := fun x => by
          have h2 := x.2
          rw [hu, hv] at h2
          have := hend.2 h2
          unfold tb at this
          rw [ht] at this
          cases this
        rw [hno hn, cond_false, Option.bind_fun_some]
        exact ih
    · rw [decide_eq_false hp, cond_false, hno (fun x => hp x.1), Option.bind_fun_some]
      exact ih
theorem F15_ok (k n : Nat) (s : SideT) (hn : s.1.length = n) (hn2 : n ≤ 1000) (hl : ArcsP n s.2.2.2.1) (hs : s.2.2.2.1.length ≤ 1000) (hf : 100010 ≤ k) : ∃ b, F15 k s = some ((b, ()), ()) ∧ (b = true ↔ PosP s) := by
  obtain ⟨M0, e0, q0, h0⟩ := F15_0_ok k n s (by omega) n k 0 (List.replicate n []) (by omega) (by omega) (by simp) (fun a ha => by omega)
  obtain ⟨M1, e1, q1, h1⟩ := F15_1_ok k n s hl (by omega) s.2.2.2.1.length k 0 M0 (by omega) (by omega) q0 (fun a b ha hb => by
    rw [h0 a b ha hb, decide_eq_true_eq]
    constructor
    · exact Or.inl
    · rintro (x | ⟨c, hc, _⟩)
      · exact x
      · cases hc)
  have w0 : WP n s.2.2.2.1 0 (tb M1) := ⟨fun m a b hm => by omega, fun a ha => (h1 a a ha ha).2 (Or.inl rfl), fun a b ha hb he => (h1 a b ha hb).2 (Or.inr he), fun a b ha hb x => by
    rcases (h1 a b ha hb).1 x with rfl | x
    · exact Rch.refl _ _
    · exact Rch.ed x⟩
  obtain ⟨M2, e2, q2, w2⟩ := F15_4_ok k n s s.2.2.2.1 (by omega) hf n k 0 M1 (by omega) (by omega) q1 w0
  have e5 := F15_5_ok k n s M2 hl (by omega) q2 w2 s.2.2.2.1.length k 0 (by omega) (by omega)
  rw [show ((0 : Nat) : Int) = 0 from rfl, List.drop_zero] at e5
  rw [show ((0 : Nat) : Int) = 0 from rfl] at e0 e1 e2
  unfold F15
  rw [hn, if_pos (by omega), show Int.toNat (n : Int) = n from rfl]
  simp only
  rw [e0, Option.bind_some]
  simp only
  rw [e1, Option.bind_some]
  simp only
  rw [e2, Option.bind_some]
  simp only
  rcases e5 with ⟨x, e⟩ | ⟨x, e⟩
  · rw [e, Option.bind_some]
    exact ⟨true, rfl, fun _ => x, fun _ => rfl⟩
  · rw [e, Option.bind_some]
    exact ⟨false, rfl, (fun h => by cases h), fun h => absurd h x⟩
end Go.Proofs.YtgojfdimbciaiaaE
/- Plain laws of twin: Round. Conditions: none. -/
set_option linter.unusedSimpArgs false
set_option linter.unusedVariables false
namespace Go.Proofs.YtgojfdimbciaiaaE
theorem mem_adj {l : List ArcT} {u v : Nat} : ((v : Nat) : Int) ∈ adj l (u : Int) ↔ Ed l u v := by
  unfold adj Ed
  constructor
  · intro h
    obtain ⟨a, ha, e⟩ := List.mem_map.1 h
    obtain ⟨h1, h2⟩ := List.mem_filter.1 ha
    exact ⟨a, h1, by simpa using h2, e⟩
  · rintro ⟨a, ha, h1, h2⟩
    exact List.mem_map.2 ⟨a, List.mem_filter.2 ⟨ha, by simpa using h1⟩, h2⟩
theorem gr_nx {n : Nat} {l : List ArcT} {nx : List (List Int)} (h : GrP n l nx) (hl : ArcsP n l) (hs : l.length ≤ 1000) : NxP n nx := ⟨h.1, fun u hu => by
  rw [h.2 u hu]
  exact ⟨Nat.le_trans (adj_len l u) hs, adj_range hl u⟩⟩
theorem shut_no {n : Nat} {l : List ArcT} {nx : List (List Int)} (h : GrP n l nx) (hl : ArcsP n l) {ord : List Nat} (hs : Shut nx ord) {u v : Nat} (hu : u ∈ ord) (hv : ¬ v ∈ ord) : ¬ Rch l u v := fun hr =>
  hv (hr (fun w => w ∈ ord) hu fun x y hx he => by
    have hxn : x < n := by
      obtain ⟨a, ha, a1, _⟩ := he
      have := (hl a ha).1
      omega
    obtain ⟨w, w1, w2⟩ := hs x hx y (by rw [h.2 x hxn]; exact mem_adj.2 he)
    have : y = w := by omega
    rw [this]
    exact w2)
theorem way_rch {n : Nat} {l : List ArcT} {nx : List (List Int)} (h : GrP n l nx) {r goal : Nat} {p : List Int} (hp : WayP n nx r goal p) : Rch l r goal := by
  obtain ⟨h1, h2, h3, h4, h5, h6, h7⟩ := hp
  have go : ∀ i, i < p.length → Rch l r (Int.toNat (List.getD p i 0)) := by
    intro i
    induction i with
    | zero =>
      intro _
      rw [h2]
      exact Rch.refl l r
    | succ i ih =>
      intro hi
      have g := h6 i (by omega)
      have g2 := h6 (i + 1) hi
      have e := h4 i hi
      rw [h.2 _ (show Int.toNat (List.getD p i 0) < n by omega)] at e
      refine (ih (by omega)).trans (Rch.ed (mem_adj.1 ?_))
      rw [Int.toNat_of_nonneg g2.1]
      exact e
  have := go (p.length - 1) (by omega)
  rw [h3] at this
  exact this
/-- What Round tells when it tells one. -/
def RoundP (n : Nat) (s : SideT) (p : List Int) : Prop := ∃ a ∈ s.2.2.2.1, ∃ nx, a.2.2.1 > 0 ∧ GrP n s.2.2.2.1 nx ∧ WayP n nx (Int.toNat a.2.1) (Int.toNat a.1) p
theorem F14_0_ok (k n : Nat) (s : SideT) (nx : List (List Int)) (hl : ArcsP n s.2.2.2.1) (hs : s.2.2.2.1.length ≤ 1000) (hn : n ≤ 1000) (hg : GrP n s.2.2.2.1 nx) (hk : 100010 ≤ k) : ∀ (d m i : Nat), i + d = s.2.2.2.1.length → d < m →
    (∃ p, F14_0 k m s.2.2.2.1 ((s.2.2.2.1.length : Nat) : Int) (i : Int) (nx, ()) = some (.inr ((true, ()), (p, ()))) ∧ PosP s ∧ RoundP n s p) ∨ (F14_0 k m s.2.2.2.1 ((s.2.2.2.1.length : Nat) : Int) (i : Int) (nx, ()) = some (.inl ((), ())) ∧ ∀ a ∈ s.2.2.2.1.drop i, a.2.2.1 > 0 → ¬ Rch s.2.2.2.1 (Int.toNat a.2.1) (Int.toNat a.1))
  | 0, m, i, hi, hm => by
    obtain ⟨m, rfl⟩ : ∃ m', m = m' + 1 := ⟨m - 1, by omega⟩
    obtain rfl : i = s.2.2.2.1.length := by omega
    right
    refine ⟨?_, fun a ha => by rw [List.drop_eq_nil_of_le (Nat.le_refl _)] at ha; cases ha⟩
    simp only [F14_0]
    rw [dnlt, cond_false]
  | d + 1, m, i, hi, hm => by
    obtain ⟨m, rfl⟩ : ∃ m', m = m' + 1 := ⟨m - 1, by omega⟩
    have hlt : i < s.2.2.2.1.length := by omega
    obtain ⟨⟨p1, p2⟩, p3, p4⟩ := hl _ (List.getElem_mem hlt)
    obtain ⟨u, hu⟩ := Int.eq_ofNat_of_zero_le p1
    obtain ⟨v, hv⟩ := Int.eq_ofNat_of_zero_le p3
    have hun : u < n := by omega
    have hvn : v < n := by omega
    have ih := F14_0_ok k n s nx hl hs hn hg hk d m (i + 1) (by omega) (by omega)
    have hdrop := List.drop_eq_getElem_cons hlt
    have skip : (a : ¬ (s.2.2.2.1[i].2.2.1 > 0 ∧ Rch s.2.2.2.1 (Int.toNat s.2.2.2.1[i].2.1) (Int.toNat s.2.2.2.1[i].1))) →
        (∃ p, F14_0 k m s.2.2.2.1 ((s.2.2.2.1.length : Nat) : Int) ((i + 1 : Nat) : Int) (nx, ()) = some (.inr ((true, ()), (p, ()))) ∧ PosP s ∧ RoundP n s p) ∨ (F14_0 k m s.2.2.2.1 ((s.2.2.2.1.length : Nat) : Int) ((i + 1 : Nat) : Int) (nx, ()) = some (.inl ((), ())) ∧ ∀ a ∈ s.2.2.2.1.drop i, a.2.2.1 > 0 → ¬ Rch s.2.2.2.1 (Int.toNat a.2.1) (Int.toNat a.1)) := fun hno => by
      rcases ih with h | ⟨h, h2⟩
      · exact Or.inl h
      · refine Or.inr ⟨h, fun a ha => ?_⟩
        rw [hdrop] at ha
        rcases List.mem_cons.1 ha with rfl | ha
        · exact fun x y => hno ⟨x, y⟩
        · exact h2 a ha
    simp only [F14_0, one_list]
    rw [dlt hlt, cond_true, if_pos (inR hlt), show Int.toNat (i : Int) = i from rfl, getD_lt _ _ _ hlt, wsucc i _ hlt (by omega)]
    by_cases hp : s.2.2.2.1[i].2.2.1 ≤ 0
    · rw [decide_eq_true hp, cond_true, Option.bind_fun_some]
      exact skip (fun x => by omega)
    · rw [decide_eq_false hp, cond_false, hu, hv]
      obtain ⟨w, w', p, e1, e2, e3⟩ := walk_ok k n nx v u (gr_nx hg hl hs) hvn hun hn hk
      rw [e1, Option.bind_some]
      simp only
      rw [e2, Option.bind_some]
      simp only
      rcases e3 with ⟨rfl, ord, o1, o2, o3⟩ | e3
      · rw [show (!(List.isEmpty ([] : List Int))) = false from rfl, cond_false, Option.bind_fun_some]
        exact skip (fun x => by
          have := x.2
          rw [hu, hv] at this
          exact shut_no hg hl o3 o1 o2 this)
      · have hpl := e3.1
        have hp7 := e3.2.2.2.2.2.2
        have hne : (!(List.isEmpty p)) = true := by
          cases p with
          | nil => exact absurd hpl (by simp)
          | cons a p => rfl
        left
        refine ⟨p, ?_, ⟨s.2.2.2.1[i], List.getElem_mem hlt, by omega, by rw [hu, hv]; exact way_rch hg e3⟩, ⟨s.2.2.2.1[i], List.getElem_mem hlt, nx, by omega, hg, by rw [hu, hv]; exact e3⟩⟩
        rw [hne, cond_true, if_pos (by omega), F35_eq k p (by omega), Option.bind_some]
theorem F14_ok (k n : Nat) (s : SideT) (hn : s.1.length = n) (hl : ArcsP n s.2.2.2.1) (hs : s.2.2.2.1.length ≤ 1000) (hn2 : n ≤ 1000) (hk : 100010 ≤ k) :
    (∃ p, F14 k s = some ((p, true, ()), ()) ∧ PosP s ∧ RoundP n s p) ∨ (F14 k s = some (([], false, ()), ()) ∧ ¬ PosP s) := by
  obtain ⟨nx, e, hg⟩ := F32_ok k n s hn hl (by omega) (by omega) (by omega)
  have h := F14_0_ok k n s nx hl hs hn2 hg hk s.2.2.2.1.length k 0 (by omega) (by omega)
  rw [show ((0 : Nat) : Int) = 0 from rfl, List.drop_zero] at h
  unfold F14
  rw [e, Option.bind_some]
  simp only
  rcases h with ⟨p, h1, h2, h3⟩ | ⟨h1, h2⟩
  · left
    refine ⟨p, ?_, h2, h3⟩
    rw [h1, Option.bind_some]
  · right
    refine ⟨?_, fun ⟨a, ha, x, y⟩ => h2 a ha x y⟩
    rw [h1, Option.bind_some]
end Go.Proofs.YtgojfdimbciaiaaE
/- Plain laws of twin: what a round costs. Conditions: none. -/
set_option linter.unusedSimpArgs false
set_option linter.unusedVariables false
namespace Go.Proofs.YtgojfdimbciaiaaE
theorem F11_eq (k : Nat) : F11 (k + 200) = some ((true, ()), ()) := by kernel_rfl
theorem start : ∃ k, 100010 ≤ k ∧ F11 k = some ((true, ()), ()) := ⟨100210, by omega, F11_eq 100010⟩
theorem F18_eq (k : Nat) (a n : Int) (h0 : 0 < n) (h1 : n ≤ 4611686018427387904) : F18 k a n = some ((a % n, ()), ()) := by
  have hm : Int.tmod a n = a - n * Int.tdiv a n := by have := Int.tmod_add_mul_tdiv a n; omega
  have hlt : Int.tmod a n < n := Int.tmod_lt_of_pos a h0
  have hgt : -n < Int.tmod a n := Int.lt_tmod_of_pos a h0
  unfold F18
  rw [if_pos (by omega)]
  by_cases h : Int.tmod a n < 0
  · rw [decide_eq_true h, cond_true, w64 _ (by omega) (by omega)]
    have : a % n = Int.tmod a n + n := by
      have e : Int.tmod a n + n = (Int.tmod a n + n) % n := (Int.emod_eq_of_lt (by omega) (by omega)).symm
      rw [e, Int.add_emod_right, hm, Int.sub_mul_emod_self_left]
    rw [this]
  · rw [decide_eq_false h, cond_false]
    have : a % n = Int.tmod a n := by
      have e : Int.tmod a n = (Int.tmod a n) % n := (Int.emod_eq_of_lt (by omega) (by omega)).symm
      rw [e, hm, Int.sub_mul_emod_self_left]
    rw [this]
/-- What an arc costs: the first one of these ends. -/
def cst (l : List ArcT) (u v : Int) : Option Int := (l.find? fun a => a.1 == u && a.2.1 == v).map fun a => a.2.2.1
theorem F36_0_ok (k : Nat) (s : SideT) (u v : Int) (hs : s.2.2.2.1.length ≤ 100000) : ∀ (d m i : Nat), i + d = s.2.2.2.1.length → d < m →
    F36_0 k m u v (i : Int) s = some (match cst (s.2.2.2.1.drop i) u v with | some w => .inr ((w, true, ()), ()) | none => .inl ((), ()))
  | 0, m, i, hi, hm => by
    obtain ⟨m, rfl⟩ : ∃ m', m = m' + 1 := ⟨m - 1, by omega⟩
    obtain rfl : i = s.2.2.2.1.length := by omega
    rw [List.drop_eq_nil_of_le (Nat.le_refl _)]
    simp only [F36_0]
    rw [dnlt, cond_false]
    rfl
  | d + 1, m, i, hi, hm => by
    obtain ⟨m, rfl⟩ : ∃ m', m = m' + 1 := ⟨m - 1, by omega⟩
    have hlt : i < s.2.2.2.1.length := by omega
    have ih := F36_0_ok k s u v hs d m (i + 1) (by omega) (by omega)
    rw [List.drop_eq_getElem_cons hlt]
    simp only [F36_0]
    rw [dlt hlt, cond_true, if_pos (inR hlt), show Int.toNat (i : Int) = i from rfl, getD_lt _ _ _ hlt, wsucc i _ hlt (by omega)]
    unfold cst
    rw [List.find?_cons]
    cases h1 : (s.2.2.2.1[i].1 == u)
    · rw [cond_false, Option.bind_fun_some, Bool.false_and]
      exact ih
    · rw [cond_true, if_pos (inR hlt), Bool.true_and]
      cases h2 : (s.2.2.2.1[i].2.1 == v)
      · rw [cond_false, Option.bind_fun_some]
        exact ih
      · rw [cond_true, if_pos (inR hlt)]
        rfl
theorem F36_ok (k : Nat) (s : SideT) (u v : Int) (hs : s.2.2.2.1.length ≤ 1000) (hk : 100010 ≤ k) : F36 k s u v = some ((match cst s.2.2.2.1 u v with | some w => (w, true, ()) | none => (0, false, ())), ()) := by
  have h := F36_0_ok k s u v (by omega) s.2.2.2.1.length k 0 (by omega) (by omega)
  rw [show ((0 : Nat) : Int) = 0 from rfl, List.drop_zero] at h
  unfold F36
  rw [h, Option.bind_some]
  cases cst s.2.2.2.1 u v with
  | none => rfl
  | some w => rfl
theorem cst_ed {l : List ArcT} {u v : Nat} (h : Ed l u v) : ∃ a ∈ l, a.1 = (u : Int) ∧ a.2.1 = (v : Int) ∧ cst l (u : Int) (v : Int) = some a.2.2.1 := by
  obtain ⟨a, ha, h1, h2⟩ := h
  have hs : (l.find? fun a => a.1 == (u : Int) && a.2.1 == (v : Int)).isSome = true := List.find?_isSome.2 ⟨a, ha, by simp [h1, h2]⟩
  obtain ⟨b, hb⟩ := Option.isSome_iff_exists.1 hs
  have hbm := List.mem_of_find?_eq_some hb
  have hbp := List.find?_some hb
  rw [Bool.and_eq_true, beq_iff_eq, beq_iff_eq] at hbp
  refine ⟨b, hbm, hbp.1, hbp.2, ?_⟩
  unfold cst
  rw [hb]
  rfl
end Go.Proofs.YtgojfdimbciaiaaE
