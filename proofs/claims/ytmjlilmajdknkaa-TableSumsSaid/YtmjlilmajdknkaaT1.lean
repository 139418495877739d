/- Plain laws of table: sums. Conditions: none. -/
import Derived.Test.YtmjlilmajdknkaaG0



set_option linter.unusedSimpArgs false
set_option linter.unusedVariables false
namespace Go.Proofs.YtmjlilmajdknkaaE
theorem w64 (x : Int) (h : -9223372036854775808 ≤ x) (h2 : x ≤ 9223372036854775807) : IntKind.wrap .i64 x = x := by
  simp only [IntKind.wrap, IntKind.signed, IntKind.bits, Bool.true_and]
  split
  · rename_i hc
    have hc' := of_decide_eq_true hc
    omega
  · rename_i hc
    have hc' : ¬ _ := fun h => hc (decide_eq_true h)
    omega
theorem wu8 (x : Int) : IntKind.wrap .u8 x = x % 256 := by
  simp only [IntKind.wrap, IntKind.signed, IntKind.bits]
  simp
/-- The sum of bytes, from a number on. -/
def sumL (s : Int) : List Int → Int
  | [] => s
  | b :: l => sumL ((s * 31 + b) % 1000003) l
theorem F23_0_eq (k : Nat) (xs : List Int) (hb : ∀ x ∈ xs, 0 ≤ x ∧ x ≤ 255) (hl : xs.length ≤ 140737488351232) : ∀ (n i : Nat) (s : Int), i ≤ xs.length → xs.length - i < n → 0 ≤ s → s < 1000003 →
    F23_0 k n s xs ((xs.length : Nat) : Int) (i : Int) = some ((sumL s (xs.drop i), ()), ())
  | 0, i, s, _, hn, _, _ => by omega
  | n + 1, i, s, hi, hn, h0, h1 => by
    rw [F23_0]
    by_cases hlt : i < xs.length
    · have hd : decide ((i : Int) < ((xs.length : Nat) : Int)) = true := by simp; omega
      have hx : (0 : Int) ≤ (i : Int) ∧ (i : Int) < ((xs.length : Nat) : Int) := by omega
      have hg : List.getD xs i 0 = xs[i] := by simp [List.getD_eq_getElem?_getD, List.getElem?_eq_getElem hlt]
      have hbx := hb _ (List.getElem_mem hlt)
      rw [hd, cond_true, if_pos hx]
      simp only [Int.toNat_natCast, hg]
      rw [w64 xs[i] (by omega) (by omega), w64 (s * 31) (by omega) (by omega), w64 (s * 31 + xs[i]) (by omega) (by omega), w64 ((i : Int) + 1) (by omega) (by omega), Int.tmod_eq_emod_of_nonneg (by omega), show ((i : Int) + 1) = ((i + 1 : Nat) : Int) by omega,
        F23_0_eq k xs hb hl n (i + 1) _ (by omega) (by omega) (Int.emod_nonneg _ (by decide)) (Int.emod_lt_of_pos _ (by decide)), Option.bind_some, List.drop_eq_getElem_cons hlt, sumL]
    · have hd : decide ((i : Int) < ((xs.length : Nat) : Int)) = false := by simp; omega
      rw [hd, cond_false, List.drop_of_length_le (by omega), sumL]
theorem F23_eq (k : Nat) (xs : List Int) (hb : ∀ x ∈ xs, 0 ≤ x ∧ x ≤ 255) (hl : xs.length ≤ 140737488351232) (hk : xs.length < k) : F23 k xs = some ((sumL 1 xs, ()), ()) := by
  unfold F23
  have := F23_0_eq k xs hb hl k 0 1 (Nat.zero_le _) (by omega) (by decide) (by decide)
  rw [Int.natCast_zero] at this
  rw [this]
  rfl
theorem F24_0_eq (k : Nat) (xs : List Int) (hb : ∀ x ∈ xs, 0 ≤ x ∧ x ≤ 255) (hl : xs.length ≤ 140737488351232) : ∀ (n i : Nat) (s : Int), i ≤ xs.length → xs.length - i < n → 0 ≤ s → s < 1000003 →
    F24_0 k n xs s (i : Int) = some ((sumL s (xs.drop i), ()), ())
  | 0, i, s, _, hn, _, _ => by omega
  | n + 1, i, s, hi, hn, h0, h1 => by
    rw [F24_0]
    by_cases hlt : i < xs.length
    · have hd : decide ((i : Int) < ((xs.length : Nat) : Int)) = true := by simp; omega
      have hx : (0 : Int) ≤ (i : Int) ∧ (i : Int) < ((xs.length : Nat) : Int) := by omega
      have hg : List.getD xs i 0 = xs[i] := by simp [List.getD_eq_getElem?_getD, List.getElem?_eq_getElem hlt]
      have hbx := hb _ (List.getElem_mem hlt)
      rw [hd]
      simp only [cond_true]
      rw [if_pos hx]
      simp only [Int.toNat_natCast, hg]
      rw [w64 xs[i] (by omega) (by omega), w64 (s * 31) (by omega) (by omega), w64 (s * 31 + xs[i]) (by omega) (by omega), w64 ((i : Int) + 1) (by omega) (by omega), Int.tmod_eq_emod_of_nonneg (by omega), show ((i : Int) + 1) = ((i + 1 : Nat) : Int) by omega,
        F24_0_eq k xs hb hl n (i + 1) _ (by omega) (by omega) (Int.emod_nonneg _ (by decide)) (Int.emod_lt_of_pos _ (by decide)), Option.bind_some, List.drop_eq_getElem_cons hlt, sumL]
    · have hd : decide ((i : Int) < ((xs.length : Nat) : Int)) = false := by simp; omega
      rw [hd]
      simp only [cond_false]
      rw [List.drop_of_length_le (by omega), sumL]
theorem F24_eq (k : Nat) (xs : List Int) (hb : ∀ x ∈ xs, 0 ≤ x ∧ x ≤ 255) (hl : xs.length ≤ 140737488351232) (hk : xs.length < k) : F24 k xs = some ((sumL 1 xs, ()), ()) := by
  unfold F24
  have := F24_0_eq k xs hb hl k 0 1 (Nat.zero_le _) (by omega) (by decide) (by decide)
  rw [Int.natCast_zero] at this
  rw [this]
  rfl
/-- One byte turned, the sum is another one. -/
theorem sumL_mod (l : List Int) : ∀ (s t : Int), (sumL s l - sumL t l) % 1000003 = ((s - t) * 31 ^ l.length) % 1000003 := by
  induction l with
  | nil => intro s t; simp [sumL]
  | cons b l ih =>
    intro s t
    rw [sumL, sumL, ih]
    rw [List.length_cons, Int.pow_succ]
    have h : ((s * 31 + b) % 1000003 - (t * 31 + b) % 1000003) % 1000003 = ((s - t) * 31) % 1000003 := by
      rw [← Int.sub_emod]
      congr 1
      omega
    rw [Int.mul_emod, h, ← Int.mul_emod]
    congr 1
    rw [Int.mul_assoc, Int.mul_comm 31]
theorem F19_eq (k : Nat) (a n : Int) (h0 : 0 < n) (h1 : n ≤ 4611686018427387904) : F19 k a n = some ((a % n, ()), ()) := by
  unfold F19
  rw [if_pos (by omega)]
  have ht := Int.tmod_eq_emod (a := a) (b := n)
  have hm := Int.emod_nonneg a (show n ≠ 0 by omega)
  have hm2 := Int.emod_lt_of_pos a h0
  by_cases hn : Int.tmod a n < 0
  · rw [decide_eq_true hn, cond_true]
    have hnat : (n.natAbs : Int) = n := by omega
    have : Int.tmod a n = a % n - n := by
      rw [ht]
      split
      · rename_i hc
        rw [ht, if_pos hc] at hn
        omega
      · omega
    rw [this, w64 _ (by omega) (by omega)]
    congr 3
    omega
  · rw [decide_eq_false hn, cond_false]
    have : Int.tmod a n = a % n := by
      rw [ht]
      split
      · omega
      · rename_i hc
        rw [ht, if_neg hc] at hn
        omega
    rw [this]
end Go.Proofs.YtmjlilmajdknkaaE
