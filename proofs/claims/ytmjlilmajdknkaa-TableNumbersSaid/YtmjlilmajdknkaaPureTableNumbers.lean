/- The plain law of TableNumbers. Conditions: none. -/
import Derived.Test.YtmjlilmajdknkaaP0
set_option linter.unusedSimpArgs false
set_option linter.unusedVariables false
namespace Go.Proofs.Ytmjlilmajdknkaa.Pure
open Go.Proofs.YtmjlilmajdknkaaE
theorem F11_0_ok (k : Nat) (a v : Int) (z : List Int) (hk : 100 ≤ k) (h0 : 0 ≤ a) (h1 : a + 8 ≤ z.length) (hz : IsB z) (hl : z.length ≤ Bd) : ∃ z', F11_0 k k a v 0 z = some ((), (z', ())) ∧ z'.length = z.length ∧ IsB z' := by
  have hB : Bd = 1099511627776 := rfl
  have h := loop_inv (fun n i s => F11_0 k n a v i s) 8 (fun _ (s : List Int) => s.length = z.length ∧ IsB s) (fun r => ∃ z', r = ((), (z', ())) ∧ z'.length = z.length ∧ IsB z')
    (fun n s hI => by
      simp only [F11_0]
      exact ⟨_, rfl, _, rfl, hI⟩)
    (fun n i s hi hI => by
      right
      refine ⟨s.set (Int.toNat (a + (i : Int))) (Int.fdiv v (2 ^ (min (Int.toNat (56 - 8 * (i : Int))) (IntKind.bits .i64))) % 256), ⟨?_, ?_⟩, ?_⟩
      rotate_left 2
      · simp only [F11_0]
        rw [show decide ((i : Int) < 8) = true from by simp; omega, cond_true, w64 (8 * (i : Int)) (by omega) (by omega), w64 (56 - 8 * (i : Int)) (by omega) (by omega), wu64 _ (by omega) (by omega), if_pos (by omega), w64 (a + (i : Int)) (by omega) (by omega), if_pos (by omega), wsucc i 8 hi (by omega), wu8]
        simp only [Option.bind_fun_some]
      · rw [List.length_set]
        exact hI.1
      · intro x hx
        rcases List.mem_or_eq_of_mem_set hx with h | h
        · exact hI.2 x h
        · omega) k z (by omega) ⟨rfl, hz⟩
  obtain ⟨r, e, z', rfl, h⟩ := h
  exact ⟨z', e, h⟩
theorem TableNumbers (a0 : Int) (a1 : Int) (a2 : List Int) (a3 : List Int) (a4 : List Int) (a5 : Int) (a6 : Int) : (IntKind.min .i64 ≤ a0 ∧ a0 ≤ IntKind.max .i64) → (IntKind.min .i64 ≤ a1 ∧ a1 ≤ IntKind.max .i64) → (a2.length * 8 ≤ 140737488351232) → (∀ x ∈ a2, IntKind.min .i64 ≤ x ∧ x ≤ IntKind.max .i64) → (a3.length * 8 ≤ 140737488351232) → (∀ x ∈ a3, IntKind.min .i64 ≤ x ∧ x ≤ IntKind.max .i64) → (a4.length * 8 ≤ 140737488351232) → (∀ x ∈ a4, IntKind.min .i64 ≤ x ∧ x ≤ IntKind.max .i64) → (IntKind.min .i64 ≤ a5 ∧ a5 ≤ IntKind.max .i64) → (IntKind.min .i64 ≤ a6 ∧ a6 ≤ IntKind.max .i64) → ∃ k, F11 k a0 a1 a2 a3 a4 a5 a6 = some ((true, ()), ()) := by
  intro _ _ _ _ _ _ _ _ _ _
  have hB : Bd = 1099511627776 := rfl
  refine ⟨100010, ?_⟩
  obtain ⟨t, e, h⟩ := make_ok 100010 (Nat.le_refl _) a0 a1 a2 a3 a4
  have hl := save_len t
  have hlen := h.len
  have hlow : 8 ≤ (enc t).length := by
    unfold enc
    rw [List.length_append, encNs_len]
    omega
  unfold F11
  rw [known_ok _ (by omega), Option.bind_some]
  simp only [Bool.not_true, cond_false]
  rw [e, Option.bind_some]
  simp only
  rw [F17_eq _ t h.fits, Option.bind_some]
  simp only
  rw [w64 ((((save t).length : Nat) : Int) - 8) (by omega) (by omega), if_pos (by omega)]
  have ht : List.take (Int.toNat ((((save t).length : Nat) : Int) - 8) - Int.toNat 0) (List.drop (Int.toNat 0) (save t)) = enc t := by
    rw [show Int.toNat ((((save t).length : Nat) : Int) - 8) - Int.toNat 0 = (enc t).length by omega]
    show List.take _ (save t) = _
    unfold save
    rw [List.take_append_of_le_length (Nat.le_refl _), List.take_length]
  rw [ht]
  simp only [List.replicate_zero, List.nil_append, List.length_nil, Nat.zero_add]
  have hd : Int.tdiv (((enc t).length : Nat) : Int) 8 = (((enc t).length / 8 : Nat) : Int) := (Int.ofNat_tdiv _ _).symm
  have hg0 : 0 < (enc t).length / 8 := by omega
  rw [if_pos (by omega), hd, w64 _ (by omega) (by omega), F19_eq _ a5 _ (by omega) (by omega), Option.bind_some]
  simp only
  have hm0 := Int.emod_nonneg a5 (show (((enc t).length / 8 : Nat) : Int) ≠ 0 by omega)
  have hm1 := Int.emod_lt_of_pos a5 (show (0 : Int) < (((enc t).length / 8 : Nat) : Int) by omega)
  rw [F19_eq _ a6 8 (by decide) (by decide), Option.bind_some]
  simp only
  have hn0 := Int.emod_nonneg a6 (show (8 : Int) ≠ 0 by decide)
  have hn1 := Int.emod_lt_of_pos a6 (show (0 : Int) < 8 by decide)
  rw [if_pos (by simp only [List.length_set, List.length_replicate]; omega), w64 (8 * _) (by omega) (by omega)]
  obtain ⟨z, f1, f2, f3⟩ := F11_0_ok 100010 (8 * (a5 % (((enc t).length / 8 : Nat) : Int))) (List.getD (List.set (List.set (List.set (List.set (List.set (List.set (List.set (List.set (List.replicate 8 (0 : Int)) 0 a6) 1 (-1 : Int)) 2 (0 : Int)) 3 (1 : Int)) 4 (1099511627776 : Int)) 5 (100001 : Int)) 6 (9223372036854775807 : Int)) 7 (-9223372036854775808 : Int)) (Int.toNat (a6 % 8)) 0) (enc t) (by omega) (by omega) (by omega) (enc_isB t) (by omega)
  rw [f1, Option.bind_some]
  simp only
  have hzl : (z ++ be8 (sumL 1 z)).length = z.length + 8 := by rw [List.length_append, be8_len]
  rw [F20_eq 100010 z (by omega) (by omega) f3 (by omega), Option.bind_some]
  simp only
  obtain ⟨u, r, x1, x2, x3⟩ := load_same 100010 (z ++ be8 (sumL 1 z)) (Nat.le_refl _) (isB_append f3 (be8_isB _)) (by omega) (by omega)
  have hf := loadR_fits x3 100010 (Nat.le_refl _) (by omega) (by omega)
  rw [x1, Option.bind_some, Option.bind_some]
  simp only
  rw [x2, Option.bind_some]
  simp only
  rw [beq_self_eq_true, cond_true, F18_eq _ u u hf hf, Option.bind_some]
  simp only
  rw [beq_self_eq_true, cond_true]
  cases r with
  | false => rfl
  | true =>
    rw [loadR_right x3 100010 (Nat.le_refl _) rfl]
    rfl
end Go.Proofs.Ytmjlilmajdknkaa.Pure
