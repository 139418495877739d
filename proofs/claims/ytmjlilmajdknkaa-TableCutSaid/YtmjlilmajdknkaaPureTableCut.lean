/- The plain law of TableCut. Conditions: none. -/
import Derived.Test.YtmjlilmajdknkaaP0
set_option linter.unusedSimpArgs false
set_option linter.unusedVariables false
namespace Go.Proofs.Ytmjlilmajdknkaa.Pure
open Go.Proofs.YtmjlilmajdknkaaE
theorem TableCut (a0 : Int) (a1 : Int) (a2 : List Int) (a3 : List Int) (a4 : List Int) (a5 : Int) (a6 : List Int) : (IntKind.min .i64 ≤ a0 ∧ a0 ≤ IntKind.max .i64) → (IntKind.min .i64 ≤ a1 ∧ a1 ≤ IntKind.max .i64) → (a2.length * 8 ≤ 140737488351232) → (∀ x ∈ a2, IntKind.min .i64 ≤ x ∧ x ≤ IntKind.max .i64) → (a3.length * 8 ≤ 140737488351232) → (∀ x ∈ a3, IntKind.min .i64 ≤ x ∧ x ≤ IntKind.max .i64) → (a4.length * 8 ≤ 140737488351232) → (∀ x ∈ a4, IntKind.min .i64 ≤ x ∧ x ≤ IntKind.max .i64) → (IntKind.min .i64 ≤ a5 ∧ a5 ≤ IntKind.max .i64) → (a6.length * 1 ≤ 140737488351232) → (∀ x ∈ a6, IntKind.min .u8 ≤ x ∧ x ≤ IntKind.max .u8) → ∃ k, F8 k a0 a1 a2 a3 a4 a5 a6 = some ((true, ()), ()) := by
  intro _ _ _ _ _ _ _ _ _ _ h6'
  have h6 : IsB a6 := h6'
  have hB : Bd = 1099511627776 := rfl
  refine ⟨100010, ?_⟩
  obtain ⟨t, e, h⟩ := make_ok 100010 (Nat.le_refl _) a0 a1 a2 a3 a4
  have hl := save_len t
  have hlen := h.len
  unfold F8
  rw [known_ok _ (by omega), Option.bind_some]
  simp only [Bool.not_true, cond_false]
  by_cases hc : a6.length > 60
  · rw [show decide (((a6.length : Nat) : Int) > 60) = true from by simp; omega]
    rfl
  rw [show decide (((a6.length : Nat) : Int) > 60) = false from by simp; omega, cond_false, e, Option.bind_some]
  simp only
  rw [F15_eq _ t h.fits, Option.bind_some]
  simp only
  rw [show decide ((((save t).length : Nat) : Int) < 8) = false from by simp; omega, cond_false, F19_eq _ a5 _ (by omega) (by omega), Option.bind_some]
  simp only
  have hm0 := Int.emod_nonneg a5 (show (((save t).length : Nat) : Int) ≠ 0 by omega)
  have hm1 := Int.emod_lt_of_pos a5 (show (0 : Int) < (((save t).length : Nat) : Int) by omega)
  rw [if_pos (by omega)]
  obtain ⟨T, hT⟩ : ∃ T, T = List.take (Int.toNat (a5 % (((save t).length : Nat) : Int)) - Int.toNat 0) (List.drop (Int.toNat 0) (save t)) := ⟨_, rfl⟩
  have hTl : T.length ≤ (save t).length := by
    rw [hT, List.length_take]
    show min _ (save t).length ≤ _
    omega
  have hTB : IsB T := fun x hx => by
    rw [hT] at hx
    exact save_isB t x (List.mem_of_mem_take hx)
  rw [← hT]
  obtain ⟨u1, r1, x1, x2, x3⟩ := load_same 100010 T (Nat.le_refl _) hTB (by omega) (by omega)
  rw [x1, Option.bind_some, if_pos (by omega), x2, Option.bind_some]
  simp only [List.replicate_zero, List.nil_append, List.length_nil, Nat.zero_add]
  rw [if_pos (by omega), if_pos (by omega)]
  obtain ⟨u2, r2, y1, y2, y3⟩ := load_same 100010 (save t ++ a6) (Nat.le_refl _) (isB_append (save_isB t) h6) (by simp only [List.length_append]; omega) (by simp only [List.length_append]; omega)
  rw [y1, Option.bind_some, if_pos (by omega), if_pos (by omega), y2, Option.bind_some]
  simp only
  rw [w64 _ (by omega) (by omega), if_pos (by omega)]
  have ht : List.take (Int.toNat ((((save t).length : Nat) : Int) - 8) - Int.toNat 0) (List.drop (Int.toNat 0) (save t)) = enc t := by
    rw [show Int.toNat ((((save t).length : Nat) : Int) - 8) - Int.toNat 0 = (enc t).length by omega]
    show List.take _ (save t) = _
    unfold save
    rw [List.take_append_of_le_length (Nat.le_refl _), List.take_length]
  rw [ht, if_pos (by omega), if_pos (by simp only [List.length_set, List.length_replicate]; omega)]
  simp only [one_list]
  have hz : IsB (enc t ++ [0]) := isB_append (enc_isB t) fun x hx => by rw [List.mem_singleton.1 hx]; decide
  have hzl : (enc t ++ [(0 : Int)]).length = (enc t).length + 1 := by simp
  rw [F20_eq 100010 _ (by omega) (by omega) hz (by omega), Option.bind_some]
  simp only
  obtain ⟨u3, r3, z1, z2, z3⟩ := load_same 100010 ((enc t ++ [0]) ++ be8 (sumL 1 (enc t ++ [0]))) (Nat.le_refl _) (isB_append hz (be8_isB _)) (by rw [List.length_append, be8_len]; omega) (by rw [List.length_append, be8_len]; omega)
  rw [z1, Option.bind_some]
  simp only
  have hr3 : r3 = false := by
    rcases z3 with ⟨_, _, _, es⟩ | ⟨h, _⟩
    · have := congrArg List.length es
      rw [List.length_append, be8_len, hzl, save_len] at this
      have m1 := enc_mod8 t
      have m2 := enc_mod8 u3
      omega
    · exact h
  rw [hr3, beq_self_eq_true, cond_true, beq_self_eq_true, cond_true]
  rfl
end Go.Proofs.Ytmjlilmajdknkaa.Pure
