/- The plain law of TableBack. Conditions: none. -/
import Derived.Test.YtmjlilmajdknkaaP0
set_option linter.unusedSimpArgs false
set_option linter.unusedVariables false
namespace Go.Proofs.Ytmjlilmajdknkaa.Pure
open Go.Proofs.YtmjlilmajdknkaaE
theorem TableBack (a0 : Int) (a1 : Int) (a2 : List Int) (a3 : List Int) (a4 : List Int) : (IntKind.min .i64 ≤ a0 ∧ a0 ≤ IntKind.max .i64) → (IntKind.min .i64 ≤ a1 ∧ a1 ≤ IntKind.max .i64) → (a2.length * 8 ≤ 140737488351232) → (∀ x ∈ a2, IntKind.min .i64 ≤ x ∧ x ≤ IntKind.max .i64) → (a3.length * 8 ≤ 140737488351232) → (∀ x ∈ a3, IntKind.min .i64 ≤ x ∧ x ≤ IntKind.max .i64) → (a4.length * 8 ≤ 140737488351232) → (∀ x ∈ a4, IntKind.min .i64 ≤ x ∧ x ≤ IntKind.max .i64) → ∃ k, F3 k a0 a1 a2 a3 a4 = some ((true, ()), ()) := by
  intro _ _ _ _ _ _ _ _
  refine ⟨100010, ?_⟩
  obtain ⟨t, e, h⟩ := make_ok 100010 (Nat.le_refl _) a0 a1 a2 a3 a4
  have hl := save_len t
  have := h.len
  unfold F3
  rw [known_ok _ (by omega), Option.bind_some]
  simp only [Bool.not_true, cond_false]
  rw [e, Option.bind_some]
  simp only
  rw [F14_made (Nat.le_refl _) h.right h.vt, Option.bind_some]
  simp only [Bool.not_true, cond_false]
  rw [F15_eq _ t h.fits, Option.bind_some]
  simp only
  rw [load_save (Nat.le_refl _) h, Option.bind_some]
  simp only
  rw [if_pos (by omega), F17_eq _ t h.fits, Option.bind_some]
  simp only
  rw [if_pos (by omega), beq_self_eq_true, cond_true, cond_true, F18_eq _ t t h.fits h.fits, Option.bind_some, beq_self_eq_true]
end Go.Proofs.Ytmjlilmajdknkaa.Pure
