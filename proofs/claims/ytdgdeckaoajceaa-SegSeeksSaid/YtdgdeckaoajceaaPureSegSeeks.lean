/- The plain law of SegSeeks. Conditions: none. -/
import Derived.Test.YtdgdeckaoajceaaP0
set_option linter.unusedSimpArgs false
set_option linter.unusedVariables false
namespace Go.Proofs.YtdgdeckaoajceaaE
open Go.Proofs.YtdgdeckaoajceaaU (scal offs encL str Scalars scal_encL)
theorem seg_seeks (a0 a1 : Int) (a2 a3 a4 a5 : List Int) (a6 a7 : Int) : ∃ k, F10 k a0 a1 a2 a3 a4 a5 a6 a7 = some ((true, ()), ()) := by
  obtain ⟨k, hk, h15⟩ := start
  refine ⟨k, ?_⟩
  obtain ⟨t, e16, hm⟩ := F16_ok k a0 a1 a2 a3 a4 (by omega)
  obtain ⟨k1, k2, _⟩ := kst_range a0
  obtain ⟨s, e17, hr, _⟩ := F17_ok k a5 [] (by omega) (by simp)
  rw [List.length_nil] at hr
  have e22 := F22_eq k t hm k1 k2 s (by omega) hk
  have hz0 := sg_pos t (lts t s)
  have hz1 : (sg t (lts t s)).length ≤ 100000 := by have := lts_len t s; rw [sg_length]; omega
  obtain ⟨z, hz⟩ : ∃ z, sg t (lts t s) = z := ⟨_, rfl⟩
  rw [hz] at e22 hz0 hz1
  have e22 : F22 k t s = some ((cur z 0, ()), ()) := e22
  obtain ⟨i, hi, hi2⟩ := mod_nat a6 (z.length : Int) (by omega)
  have e24 := F24_eq k a6 (z.length : Int) (by omega) (by omega)
  rw [hi] at e24
  have hin : 0 ≤ (i : Int) ∧ (i : Int) < ((z.length : Nat) : Int) := by omega
  have s1 : inZ z (i : Int) = true := decide_eq_true hin
  have s2 : inZ z (z.length : Int) = false := decide_eq_false (by omega)
  have s3 : inZ z (-1) = false := decide_eq_false (by omega)
  have t1 : sk z 0 (i : Int) = (i : Int) := by unfold sk; rw [s1, cond_true]
  have t2 : sk z (i : Int) (z.length : Int) = (i : Int) := by unfold sk; rw [s2, cond_false]
  have t3 : sk z (i : Int) (-1) = (i : Int) := by unfold sk; rw [s3, cond_false]
  have hin2 := sk_in (a := a7) hin
  unfold F10
  rw [h15, Option.bind_some]
  simp only
  rw [Bool.not_true, cond_false, e16, Option.bind_some]
  simp only
  rw [e17, Option.bind_some]
  simp only
  rw [e22, Option.bind_some]
  simp only
  rw [F23_eq, Option.bind_some]
  simp only
  rw [decide_eq_false (show ¬ ((z.length : Nat) : Int) < 1 by omega), cond_false, F23_eq, Option.bind_some]
  simp only
  rw [e24, Option.bind_some]
  simp only
  rw [F30_eq, Option.bind_some]
  simp only
  rw [s1, Bool.not_true, cond_false, t1, F30_eq, Option.bind_some]
  simp only
  rw [s2, cond_false, t2, F30_eq, Option.bind_some]
  simp only
  rw [s3, cond_false, t3, F32_eq k z _ hin, Option.bind_some]
  simp only
  rw [F30_eq, Option.bind_some]
  simp only
  rw [F32_eq k z _ hin2, Option.bind_some]
  simp only
  by_cases h7 : a7 ≥ 0
  · rw [decide_eq_true h7, cond_true]
    by_cases h8 : a7 < ((z.length : Nat) : Int)
    · have u1 : inZ z a7 = true := decide_eq_true ⟨h7, h8⟩
      have u2 : sk z (i : Int) a7 = a7 := by unfold sk; rw [u1, cond_true]
      rw [u1, u2, decide_eq_true h8, beq_self_eq_true, Bool.not_true, cond_false, cond_true, bne_self_eq_false, cond_false, cond_false, beq_self_eq_true]
    · have u1 : inZ z a7 = false := decide_eq_false (by omega)
      have u2 : sk z (i : Int) a7 = (i : Int) := by unfold sk; rw [u1, cond_false]
      rw [u1, u2, decide_eq_false h8, beq_self_eq_true, Bool.not_true, cond_false, cond_false, Bool.not_false, cond_true, bne_self_eq_false, cond_false, beq_self_eq_true, Bool.not_true, cond_false, beq_self_eq_true]
  · have u1 : inZ z a7 = false := decide_eq_false (by omega)
    have u2 : sk z (i : Int) a7 = (i : Int) := by unfold sk; rw [u1, cond_false]
    rw [decide_eq_false h7, cond_false, u1, u2, beq_self_eq_true, Bool.not_true, cond_false, cond_false, Bool.not_false, cond_true, bne_self_eq_false, cond_false, beq_self_eq_true, Bool.not_true, cond_false, beq_self_eq_true]
end Go.Proofs.YtdgdeckaoajceaaE
namespace Go.Proofs.Ytdgdeckaoajceaa.Pure
open Go.Proofs.YtdgdeckaoajceaaE
theorem SegSeeks (a0 : Int) (a1 : Int) (a2 : List Int) (a3 : List Int) (a4 : List Int) (a5 : List Int) (a6 : Int) (a7 : Int) : (IntKind.min .i64 ≤ a0 ∧ a0 ≤ IntKind.max .i64) → (IntKind.min .i64 ≤ a1 ∧ a1 ≤ IntKind.max .i64) → (a2.length * 8 ≤ 140737488351232) → (∀ x ∈ a2, IntKind.min .i64 ≤ x ∧ x ≤ IntKind.max .i64) → (a3.length * 8 ≤ 140737488351232) → (∀ x ∈ a3, IntKind.min .i64 ≤ x ∧ x ≤ IntKind.max .i64) → (a4.length * 8 ≤ 140737488351232) → (∀ x ∈ a4, IntKind.min .i64 ≤ x ∧ x ≤ IntKind.max .i64) → (a5.length * 8 ≤ 140737488351232) → (∀ x ∈ a5, IntKind.min .i64 ≤ x ∧ x ≤ IntKind.max .i64) → (IntKind.min .i64 ≤ a6 ∧ a6 ≤ IntKind.max .i64) → (IntKind.min .i64 ≤ a7 ∧ a7 ≤ IntKind.max .i64) → ∃ k, F10 k a0 a1 a2 a3 a4 a5 a6 a7 = some ((true, ()), ()) := by
  intros
  exact seg_seeks a0 a1 a2 a3 a4 a5 a6 a7
end Go.Proofs.Ytdgdeckaoajceaa.Pure
