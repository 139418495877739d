/- The plain law of TableOwn. Conditions: none. -/
import Derived.Test.YtmjlilmajdknkaaP0
set_option linter.unusedSimpArgs false
set_option linter.unusedVariables false
namespace Go.Proofs.Ytmjlilmajdknkaa.Pure
open Go.Proofs.YtmjlilmajdknkaaE
theorem TableOwn (a0 : Int) (a1 : Int) (a2 : List Int) (a3 : List Int) (a4 : List Int) : (IntKind.min .i64 ≤ a0 ∧ a0 ≤ IntKind.max .i64) → (IntKind.min .i64 ≤ a1 ∧ a1 ≤ IntKind.max .i64) → (a2.length * 8 ≤ 140737488351232) → (∀ x ∈ a2, IntKind.min .i64 ≤ x ∧ x ≤ IntKind.max .i64) → (a3.length * 8 ≤ 140737488351232) → (∀ x ∈ a3, IntKind.min .i64 ≤ x ∧ x ≤ IntKind.max .i64) → (a4.length * 8 ≤ 140737488351232) → (∀ x ∈ a4, IntKind.min .i64 ≤ x ∧ x ≤ IntKind.max .i64) → ∃ k, F7 k a0 a1 a2 a3 a4 = some ((true, ()), ()) := by
  intro _ _ _ _ _ _ _ _
  refine ⟨100010, ?_⟩
  obtain ⟨t, e, h⟩ := make_ok 100010 (Nat.le_refl _) a0 a1 a2 a3 a4
  obtain ⟨K, N, hm, k1, k2, n1, n2⟩ := h.shape
  obtain ⟨h1, h2, h3, h4, h5, h6, h7, h8, h9, h10⟩ := hm
  have hb : t.2.2.1.1.length = K := h5.1
  have he : t.2.2.2.1.2.1.length = K := h10.1
  have hc := h1.1
  have ib : 0 < t.2.2.1.1.length := by omega
  have ie : 0 < t.2.2.2.1.2.1.length := by omega
  have hb0 := (h5.2 _ (List.getElem_mem ib)).1
  have he0 := (h10.2 _ (List.getElem_mem ie)).1
  unfold F7
  rw [known_ok _ (by omega), Option.bind_some]
  simp only [Bool.not_true, cond_false]
  rw [e, Option.bind_some, Option.bind_some]
  simp only
  rw [F15_eq _ t h.fits, Option.bind_some]
  simp only
  rw [load_save (Nat.le_refl _) h, Option.bind_some]
  simp only [Bool.not_true, cond_false, show Int.toNat 0 = 0 from rfl, getD_lt _ _ _ ib, getD_lt _ _ _ ie]
  rw [nz hc, cond_false, nz ie, cond_false, if_pos (by omega),
    nz (by omega), cond_false, nz ib, cond_false, if_pos (by omega),
    nz (by omega), cond_false, if_pos (by omega), if_pos (by omega), if_pos (by omega), if_pos (by omega), if_pos (by omega), if_pos (by omega), Option.bind_some]
  simp only [cond_true]
  rw [F18_eq _ t t h.fits h.fits, Option.bind_some, beq_self_eq_true]
  rfl
end Go.Proofs.Ytmjlilmajdknkaa.Pure
