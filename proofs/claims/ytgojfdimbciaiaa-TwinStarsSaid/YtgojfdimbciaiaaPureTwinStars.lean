/- The plain law of TwinStars. Conditions: none. -/
import Derived.Test.YtgojfdimbciaiaaP0
set_option linter.unusedSimpArgs false
set_option linter.unusedVariables false
set_option maxRecDepth 20000
namespace Go.Proofs.YtgojfdimbciaiaaE
theorem F18_mod (k : Nat) (a n : Int) (h0 : 0 < n) (h1 : n ≤ 1000) : F18 k a n = F18 k (a % n) n := by
  rw [F18_eq k a n h0 (by omega), F18_eq k (a % n) n h0 (by omega), Int.emod_emod]
theorem F6_0_mod (k : Nat) : ∀ (n : Nat) (t1 : Int) (b : Bool) (t7 t9 : Int) (c : Tree (Int × (Int × (Int × (Int × (ByteArray × Unit)))))), F6_0 k n t1 b t7 t9 c = (F6_0 k n (t1 % 4) b t7 t9 c).map fun r => ((t1, r.1.2), r.2)
  | 0, _, _, _, _, _ => rfl
  | n + 1, t1, b, t7, t9, c => by
    simp only [F6_0]
    rw [← F18_mod k t1 4 (by omega) (by omega), F18_eq k t1 4 (by omega) (by omega), Option.bind_some, Option.bind_some]
    simp only
    cases decide (t9 < t1 % 4) with
    | true =>
      rw [cond_true, cond_true, F6_0_mod k n]
      simp only [Option.bind_fun_some]
    | false =>
      rw [cond_false, cond_false]
      rfl
theorem F6_0_fst (k : Nat) : ∀ (n : Nat) (t1 : Int) (b : Bool) (t7 t9 : Int) (c : Tree (Int × (Int × (Int × (Int × (ByteArray × Unit)))))) (r), F6_0 k n t1 b t7 t9 c = some r → r.1.1 = t1
  | 0, _, _, _, _, _, _, h => by cases h
  | n + 1, t1, b, t7, t9, c, r, h => by
    simp only [F6_0] at h
    rw [F18_eq k t1 4 (by omega) (by omega), Option.bind_some] at h
    simp only at h
    cases hd : decide (t9 < t1 % 4) with
    | true =>
      rw [hd, cond_true, Option.bind_fun_some] at h
      exact F6_0_fst k n _ _ _ _ _ r h
    | false =>
      rw [hd, cond_false] at h
      injection h with h
      subst h
      rfl
theorem F6_mod (k : Nat) (a0 a1 : Int) (a2 : Bool) : F6 k a0 a1 a2 = F6 k (a0 % 5) (a1 % 4) a2 := by
  unfold F6
  rw [F18_mod k a0 5 (by omega) (by omega), F18_eq k (a0 % 5) 5 (by omega) (by omega)]
  congr 1
  funext r1
  cases r1.1.1 with
  | false => rfl
  | true =>
    rw [Bool.not_true, cond_false, cond_false, Option.bind_some, Option.bind_some]
    simp only
    rw [F6_0_mod k k a1]
    generalize hR : F6_0 k k (a1 % 4) a2 _ _ _ = R
    cases R with
    | none => rfl
    | some r =>
      have e := F6_0_fst k _ _ _ _ _ _ _ hR
      simp only [Option.map_some, Option.bind_some, e]
      rw [F18_mod k a1 4 (by omega) (by omega)]
theorem st0 (k : Nat) (b : Bool) : F6 (k + 200) 0 0 b = some ((true, ()), ()) ∧ F6 (k + 200) 0 1 b = some ((true, ()), ()) ∧ F6 (k + 200) 0 2 b = some ((true, ()), ()) ∧ F6 (k + 200) 0 3 b = some ((true, ()), ()) := by
  cases b <;> exact ⟨by kernel_rfl, by kernel_rfl, by kernel_rfl, by kernel_rfl⟩
theorem st1 (k : Nat) (b : Bool) : F6 (k + 200) 1 0 b = some ((true, ()), ()) ∧ F6 (k + 200) 1 1 b = some ((true, ()), ()) ∧ F6 (k + 200) 1 2 b = some ((true, ()), ()) ∧ F6 (k + 200) 1 3 b = some ((true, ()), ()) := by
  cases b <;> exact ⟨by kernel_rfl, by kernel_rfl, by kernel_rfl, by kernel_rfl⟩
theorem st2 (k : Nat) (b : Bool) : F6 (k + 200) 2 0 b = some ((true, ()), ()) ∧ F6 (k + 200) 2 1 b = some ((true, ()), ()) ∧ F6 (k + 200) 2 2 b = some ((true, ()), ()) ∧ F6 (k + 200) 2 3 b = some ((true, ()), ()) := by
  cases b <;> exact ⟨by kernel_rfl, by kernel_rfl, by kernel_rfl, by kernel_rfl⟩
theorem st3 (k : Nat) (b : Bool) : F6 (k + 200) 3 0 b = some ((true, ()), ()) ∧ F6 (k + 200) 3 1 b = some ((true, ()), ()) ∧ F6 (k + 200) 3 2 b = some ((true, ()), ()) ∧ F6 (k + 200) 3 3 b = some ((true, ()), ()) := by
  cases b <;> exact ⟨by kernel_rfl, by kernel_rfl, by kernel_rfl, by kernel_rfl⟩
theorem st4 (k : Nat) (b : Bool) : F6 (k + 200) 4 0 b = some ((true, ()), ()) ∧ F6 (k + 200) 4 1 b = some ((true, ()), ()) ∧ F6 (k + 200) 4 2 b = some ((true, ()), ()) ∧ F6 (k + 200) 4 3 b = some ((true, ()), ()) := by
  cases b <;> exact ⟨by kernel_rfl, by kernel_rfl, by kernel_rfl, by kernel_rfl⟩
theorem twin_stars (a0 a1 : Int) (a2 : Bool) : ∃ k, F6 k a0 a1 a2 = some ((true, ()), ()) := by
  refine ⟨0 + 200, ?_⟩
  rw [F6_mod]
  have h0 : a0 % 5 = 0 ∨ a0 % 5 = 1 ∨ a0 % 5 = 2 ∨ a0 % 5 = 3 ∨ a0 % 5 = 4 := by omega
  have h1 : a1 % 4 = 0 ∨ a1 % 4 = 1 ∨ a1 % 4 = 2 ∨ a1 % 4 = 3 := by omega
  have fin : ∀ x, (F6 (0 + 200) x 0 a2 = some ((true, ()), ()) ∧ F6 (0 + 200) x 1 a2 = some ((true, ()), ()) ∧ F6 (0 + 200) x 2 a2 = some ((true, ()), ()) ∧ F6 (0 + 200) x 3 a2 = some ((true, ()), ())) → F6 (0 + 200) x (a1 % 4) a2 = some ((true, ()), ()) := fun x h => by
    rcases h1 with e | e | e | e <;> rw [e]
    · exact h.1
    · exact h.2.1
    · exact h.2.2.1
    · exact h.2.2.2
  rcases h0 with e | e | e | e | e <;> rw [e]
  · exact fin 0 (st0 0 a2)
  · exact fin 1 (st1 0 a2)
  · exact fin 2 (st2 0 a2)
  · exact fin 3 (st3 0 a2)
  · exact fin 4 (st4 0 a2)
end Go.Proofs.YtgojfdimbciaiaaE
namespace Go.Proofs.Ytgojfdimbciaiaa.Pure
open Go.Proofs.YtgojfdimbciaiaaE
theorem TwinStars (a0 : Int) (a1 : Int) (a2 : Bool) : (IntKind.min .i64 ≤ a0 ∧ a0 ≤ IntKind.max .i64) → (IntKind.min .i64 ≤ a1 ∧ a1 ≤ IntKind.max .i64) → ∃ k, F6 k a0 a1 a2 = some ((true, ()), ()) := by
  intros
  exact twin_stars a0 a1 a2
end Go.Proofs.Ytgojfdimbciaiaa.Pure
