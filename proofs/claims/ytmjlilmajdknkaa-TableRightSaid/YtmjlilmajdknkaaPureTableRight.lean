/- The plain law of TableRight. Conditions: none. -/
import Derived.Test.YtmjlilmajdknkaaP0
set_option linter.unusedSimpArgs false
set_option linter.unusedVariables false
namespace Go.Proofs.YtmjlilmajdknkaaE
theorem table_right (a0 a1 : Int) (a2 a3 a4 : List Int) (a5 a6 a7 : Int) : ∃ k, F5 k a0 a1 a2 a3 a4 a5 a6 a7 = some ((true, ()), ()) := by
  obtain ⟨k, hk⟩ : ∃ k : Nat, 100010 ≤ k := ⟨100010, Nat.le_refl _⟩
  refine ⟨k, ?_⟩
  have h12 := known_ok k (by omega)
  obtain ⟨t, e, ht⟩ := make_ok k hk a0 a1 a2 a3 a4
  have hm : MkP t := ht.shape
  have hsh := hm
  obtain ⟨K, N, ⟨h1, h2, h3, h4, h5, h6, h7, h8, h9, h10⟩, k1, k2, n1, n2⟩ := hsh
  have hc := h1.1
  have hb := h5.1
  have p0 := Int.emod_nonneg a6 (show ((t.1.length : Nat) : Int) ≠ 0 by omega)
  have p1 := Int.emod_lt_of_pos a6 (show 0 < ((t.1.length : Nat) : Int) by omega)
  have q0 := Int.emod_nonneg a6 (show ((t.2.2.1.1.length : Nat) : Int) ≠ 0 by omega)
  have q1 := Int.emod_lt_of_pos a6 (show 0 < ((t.2.2.1.1.length : Nat) : Int) by omega)
  obtain ⟨m, hm1⟩ : ∃ m : Nat, a6 % ((t.1.length : Nat) : Int) = m := ⟨(a6 % ((t.1.length : Nat) : Int)).toNat, by omega⟩
  obtain ⟨j, hj1⟩ : ∃ j : Nat, a6 % ((t.2.2.1.1.length : Nat) : Int) = j := ⟨(a6 % ((t.2.2.1.1.length : Nat) : Int)).toNat, by omega⟩
  have f1 := F19_eq k a6 ((t.1.length : Nat) : Int) (by omega) (by omega)
  have f2 := F19_eq k a6 ((t.2.2.1.1.length : Nat) : Int) (by omega) (by omega)
  rw [hm1] at f1 p1
  rw [hj1] at f2 q1
  unfold F5
  rw [h12, Option.bind_some]
  simp only
  rw [Bool.not_true, cond_false, e, Option.bind_some]
  simp only
  rw [f1, Option.bind_some, f2, Option.bind_some]
  simp only
  rw [F19_eq k a7 11 (by omega) (by omega), Option.bind_some]
  simp only
  rw [if_pos (by simp only [List.length_set, List.length_replicate]; omega)]
  have key : ∀ v : Int, ((F5_12 k a5 a6 a7 (m : Int) (j : Int) v t).bind fun r99 => (F14 k r99.2.1).bind fun r101 => (F22 k r99.2.1).bind fun r102 => some (((r101.1.1 == r102.1.1), ()), ())) = (some ((true, ()), ()) : Option ((Bool × Unit) × Unit)) := by
   intro v
   obtain ⟨t', e5, hq⟩ := F5_12_ok k a5 a6 a7 m j v t hm (by omega) (by omega)
   obtain ⟨r, g1, g2, _⟩ := right_same k t' hk hq.1 hq.2
   rw [e5, Option.bind_some]
   simp only
   rw [g1, Option.bind_some, g2, Option.bind_some, beq_self_eq_true]
  exact key _
end Go.Proofs.YtmjlilmajdknkaaE
namespace Go.Proofs.Ytmjlilmajdknkaa.Pure
open Go.Proofs.YtmjlilmajdknkaaE
theorem TableRight (a0 : Int) (a1 : Int) (a2 : List Int) (a3 : List Int) (a4 : List Int) (a5 : Int) (a6 : Int) (a7 : Int) : (IntKind.min .i64 ≤ a0 ∧ a0 ≤ IntKind.max .i64) → (IntKind.min .i64 ≤ a1 ∧ a1 ≤ IntKind.max .i64) → (a2.length * 8 ≤ 140737488351232) → (∀ x ∈ a2, IntKind.min .i64 ≤ x ∧ x ≤ IntKind.max .i64) → (a3.length * 8 ≤ 140737488351232) → (∀ x ∈ a3, IntKind.min .i64 ≤ x ∧ x ≤ IntKind.max .i64) → (a4.length * 8 ≤ 140737488351232) → (∀ x ∈ a4, IntKind.min .i64 ≤ x ∧ x ≤ IntKind.max .i64) → (IntKind.min .i64 ≤ a5 ∧ a5 ≤ IntKind.max .i64) → (IntKind.min .i64 ≤ a6 ∧ a6 ≤ IntKind.max .i64) → (IntKind.min .i64 ≤ a7 ∧ a7 ≤ IntKind.max .i64) → ∃ k, F5 k a0 a1 a2 a3 a4 a5 a6 a7 = some ((true, ()), ()) := by
  intros
  exact table_right a0 a1 a2 a3 a4 a5 a6 a7
end Go.Proofs.Ytmjlilmajdknkaa.Pure
