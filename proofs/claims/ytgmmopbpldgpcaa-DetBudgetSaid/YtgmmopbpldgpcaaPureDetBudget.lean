/- The plain law of DetBudget. Conditions: none. -/
import Derived.Test.YtgmmopbpldgpcaaP1
set_option linter.unusedSimpArgs false
set_option linter.unusedVariables false
set_option maxRecDepth 20000
namespace Go.Proofs.YtgmmopbpldgpcaaE
theorem det_budget (a0 : List RawT) (a1 a2 : List Int) (a3 : Int) (h1 : a1.length ≤ 100000000000000) : ∃ k, F6 k a0 a1 a2 a3 = some ((true, ()), ()) := by
  refine ⟨20000000, ?_⟩
  generalize hk : (20000000 : Nat) = k
  have hk' : 20000000 ≤ k := by omega
  have hk2 : 10000000 ≤ k := by omega
  unfold F6
  refine start10 k hk' a0 a1 a2 h1 _ _ _ fun w N M e15 hw e16 => ?_
  simp only
  rw [F17_wg k hk' hw, Option.bind_some]
  cases hq : mkM w.2.2.2.1 w.2.2.2.2.2.1 N 60 with
  | none => rfl
  | some q =>
    have mw := mkM_ok hq
    have dw := mw_dw hw mw
    simp only [outA, bne_self_eq_false, cond_false]
    rw [hw.num, F19_dw k hk2 dw, Option.bind_some]
    cases hd : mkN w.2.2.2.2.1 w.2.2.2.1 N 60 with
    | none => rfl
    | some d =>
      have nd := mkN_ok dw.hs hd
      have nle := nd.le
      rw [minI_le (by decide)] at nle
      have h0 : 0 < d.1.length := (List.getElem?_eq_some_iff.1 nd.z).1
      have hv0 : 0 ≤ a3 % 4 := Int.emod_nonneg _ (by decide)
      have hv1 : a3 % 4 < 4 := Int.emod_lt_of_pos _ (by decide)
      have q1 : mkN w.2.2.2.2.1 w.2.2.2.1 N (d.1.length : Int) = some d := by
        unfold mkN at hd ⊢
        rw [minI_le (by omega)]
        exact (mkA_more _ _ _ _ _ _ _ hd (Nat.zero_le _) (Int.le_refl _) (by omega)).2
      have q2 : mkN w.2.2.2.2.1 w.2.2.2.1 N ((d.1.length : Int) - 1 - a3 % 4) = none := by
        unfold mkN at hd ⊢
        rw [minI_le (by omega)]
        exact mkA_less _ _ _ _ _ _ _ hd h0 (Nat.zero_le _) (by omega)
      have e3 := F19_dw k hk2 dw (d.1.length : Int)
      have e4 := F19_dw k hk2 dw ((d.1.length : Int) - 1 - a3 % 4)
      rw [q1] at e3
      rw [q2] at e4
      have hnl := nd.m.nl
      simp only [outD, bne_self_eq_false, cond_false]
      rw [hnl, e3, Option.bind_some, F18_eq10 k a3 4 (by decide) (by decide), Option.bind_some]
      simp only
      rw [w64 ((d.1.length : Int) - 1) (by omega) (by omega), w64 ((d.1.length : Int) - 1 - a3 % 4) (by omega) (by omega), e4, Option.bind_some]
      rfl
end Go.Proofs.YtgmmopbpldgpcaaE
namespace Go.Proofs.Ytgmmopbpldgpcaa.Pure
open Go.Proofs.YtgmmopbpldgpcaaE
theorem DetBudget (a0 : List (Tree (Int × (Int × Unit)))) (a1 : List Int) (a2 : List Int) (a3 : Int) : (a1.length * 8 ≤ 140737488351232) → (∀ x ∈ a1, IntKind.min .i64 ≤ x ∧ x ≤ IntKind.max .i64) → (a2.length * 8 ≤ 140737488351232) → (∀ x ∈ a2, IntKind.min .i64 ≤ x ∧ x ≤ IntKind.max .i64) → (IntKind.min .i64 ≤ a3 ∧ a3 ≤ IntKind.max .i64) → ∃ k, F6 k a0 a1 a2 a3 = some ((true, ()), ()) := by
  intros
  exact det_budget a0 a1 a2 a3 (by omega)
end Go.Proofs.Ytgmmopbpldgpcaa.Pure
