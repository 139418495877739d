/- The plain law of SegEmpty. Conditions: none. -/
import Derived.Test.YtdgdeckaoajceaaP0
set_option linter.unusedSimpArgs false
set_option linter.unusedVariables false
namespace Go.Proofs.YtdgdeckaoajceaaE
theorem empty_end {z : List (List Int)} {v : List Int} (hz : z = [v]) {c : Nat} {bi bv : Int} (h : BestP z c 0 (0 + 1) bi bv) : (decide (bv < INF) == decide (List.getD v c 0 < 1152921504606846976)) = true ∧ (bi == 0) = true := by
  subst hz
  have hw : wt [v] c 0 = List.getD v c 0 := rfl
  have hI : INF = 1152921504606846976 := rfl
  rcases h with ⟨h1, h2, h3⟩ | ⟨i, h1, h2, h3, h4, h5, h6, h7⟩
  · have h3 := h3 0 (Nat.le_refl _) (by omega)
    refine ⟨?_, by rw [h1]; rfl⟩
    rw [decide_eq_false (show ¬ bv < INF by omega), decide_eq_false (show ¬ List.getD v c 0 < 1152921504606846976 by omega)]
    rfl
  · obtain rfl : i = 0 := by omega
    refine ⟨?_, by rw [h1]; rfl⟩
    rw [decide_eq_true h5, decide_eq_true (show List.getD v c 0 < 1152921504606846976 by omega)]
    rfl
theorem seg_empty (a0 a1 : Int) (a2 a3 a4 : List Int) (a5 : Int) : ∃ k, F14 k a0 a1 a2 a3 a4 a5 = some ((true, ()), ()) := by
  obtain ⟨k, hk, h15⟩ := start
  refine ⟨k, ?_⟩
  obtain ⟨t, e16, hm⟩ := F16_ok k a0 a1 a2 a3 a4 (by omega)
  obtain ⟨k1, k2, _⟩ := kst_range a0
  have e18 := F18_eq k t hm k1 k2 ⟨#[]⟩ (by simp [ByteArray.size]) hk
  have e22 := F22_eq k t hm k1 k2 ⟨#[]⟩ (by simp [ByteArray.size]) hk
  obtain ⟨h1, h2, h3, h4, h5, h6, h7, h8, h9, h10⟩ := hm
  have ho : 0 < t.2.2.1.2.1.length := by omega
  have hr := h7 _ (getD_mem (d := 0) ho)
  have hrow := EmP_row h10 (q := 0) (by omega) (by omega)
  have hem : 0 < t.2.2.2.1.2.1.length := by have := h10.1; omega
  obtain ⟨v, hv⟩ : ∃ v, List.getD (List.getD t.2.2.2.1.2.1 (Int.toNat 0) []) (Int.toNat (List.getD t.2.2.1.2.1 (Int.toNat 0) 0)) [] = v := ⟨_, rfl⟩
  rw [lts_nil, sg_nil, hv] at e18 e22
  have e22 : F22 k t ⟨#[]⟩ = some ((cur [v] 0, ()), ()) := e22
  have e36 : F36 k (cur [v] 0) = some ((false, ()), (cur [v] 0, ())) := F36_eq k [v] 0 (by simp) (by simp)
  have e37 : F37 k (cur [v] 0) = some ((false, ()), (cur [v] 0, ())) := F37_eq k [v] 0 (by simp) (by simp)
  have e30 : F30 k (cur [v] 0) 0 = some ((true, ()), (cur [v] 0, ())) := F30_eq k [v] 0 0
  obtain ⟨c, hc, hc3⟩ := mod_nat a5 3 (by omega)
  obtain ⟨bi, bv, e25, hb⟩ := F25_in k [v] 0 0 0 c (by omega) (Nat.le_refl _) (by simp) (by simp) hk
  have e25 : F25 k (cur [v] 0) 0 0 (c : Int) = some ((bi, decide (bv < INF), ()), (cur [v] 0, ())) := e25
  have e24 := F24_eq k a5 3 (by omega) (by omega)
  rw [hc] at e24
  obtain ⟨x1, x2⟩ := empty_end rfl hb
  have hone : (0 : Int) ≤ 0 ∧ (0 : Int) < (([v].length : Nat) : Int) := ⟨Int.le_refl _, by simp⟩
  unfold F14
  rw [h15, Option.bind_some]
  simp only
  rw [Bool.not_true, cond_false, e16, Option.bind_some]
  simp only
  rw [e18, Option.bind_some, e22, Option.bind_some]
  simp only
  rw [bne_self_eq_false, cond_false, show ((([v].length : Nat) : Int) != 1) = false from rfl, cond_false, F23_eq, Option.bind_some]
  simp only
  rw [show ((([v].length : Nat) : Int) != 1) = false from rfl, cond_false, e36, Option.bind_some]
  simp only
  rw [cond_false, e37, Option.bind_some]
  simp only
  rw [cond_false, e30, Option.bind_some]
  simp only
  rw [Bool.not_true, cond_false, e24, Option.bind_some]
  simp only
  rw [e25, Option.bind_some]
  simp only
  rw [if_pos hone, if_pos (show (0 : Int) ≤ 0 ∧ (0 : Int) < ((t.2.2.2.1.2.1.length : Nat) : Int) by omega), if_pos (show (0 : Int) ≤ 0 ∧ (0 : Int) < ((t.2.2.1.2.1.length : Nat) : Int) by omega)]
  rw [if_pos (by rw [hrow]; exact ⟨hr.1, by have := hr.2; show List.getD t.2.2.1.2.1 0 0 < 2; omega⟩), hv, show (List.getD [v] (Int.toNat 0) [] == v) = true from beq_self_eq_true v, cond_true, if_pos hone, if_pos (by omega)]
  rw [show (decide (bv < INF) == decide (List.getD (List.getD [v] (Int.toNat 0) []) (Int.toNat (c : Int)) 0 < 1152921504606846976)) = true from x1, cond_true, x2]
end Go.Proofs.YtdgdeckaoajceaaE
namespace Go.Proofs.Ytdgdeckaoajceaa.Pure
open Go.Proofs.YtdgdeckaoajceaaE
theorem SegEmpty (a0 : Int) (a1 : Int) (a2 : List Int) (a3 : List Int) (a4 : List Int) (a5 : Int) : (IntKind.min .i64 ≤ a0 ∧ a0 ≤ IntKind.max .i64) → (IntKind.min .i64 ≤ a1 ∧ a1 ≤ IntKind.max .i64) → (a2.length * 8 ≤ 140737488351232) → (∀ x ∈ a2, IntKind.min .i64 ≤ x ∧ x ≤ IntKind.max .i64) → (a3.length * 8 ≤ 140737488351232) → (∀ x ∈ a3, IntKind.min .i64 ≤ x ∧ x ≤ IntKind.max .i64) → (a4.length * 8 ≤ 140737488351232) → (∀ x ∈ a4, IntKind.min .i64 ≤ x ∧ x ≤ IntKind.max .i64) → (IntKind.min .i64 ≤ a5 ∧ a5 ≤ IntKind.max .i64) → ∃ k, F14 k a0 a1 a2 a3 a4 a5 = some ((true, ()), ()) := by
  intros
  exact seg_empty a0 a1 a2 a3 a4 a5
end Go.Proofs.Ytdgdeckaoajceaa.Pure
