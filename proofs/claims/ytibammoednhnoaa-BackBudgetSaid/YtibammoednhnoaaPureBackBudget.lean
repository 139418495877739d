/- The plain law of BackBudget. Conditions: none. -/
import Derived.Test.YtibammoednhnoaaP1
set_option linter.unusedSimpArgs false
set_option linter.unusedVariables false
set_option maxRecDepth 20000
namespace Go.Proofs.YtibammoednhnoaaE
theorem F6_0_ok (k : Nat) (hk : 10000000 ≤ k) (t17 t20 : Int) (l : List (List Bool)) (hn : l.Nodup) (hl : l.length ≤ 1000000) (hr : ∀ r ∈ l, r.length ≤ 5000000) (i : Nat) (hi : i < l.length) : ∀ (d m j : Nat), j + d = i → d < m → F6_0 k m t17 t20 (i : Int) (j : Int) l = some (.inl ((t17, t20, (i : Int), ()), (l, ())))
  | 0, m, j, hj, hm => by
    obtain ⟨m, rfl⟩ := pos1 (m := m) (by omega)
    simp only [F6_0]
    rw [decide_eq_false (by omega), cond_false]
  | d + 1, m, j, hj, hm => by
    obtain ⟨m, rfl⟩ := pos1 (m := m) (by omega)
    have hlt : j < l.length := by omega
    simp only [F6_0]
    rw [decide_eq_true (show (j : Int) < (i : Int) by omega), cond_true, if_pos (inR hi), if_pos (inR hlt), tnI, tnI, getD_lt _ _ _ hi, getD_lt _ _ _ hlt, F25_ok k _ _ hk (hr _ (List.getElem_mem hi)), Option.bind_some, wsucc j i (by omega) (by omega)]
    have hne : ¬ l[i] = l[j] := fun e => by have := (List.getElem_inj hn).1 e; omega
    simp only [hne, decide_false, cond_false]
    rw [F6_0_ok k hk t17 t20 l hn hl hr i hi d m (j + 1) (by omega) (by omega)]
    rfl
theorem F6_1_ok (k : Nat) (hk : 10000000 ≤ k) (t17 t20 : Int) (l : List (List Bool)) (hn : l.Nodup) (hl : l.length ≤ 1000000) (hr : ∀ r ∈ l, r.length ≤ 5000000) : ∀ (d m i : Nat), i + d = l.length → d < m → F6_1 k m t17 t20 (i : Int) l = some (.inl ((t17, t20, ()), ()))
  | 0, m, i, hi, hm => by
    obtain ⟨m, rfl⟩ := pos1 (m := m) (by omega)
    simp only [F6_1]
    rw [decide_eq_false (by omega), cond_false]
  | d + 1, m, i, hi, hm => by
    obtain ⟨m, rfl⟩ := pos1 (m := m) (by omega)
    have hlt : i < l.length := by omega
    have e := F6_0_ok k hk t17 t20 l hn hl hr i hlt i k 0 (by omega) (by omega)
    rw [show ((0 : Nat) : Int) = 0 from rfl] at e
    simp only [F6_1]
    rw [dlt hlt, cond_true, e, Option.bind_some]
    simp only
    rw [wsucc i _ hlt (by omega), F6_1_ok k hk t17 t20 l hn hl hr d m (i + 1) (by omega) (by omega)]
    rfl
theorem minI_le {b : Int} (h : b ≤ 100000) : minI b 100000 = b := by unfold minI; split <;> omega
theorem back_budget (a0 : List RawT) (a1 a2 : List Int) (a3 : Int) (h1 : a1.length ≤ 100000000000000) : ∃ k, F6 k a0 a1 a2 a3 = some ((true, ()), ()) := by
  refine ⟨20000000, ?_⟩
  generalize hk : (20000000 : Nat) = k
  have hk' : 20000000 ≤ k := by omega
  unfold F6
  rw [F12_known k (by omega), Option.bind_some]
  simp only [Bool.not_true, cond_false]
  rcases start9 k hk' a0 a1 a2 h1 with e | ⟨e, ⟨w, e2⟩ | ⟨w, N, M, e2, hw⟩⟩
  · rw [e]; rfl
  · rw [e, Option.bind_some]
    simp only [Bool.not_true, cond_false]
    rw [e2]; rfl
  · rw [e, Option.bind_some]
    simp only [Bool.not_true, cond_false]
    rw [e2, Option.bind_some]
    simp only [Bool.not_true, cond_false]
    have hN := hw.le
    have hnr := hw.nr
    have hn4 := hw.nrules
    rw [hw.num, F16_mk k _ N M _ hk' hw.right (by omega) hN, Option.bind_some]
    cases hq : mkM w.2.2.2.1 w.2.2.2.2.2.1 N 60 with
    | none => rfl
    | some q =>
      have mw := mkM_ok hq
      have mle := mw.le
      rw [minI_le (by decide)] at mle
      have h0 : 0 < q.1.length := (List.getElem?_eq_some_iff.1 mw.z).1
      obtain ⟨s1, s2, s3, s4, s5⟩ := mw.small (by omega) (by omega)
      have hv0 : 0 ≤ a3 % 4 := Int.emod_nonneg _ (by decide)
      have hv1 : a3 % 4 < 4 := Int.emod_lt_of_pos _ (by decide)
      have q1 : mkM w.2.2.2.1 w.2.2.2.2.2.1 N (q.1.length : Int) = some q := by
        unfold mkM at hq ⊢
        rw [minI_le (by omega)]
        exact (mkA_more _ _ _ _ _ _ _ hq (Nat.zero_le _) (Int.le_refl _) (by omega)).2
      have q2 : mkM w.2.2.2.1 w.2.2.2.2.2.1 N ((q.1.length : Int) - 1 - a3 % 4) = none := by
        unfold mkM at hq ⊢
        rw [minI_le (by omega)]
        exact mkA_less _ _ _ _ _ _ _ hq h0 (Nat.zero_le _) (by omega)
      have e3 := F16_mk k w.2.2.2.1 N M _ hk' hw.right (by omega) hN (q.1.length : Int)
      have e4 := F16_mk k w.2.2.2.1 N M _ hk' hw.right (by omega) hN ((q.1.length : Int) - 1 - a3 % 4)
      rw [q1] at e3
      rw [q2] at e4
      have hnl := mw.m.nl
      simp only [outA, bne_self_eq_false, cond_false]
      rw [hnl, e3, Option.bind_some, F15_eq k a3 4 (by decide) (by decide), Option.bind_some]
      simp only
      rw [w64 ((q.1.length : Int) - 1) (by omega) (by omega), w64 ((q.1.length : Int) - 1 - a3 % 4) (by omega) (by omega), e4, Option.bind_some]
      have e5 := F6_1_ok k (by omega) 0 4 q.2.2.2 mw.m.sd s4 (fun r hr => by rw [s5 r hr]; omega) q.2.2.2.length k 0 (Nat.zero_add _) (by omega)
      rw [show ((0 : Nat) : Int) = 0 from rfl] at e5
      simp only [outA]
      rw [e5, Option.bind_some]
      rfl
end Go.Proofs.YtibammoednhnoaaE
namespace Go.Proofs.Ytibammoednhnoaa.Pure
open Go.Proofs.YtibammoednhnoaaE
theorem BackBudget (a0 : List (Tree (Int × (Int × Unit)))) (a1 : List Int) (a2 : List Int) (a3 : Int) : (a1.length * 8 ≤ 140737488351232) → (∀ x ∈ a1, IntKind.min .i64 ≤ x ∧ x ≤ IntKind.max .i64) → (a2.length * 8 ≤ 140737488351232) → (∀ x ∈ a2, IntKind.min .i64 ≤ x ∧ x ≤ IntKind.max .i64) → (IntKind.min .i64 ≤ a3 ∧ a3 ≤ IntKind.max .i64) → ∃ k, F6 k a0 a1 a2 a3 = some ((true, ()), ()) := by
  intros
  exact back_budget a0 a1 a2 a3 (by omega)
end Go.Proofs.Ytibammoednhnoaa.Pure
