/- The plain law of BackSuffix. Conditions: none. -/
import Derived.Test.YtibammoednhnoaaP1
set_option linter.unusedSimpArgs false
set_option linter.unusedVariables false
set_option maxRecDepth 20000
namespace Go.Proofs.YtibammoednhnoaaE
theorem F5_0_ok (k : Nat) (A B x y : List Int) (hx : x.length ≤ 1000000) (hy : y.length ≤ 1000000) (hA : A.length = y.length + x.length + 1) (hB : B.length = x.length + 1) (h : ∀ i, i ≤ x.length → List.getD A (y.length + i) 0 = List.getD B i 0) : ∀ (d m i : Nat), i + d = x.length + 1 → d < m → F5_0 k m (i : Int) x y A B = some (.inl ((), ()))
  | 0, m, i, hi, hm => by
    obtain ⟨m, rfl⟩ := pos1 (m := m) (by omega)
    simp only [F5_0]
    rw [decide_eq_false (by omega), cond_false]
  | d + 1, m, i, hi, hm => by
    obtain ⟨m, rfl⟩ := pos1 (m := m) (by omega)
    have h1 : y.length + i < A.length := by omega
    have h2 : i < B.length := by omega
    simp only [F5_0]
    rw [decide_eq_true (show (i : Int) ≤ ((x.length : Nat) : Int) by omega), cond_true, waddN _ _ (by omega), if_pos (inR h1), if_pos (inR h2), tnI, tnI, h i (by omega)]
    simp only [bne_self_eq_false, cond_false]
    rw [wsucc i (x.length + 1) (by omega) (by omega), F5_0_ok k A B x y hx hy hA hB h d m (i + 1) (by omega) (by omega)]
    rfl
theorem back_suffix (a0 : List RawT) (a1 a2 a3 a4 : List Int) (h1 : a1.length ≤ 100000000000000) (h3 : a3.length ≤ 100000000000000) (h4 : a4.length ≤ 100000000000000) : ∃ k, F5 k a0 a1 a2 a3 a4 = some ((true, ()), ()) := by
  refine ⟨20000000, ?_⟩
  generalize hk : (20000000 : Nat) = k
  have hk' : 20000000 ≤ k := by omega
  unfold F5
  rw [F12_known k (by omega), Option.bind_some]
  simp only [Bool.not_true, cond_false]
  rcases start9 k hk' a0 a1 a2 h1 with e | ⟨e, ⟨w, e2⟩ | ⟨w, N, M, e2, hw⟩⟩
  · rw [e]; rfl
  · rw [e, Option.bind_some]
    simp only [Bool.not_true, cond_false]
    rw [e2]; rfl
  · rw [e, Option.bind_some]
    simp only [Bool.not_true, cond_false]
    rw [e2, Option.bind_some]
    simp only [Bool.not_true, cond_false]
    have hN := hw.le
    have hnr := hw.nr
    have hn4 := hw.nrules
    rw [hw.num, F16_mk k _ N M _ hk' hw.right (by omega) hN, Option.bind_some]
    cases hq : mkM w.2.2.2.1 w.2.2.2.2.2.1 N 60 with
    | none => rfl
    | some q =>
      have mw := mkM_ok hq
      have ml := mw.len
      obtain ⟨t, x, e5, e6, hx1, hx2⟩ := letters_ok k hk' w N M hw a3 15 (by omega) h3
      obtain ⟨u, y, e7, e8, hy1, hy2⟩ := letters_ok k hk' w N M hw a4 15 (by omega) h4
      have hyx : ∀ a ∈ y ++ x, a < N := fun a ha => (List.mem_append.1 ha).elim (hy2 a) (hx2 a)
      have e9 := F22_ok k (by omega) mw.m (by omega) mw.z (y ++ x) hyx (by simp; omega)
      have e10 := F22_ok k (by omega) mw.m (by omega) mw.z x hx2 (by omega)
      simp only [outA, bne_self_eq_false, cond_false]
      rw [show F21 k a3 (15 : Int) = _ from e5, Option.bind_some]
      simp only
      rw [e6, Option.bind_some]
      simp only
      rw [show F21 k a4 (15 : Int) = _ from e7, Option.bind_some]
      simp only
      rw [e8, Option.bind_some]
      simp only
      rw [if_pos (by simp; omega), if_pos (by simp; omega)]
      rw [show (List.replicate 0 (0 : Int) ++ y.map fun n : Nat => (n : Int)) ++ x.map (fun n : Nat => (n : Int)) = (y ++ x).map (fun n : Nat => (n : Int)) by simp, e9, Option.bind_some]
      simp only
      rw [e10, Option.bind_some]
      simp only
      rw [outL_len, outL_len, List.length_map, List.length_map, List.length_append]
      have hw1 : IntKind.wrap .i64 ((x.length : Int) + (y.length : Int)) = ((x.length + y.length : Nat) : Int) := waddN _ _ (by omega)
      have hw2 : IntKind.wrap .i64 (((x.length + y.length : Nat) : Int) + 1) = ((y.length + x.length + 1 : Nat) : Int) := by rw [w64 _ (by omega) (by omega)]; omega
      have hw3 : IntKind.wrap .i64 ((x.length : Int) + 1) = ((x.length + 1 : Nat) : Int) := by rw [w64 _ (by omega) (by omega)]; omega
      rw [hw1, hw2, hw3]
      simp only [bne_self_eq_false, cond_false]
      have e11 := F5_0_ok k (outL (stepL w.2.2.2.1 w.2.2.2.2.2.1) (holdL w.2.2.2.2.2.1) q.2.2.2 (zeroL w.2.2.2.2.2.1) (y ++ x)) (outL (stepL w.2.2.2.1 w.2.2.2.2.2.1) (holdL w.2.2.2.2.2.1) q.2.2.2 (zeroL w.2.2.2.2.2.1) x) (x.map fun n : Nat => (n : Int)) (y.map fun n : Nat => (n : Int)) (by simp; omega) (by simp; omega) (by rw [outL_len]; simp) (by rw [outL_len]; simp) (fun i hi => by
        have hi' : i ≤ x.length := by simpa using hi
        rw [List.length_map, outL_get _ (by simp; omega), outL_get _ hi']
        unfold outV
        rw [← List.drop_drop, List.drop_left]) (x.length + 1) k 0 (by simp) (by omega)
      rw [show ((0 : Nat) : Int) = 0 from rfl] at e11
      rw [e11, Option.bind_some]
end Go.Proofs.YtibammoednhnoaaE
namespace Go.Proofs.Ytibammoednhnoaa.Pure
open Go.Proofs.YtibammoednhnoaaE
theorem BackSuffix (a0 : List (Tree (Int × (Int × Unit)))) (a1 : List Int) (a2 : List Int) (a3 : List Int) (a4 : List Int) : (a1.length * 8 ≤ 140737488351232) → (∀ x ∈ a1, IntKind.min .i64 ≤ x ∧ x ≤ IntKind.max .i64) → (a2.length * 8 ≤ 140737488351232) → (∀ x ∈ a2, IntKind.min .i64 ≤ x ∧ x ≤ IntKind.max .i64) → (a3.length * 8 ≤ 140737488351232) → (∀ x ∈ a3, IntKind.min .i64 ≤ x ∧ x ≤ IntKind.max .i64) → (a4.length * 8 ≤ 140737488351232) → (∀ x ∈ a4, IntKind.min .i64 ≤ x ∧ x ≤ IntKind.max .i64) → ∃ k, F5 k a0 a1 a2 a3 a4 = some ((true, ()), ()) := by
  intros
  exact back_suffix a0 a1 a2 a3 a4 (by omega) (by omega) (by omega)
end Go.Proofs.Ytibammoednhnoaa.Pure
