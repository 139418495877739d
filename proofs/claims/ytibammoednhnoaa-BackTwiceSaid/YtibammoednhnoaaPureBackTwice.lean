/- The plain law of BackTwice. Conditions: none. -/
import Derived.Test.YtibammoednhnoaaP1
set_option linter.unusedSimpArgs false
set_option linter.unusedVariables false
set_option maxRecDepth 20000
namespace Go.Proofs.YtibammoednhnoaaE
theorem F8_0_ok (k : Nat) (hk : 10000000 ≤ k) (A : List (List Bool)) (n : Nat) (hn : n ≤ 1000000) (hl : A.length ≤ 1000000) (hr : ∀ r ∈ A, r.length = n) : ∀ (d m i : Nat), i + d = A.length → d < m → F8_0 k m (i : Int) A (A.map fun h => h ++ h) = some (.inl ((), ()))
  | 0, m, i, hi, hm => by
    obtain ⟨m, rfl⟩ := pos1 (m := m) (by omega)
    simp only [F8_0]
    rw [decide_eq_false (by omega), cond_false]
  | d + 1, m, i, hi, hm => by
    obtain ⟨m, rfl⟩ := pos1 (m := m) (by omega)
    have hlt : i < A.length := by omega
    have hlt2 : i < (A.map fun h => h ++ h).length := by simpa using hlt
    have hri := hr _ (List.getElem_mem hlt)
    have hg : List.getD (A.map fun h => h ++ h) i [] = A[i] ++ A[i] := by rw [getD_lt _ _ _ hlt2, List.getElem_map]
    simp only [F8_0]
    rw [dlt hlt, cond_true, if_pos (inR hlt2), if_pos (inR hlt), if_pos (inR hlt), tnI, getD_lt _ _ _ hlt, hg]
    have e0 : List.replicate 0 false ++ A[i] = A[i] := rfl
    rw [e0, if_pos (by simp; omega), if_pos (by omega), F25_ok k _ _ hk (by simp; omega), Option.bind_some]
    simp only [decide_true, Bool.not_true, cond_false]
    rw [wsucc i _ hlt (by omega), F8_0_ok k hk A n hn hl hr d m (i + 1) (by omega) (by omega)]
    rfl
theorem app_self {α : Type} {x y : List α} (h : x ++ x = y ++ y) : x = y := by
  have hl := congrArg List.length h
  simp only [List.length_append] at hl
  exact (List.append_inj h (by omega)).1
theorem mkM_twice (I : InT) (ss : List SideT) (N : Nat) (b : Int) : mkM I (ss ++ ss) N b = (mkM I ss N b).map fun q => (q.1.map fun L => L ++ L, q.2.1, q.2.2.1, q.2.2.2.map fun h => h ++ h) := by
  unfold mkM
  have := mkA_map (step := stepL I ss) (hold := holdL ss) (d0 := ([] : Live)) (N := N) (step2 := stepL I (ss ++ ss)) (hold2 := holdL (ss ++ ss)) (e0 := ([] : Live)) (B := minI b 100000) (φ := fun L => L ++ L) (ψ := fun h => h ++ h) (P := Shp ss)
    (fun x y _ _ e => app_self e) (fun x y e => app_self e) (fun x a hx _ => by
      refine ⟨?_, stepL_shp hx⟩
      unfold stepL
      rw [List.zipWith_append (shp_len hx).symm]) (fun x hx => by
      unfold holdL
      rw [List.zipWith_append (shp_len hx).symm]) ((minI b 100000).toNat + 2) 0 [zeroL ss] [] [] [] (fun x hx => by rw [List.mem_singleton.1 hx]; exact zeroL_shp ss)
  rw [← this]
  have hz : zeroL (ss ++ ss) = zeroL ss ++ zeroL ss := by simp [zeroL]
  rw [hz]
  rfl
theorem back_twice (a0 : List RawT) (a1 a2 : List Int) (h1 : a1.length ≤ 100000000000000) : ∃ k, F8 k a0 a1 a2 = some ((true, ()), ()) := by
  refine ⟨20000000, ?_⟩
  generalize hk : (20000000 : Nat) = k
  have hk' : 20000000 ≤ k := by omega
  unfold F8
  rw [F12_known k (by omega), Option.bind_some]
  simp only [Bool.not_true, cond_false]
  rcases start9 k hk' a0 a1 a2 h1 with e | ⟨e, ⟨w, e2⟩ | ⟨w, N, M, e2, hw⟩⟩
  · rw [e]; rfl
  · rw [e, Option.bind_some]
    simp only [Bool.not_true, cond_false]
    rw [e2]; rfl
  · rw [e, Option.bind_some]
    simp only [Bool.not_true, cond_false]
    rw [e2, Option.bind_some]
    simp only [Bool.not_true, cond_false]
    have hN := hw.le
    have hnr := hw.nr
    have hn4 := hw.nrules
    have hss : ∀ s ∈ w.2.2.2.2.2.1 ++ w.2.2.2.2.2.1, SideW w.2.2.2.1 N M s := fun s hs => (List.mem_append.1 hs).elim (hw.right s) (hw.right s)
    have hx9 : ∀ z : SideT, List.replicate 0 z = [] := fun z => rfl
    rw [hw.num, F16_mk k _ N M _ hk' hw.right (by omega) hN, Option.bind_some, hx9, List.nil_append, if_pos (by simp; omega), if_pos (by omega), F16_mk k _ N M _ hk' hss (by simp; omega) hN, Option.bind_some, mkM_twice]
    cases hq : mkM w.2.2.2.1 w.2.2.2.2.2.1 N 60 with
    | none =>
      simp only [Option.map_none, outA, bne_self_eq_false, cond_false]
      rw [F18_self k _ (by omega) (by simp) (fun r hr => by cases hr) (by simp), Option.bind_some]
      simp only [Bool.not_true, cond_false, bne_self_eq_false]
      obtain ⟨k, rfl⟩ := pos1 (m := k) (by omega)
      rfl
    | some q =>
      have mw := mkM_ok hq
      have ml := mw.len
      obtain ⟨s1, s2, s3, s4, s5⟩ := mw.small (by omega) (by omega)
      simp only [Option.map_some, outA, bne_self_eq_false, cond_false]
      rw [F18_self k _ (by omega) s2 s1 s3, Option.bind_some]
      simp only [Bool.not_true, cond_false, List.length_map, bne_self_eq_false]
      have e5 := F8_0_ok k (by omega) q.2.2.2 _ (by omega) s4 s5 q.2.2.2.length k 0 (Nat.zero_add _) (by omega)
      rw [show ((0 : Nat) : Int) = 0 from rfl] at e5
      rw [e5, Option.bind_some]
end Go.Proofs.YtibammoednhnoaaE
namespace Go.Proofs.Ytibammoednhnoaa.Pure
open Go.Proofs.YtibammoednhnoaaE
theorem BackTwice (a0 : List (Tree (Int × (Int × Unit)))) (a1 : List Int) (a2 : List Int) : (a1.length * 8 ≤ 140737488351232) → (∀ x ∈ a1, IntKind.min .i64 ≤ x ∧ x ≤ IntKind.max .i64) → (a2.length * 8 ≤ 140737488351232) → (∀ x ∈ a2, IntKind.min .i64 ≤ x ∧ x ≤ IntKind.max .i64) → ∃ k, F8 k a0 a1 a2 = some ((true, ()), ()) := by
  intros
  exact back_twice a0 a1 a2 (by omega)
end Go.Proofs.Ytibammoednhnoaa.Pure
