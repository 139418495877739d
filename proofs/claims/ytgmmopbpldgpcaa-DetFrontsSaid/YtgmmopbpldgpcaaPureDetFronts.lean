/- The plain law of DetFronts. Conditions: none. -/
import Derived.Test.YtgmmopbpldgpcaaP1
set_option linter.unusedSimpArgs false
set_option linter.unusedVariables false
set_option maxRecDepth 20000
namespace Go.Proofs.YtgmmopbpldgpcaaE
theorem F5_0_ok (k : Nat) (t5 : Int) (c18 : FwdT) (z x : List Int) (se : List (List Bool)) (hse : 0 < se.length) (hsl : se.length ≤ 1000000) (hz : z.length ≤ 1000) : ∀ (d m i : Nat) (p : List Nat), i + d = z.length + 1 → d < m → p.length = i → (∀ a ∈ p, a < se.length) →
    ∃ p' : List Nat, F5_0 k m t5 (i : Int) c18 z se x (natL p) = some ((), (c18, z, x, natL p', ())) ∧ p'.length = z.length + 1 ∧ ∀ a ∈ p', a < se.length
  | 0, m, i, p, hi, hm, hp, ha => by
    obtain ⟨m, rfl⟩ := pos1 (m := m) (by omega)
    refine ⟨p, ?_, by omega, ha⟩
    simp only [F5_0]
    rw [decide_eq_false (by omega), cond_false]
  | d + 1, m, i, p, hi, hm, hp, ha => by
    obtain ⟨m, rfl⟩ := pos1 (m := m) (by omega)
    have hq0 := Int.emod_nonneg (IntKind.wrap .i64 (t5 + IntKind.wrap .i64 ((i : Int) * (i : Int)))) (show ((se.length : Nat) : Int) ≠ 0 by omega)
    have hq1 := Int.emod_lt_of_pos (IntKind.wrap .i64 (t5 + IntKind.wrap .i64 ((i : Int) * (i : Int)))) (show 0 < ((se.length : Nat) : Int) by omega)
    obtain ⟨q, hq⟩ : ∃ q : Nat, IntKind.wrap .i64 (t5 + IntKind.wrap .i64 ((i : Int) * (i : Int))) % ((se.length : Nat) : Int) = (q : Int) := ⟨_, (Int.toNat_of_nonneg hq0).symm⟩
    obtain ⟨p', e, h1, h2⟩ := F5_0_ok k t5 c18 z x se hse hsl hz d m (i + 1) (p ++ [q]) (by omega) (by omega) (by simp [hp]) (all_append ha (by omega))
    refine ⟨p', ?_, h1, h2⟩
    simp only [F5_0]
    rw [decide_eq_true (by omega), cond_true, F18_eq10 k _ _ (by omega) (by omega), Option.bind_some]
    simp only
    rw [hq, one_list, if_pos (by rw [List.length_singleton, List.length_map]; omega), wsucc i (i + 1) (by omega) (by omega), show natL p ++ [(q : Int)] = natL (p ++ [q]) from by simp [natL], e]
    rfl
theorem det_fronts (a0 : List RawT) (a1 a2 a3 a4 : List Int) (a5 : Int) (h1 : a1.length ≤ 100000000000000) (h3 : a3.length ≤ 100000000000000) (h4 : a4.length ≤ 100000000000000) : ∃ k, F5 k a0 a1 a2 a3 a4 a5 = some ((true, ()), ()) := by
  refine ⟨20000000, ?_⟩
  generalize hk : (20000000 : Nat) = k
  have hk' : 20000000 ≤ k := by omega
  have hk2 : 10000000 ≤ k := by omega
  unfold F5
  refine start10 k hk' a0 a1 a2 h1 _ _ _ fun w N M e15 hw e16 => ?_
  simp only
  rw [F17_wg k hk' hw, Option.bind_some]
  cases hq : mkM w.2.2.2.1 w.2.2.2.2.2.1 N 60 with
  | none => rfl
  | some q =>
    have mw := mkM_ok hq
    have dw := mw_dw hw mw
    have hse : 0 < q.2.2.2.length := Nat.lt_of_le_of_lt (Nat.zero_le _) (out_ok mw.m mw.z [] (fun a ha => by cases ha)).1
    have hsl := dw.hsn
    simp only [outA, bne_self_eq_false, cond_false]
    rw [hw.num, F19_dw k hk2 dw, Option.bind_some]
    cases hd : mkN w.2.2.2.2.1 w.2.2.2.1 N 80 with
    | none => rfl
    | some d =>
      have nd := mkN_ok dw.hs hd
      obtain ⟨t, x, e1, e2, hxl, hxN⟩ := letters_ok k hk' w N M hw a3 12 (by decide) h3
      obtain ⟨u, y, e3, e4, hyl, hyN⟩ := letters_ok k hk' w N M hw a4 12 (by decide) h4
      have hzN : ∀ a ∈ x ++ y, a < N := fun a ha => (List.mem_append.1 ha).elim (hxN a) (hyN a)
      have hzl : (x ++ y).length = x.length + y.length := List.length_append
      have hzn : natL x ++ natL y = natL (x ++ y) := by simp [natL]
      simp only [outD, bne_self_eq_false, cond_false]
      rw [show F23 k a3 (12 : Int) = _ from e1, Option.bind_some]
      simp only
      rw [e2, Option.bind_some]
      simp only
      rw [show F23 k a4 (12 : Int) = _ from e3, Option.bind_some]
      simp only
      rw [e4, Option.bind_some]
      simp only
      have hmx : (List.map (fun n : Nat => (n : Int)) x).length = x.length := List.length_map ..
      have hmy : (List.map (fun n : Nat => (n : Int)) y).length = y.length := List.length_map ..
      have hmz : (natL (x ++ y)).length = (x ++ y).length := List.length_map ..
      rw [List.replicate_zero, if_pos (by rw [hmx, List.length_nil]; omega), List.nil_append, if_pos (by rw [hmx, hmy]; omega), show List.map (fun n : Nat => (n : Int)) x ++ List.map (fun n : Nat => (n : Int)) y = natL (x ++ y) from hzn]
      obtain ⟨p, e5, hp1, hp2⟩ := F5_0_ok k a5 (d.2.1, (d.1.map (emW w.1.2.1 w.2.2.2.2.1 q.2.2.2), ())) (natL (x ++ y)) (natL x) q.2.2.2 hse hsl (by rw [hmz]; omega) ((natL (x ++ y)).length + 1) k 0 [] (Nat.zero_add _) (by rw [hmz]; omega) rfl (fun a ha => by cases ha)
      rw [hmz] at hp1
      rw [show ((0 : Nat) : Int) = 0 from rfl] at e5
      rw [show F5_0 k k a5 0 (d.2.1, (d.1.map (emW w.1.2.1 w.2.2.2.2.1 q.2.2.2), ())) (natL (x ++ y)) q.2.2.2 (List.map (fun n : Nat => (n : Int)) x) [] = _ from e5, Option.bind_some]
      have hnx : (natL x).length = x.length := List.length_map ..
      have hnp : (natL p).length = p.length := List.length_map ..
      have hw1 : IntKind.wrap .i64 (((x.length : Nat) : Int) + 1) = ((x.length + 1 : Nat) : Int) := wsucc x.length (x.length + 1) (by omega) (by omega)
      have hw2 : IntKind.wrap .i64 ((((x ++ y).length : Nat) : Int) + 1) = (((x ++ y).length + 1 : Nat) : Int) := wsucc (x ++ y).length ((x ++ y).length + 1) (by omega) (by omega)
      simp only
      rw [hnx, hnp, hw1, if_pos (by omega), F26_nd k hk2 nd (x ++ y) p hzN (by omega) hp1 hp2, Option.bind_some]
      simp only
      rw [show Int.toNat 0 = 0 from rfl, tnI (x.length + 1), Nat.sub_zero, List.drop_zero, show List.take (x.length + 1) (natL p) = natL (p.take (x.length + 1)) from List.map_take.symm, F26_nd k hk2 nd x (p.take (x.length + 1)) hxN (by omega) (by rw [List.length_take]; omega) (fun a ha => hp2 a (List.mem_of_mem_take ha)), Option.bind_some]
      simp only
      rw [hmz, hw2, runL_len, beq_self_eq_true, cond_true, if_pos (by omega), List.drop_zero]
      have heq : List.take (x.length + 1) (runL (stepW w.2.2.2.1 w.2.2.2.2.1) (emW w.1.2.1 w.2.2.2.2.1 q.2.2.2) (infW w.2.2.2.2.1) (x ++ y) p) = runL (stepW w.2.2.2.1 w.2.2.2.2.1) (emW w.1.2.1 w.2.2.2.2.1 q.2.2.2) (infW w.2.2.2.2.1) x (p.take (x.length + 1)) := by
        refine List.ext_getElem (by rw [List.length_take, runL_len, runL_len]; omega) fun i hi1 hi2 => ?_
        rw [runL_len] at hi2
        rw [List.getElem_take]
        simp only [runL, List.getElem_map, List.getElem_range, runV]
        rw [List.take_append_of_le_length (by omega), getD_lt p i 0 (by omega), getD_lt _ i 0 (by rw [List.length_take]; omega), List.getElem_take]
      rw [heq, F25_self k _ hk2 (by rw [runL_len]; omega), Option.bind_some]
end Go.Proofs.YtgmmopbpldgpcaaE
namespace Go.Proofs.Ytgmmopbpldgpcaa.Pure
open Go.Proofs.YtgmmopbpldgpcaaE
theorem DetFronts (a0 : List (Tree (Int × (Int × Unit)))) (a1 : List Int) (a2 : List Int) (a3 : List Int) (a4 : List Int) (a5 : Int) : (a1.length * 8 ≤ 140737488351232) → (∀ x ∈ a1, IntKind.min .i64 ≤ x ∧ x ≤ IntKind.max .i64) → (a2.length * 8 ≤ 140737488351232) → (∀ x ∈ a2, IntKind.min .i64 ≤ x ∧ x ≤ IntKind.max .i64) → (a3.length * 8 ≤ 140737488351232) → (∀ x ∈ a3, IntKind.min .i64 ≤ x ∧ x ≤ IntKind.max .i64) → (a4.length * 8 ≤ 140737488351232) → (∀ x ∈ a4, IntKind.min .i64 ≤ x ∧ x ≤ IntKind.max .i64) → (IntKind.min .i64 ≤ a5 ∧ a5 ≤ IntKind.max .i64) → ∃ k, F5 k a0 a1 a2 a3 a4 a5 = some ((true, ()), ()) := by
  intros
  exact det_fronts a0 a1 a2 a3 a4 a5 (by omega) (by omega) (by omega)
end Go.Proofs.Ytgmmopbpldgpcaa.Pure
