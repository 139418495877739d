/- The plain law of BackEnd. Conditions: none. -/
import Derived.Test.YtibammoednhnoaaP1
set_option linter.unusedSimpArgs false
set_option linter.unusedVariables false
set_option maxRecDepth 20000
namespace Go.Proofs.YtibammoednhnoaaE
/-- What holds of a side at a state. -/
theorem holdL_get {ss : List SideT} {L : Live} (hL : Shp ss L) (i : Nat) (hi : i < ss.length) : List.getD (holdL ss L) i false = holdS ss[i] (List.getD L i []) := by
  have hl := shp_len hL
  have h2 : i < (holdL ss L).length := by rw [holdL_len hL]; exact hi
  rw [getD_lt _ _ _ h2, getD_lt L i [] (by omega)]
  simp [holdL]
theorem holdS_none {s : SideT} {r : List Bool} (h : s.2.2.2.2.1 < INF1) : holdS s r = true := by
  unfold holdS
  rw [decide_eq_true h, Bool.true_or]
theorem holdS_zero {s : SideT} {n : Nat} : holdS s (List.replicate n false) = decide (s.2.2.2.2.1 < INF1) := by
  unfold holdS
  have : (List.range s.1.length).any (hitP s (List.replicate n false)) = false := by
    refine List.any_eq_false.2 fun p _ => ?_
    unfold hitP
    have : List.getD (List.replicate n false) p false = false := by
      rw [List.getD_eq_getElem?_getD, List.getElem?_replicate]
      split <;> rfl
    rw [this]
    simp
  rw [this, Bool.or_false]
theorem F9_0_ok (k : Nat) (w : WorT) (i xl : Nat) (x' : List Int) (hx' : x'.length = xl) (p : List Int) (se : List (List Bool)) (t : Nat) (hip : i < p.length) (hp : List.getD p i 0 = (t : Int)) (ht : t < se.length) (hse : (List.getD se t []).length = w.2.2.2.2.2.1.length) (hn : w.2.2.2.2.2.1.length ≤ 1000) (ha : ∀ j, j < w.2.2.2.2.2.1.length → (List.getD w.2.2.2.2.2.1 j side0).2.2.2.2.1 < INF1 → List.getD (List.getD se t []) j false = true)
    (hb : i = xl → ∀ j, j < w.2.2.2.2.2.1.length → List.getD (List.getD se t []) j false = decide ((List.getD w.2.2.2.2.2.1 j side0).2.2.2.2.1 < INF1)) (t74 t76 t78 : Int) (t79 : Bool) (t84 t86 t89 t92 : Int) (t93 : Bool) : ∀ (d m j : Nat), j + d = w.2.2.2.2.2.1.length → d < m →
    F9_0 k m (i : Int) (j : Int) t74 t76 t78 t79 t84 t86 t89 t92 t93 w se x' p = some (.inl (((i : Int), t74, t76, t78, t79, t84, t86, t89, t92, t93, ()), (w, se, x', p, ())))
  | 0, m, j, hj, hm => by
    obtain ⟨m, rfl⟩ := pos1 (m := m) (by omega)
    simp only [F9_0]
    rw [decide_eq_false (by omega), cond_false]
  | d + 1, m, j, hj, hm => by
    obtain ⟨m, rfl⟩ := pos1 (m := m) (by omega)
    have hlt : j < w.2.2.2.2.2.1.length := by omega
    have hlt2 : j < (List.getD se t []).length := by omega
    have ih := F9_0_ok k w i xl x' hx' p se t hip hp ht hse hn ha hb t74 t76 t78 t79 t84 t86 t89 t92 t93 d m (j + 1) (by omega) (by omega)
    simp only [F9_0]
    rw [dlt hlt, cond_true, if_pos (inR hlt), tnI, hx', if_pos (inR hip), tnI, hp, if_pos (inR ht), tnI, if_pos (inR hlt2), wsucc j _ hlt (by omega)]
    have hz : ∀ n : Int, n = (List.getD w.2.2.2.2.2.1 j side0).2.2.2.2.1 → n = (List.getD w.2.2.2.2.2.1 j (([] : (List Int)), (([] : (List Int)), (([] : (List Int)), (([] : (List (Int × (Int × (Int × Unit))))), ((0 : Int), ())))))).2.2.2.2.1 := fun n h => h
    have haj := ha j hlt
    by_cases h : (List.getD w.2.2.2.2.2.1 j side0).2.2.2.2.1 < INF1
    · rw [decide_eq_true h, cond_true, haj h, Bool.not_true, cond_false]
      by_cases hi : i = xl
      · rw [show (((i : Nat) : Int) == ((xl : Nat) : Int)) = true by rw [hi]; simp, cond_true]
        simp only [BEq.rfl, Bool.not_true, cond_false]
        rw [if_pos (inR hip), if_pos (inR ht), if_pos (inR hlt2), ih]; rfl
      · rw [show (((i : Nat) : Int) == ((xl : Nat) : Int)) = false from beq_false_of_ne (by omega), cond_false, ih]; rfl
    · rw [decide_eq_false h, cond_false]
      by_cases hi : i = xl
      · have hbj := hb hi j hlt
        rw [decide_eq_false h] at hbj
        rw [show (((i : Nat) : Int) == ((xl : Nat) : Int)) = true by rw [hi]; simp, cond_true, if_pos (inR hip), if_pos (inR ht), if_pos (inR hlt2), hbj]
        simp only [BEq.rfl, Bool.not_true, cond_false]
        rw [ih]; rfl
      · rw [show (((i : Nat) : Int) == ((xl : Nat) : Int)) = false from beq_false_of_ne (by omega), cond_false, ih]; rfl
theorem stepL_nil {I : InT} {ss : List SideT} {x : List Nat} {i : Nat} (hi : i = x.length) : stR (stepL I ss) (zeroL ss) (x.drop i) = zeroL ss := by
  rw [hi, List.drop_length]
  rfl
theorem F9_1_ok (k : Nat) (hk : 10000000 ≤ k) (w : WorT) (I : InT) (N : Nat) (b : Int) (q : QT) (mw : MW I w.2.2.2.2.2.1 N b q) (hn : w.2.2.2.2.2.1.length ≤ 1000) (x : List Nat) (hx : ∀ a ∈ x, a < N) (hxl : x.length ≤ 1000000) : ∀ (d m i : Nat), i + d = x.length + 1 → d < m →
    F9_1 k m (i : Int) w q.2.2.2 (x.map fun n : Nat => (n : Int)) (outL (stepL I w.2.2.2.2.2.1) (holdL w.2.2.2.2.2.1) q.2.2.2 (zeroL w.2.2.2.2.2.1) x) = some (.inl ((), ()))
  | 0, m, i, hi, hm => by
    obtain ⟨m, rfl⟩ := pos1 (m := m) (by omega)
    simp only [F9_1]
    rw [decide_eq_false (by rw [outL_len]; omega), cond_false]
  | d + 1, m, i, hi, hm => by
    obtain ⟨m, rfl⟩ := pos1 (m := m) (by omega)
    have hlt : i < (outL (stepL I w.2.2.2.2.2.1) (holdL w.2.2.2.2.2.1) q.2.2.2 (zeroL w.2.2.2.2.2.1) x).length := by rw [outL_len]; omega
    have hxd : ∀ a ∈ x.drop i, a < N := fun a ha => hx a (List.mem_of_mem_drop ha)
    obtain ⟨o1, o2⟩ := out_ok mw.m mw.z (x.drop i) hxd
    have hg := outL_get (step := stepL I w.2.2.2.2.2.1) (hold := holdL w.2.2.2.2.2.1) (se := q.2.2.2) (z := zeroL w.2.2.2.2.2.1) x (i := i) (by omega)
    unfold outV at hg
    have hshp := stR_shp (I := I) (ss := w.2.2.2.2.2.1) (x.drop i)
    have hlen : (List.getD q.2.2.2 (ix q.2.2.2 (holdL w.2.2.2.2.2.1 (stR (stepL I w.2.2.2.2.2.1) (zeroL w.2.2.2.2.2.1) (x.drop i)))) []).length = w.2.2.2.2.2.1.length := by rw [o2, holdL_len hshp]
    have e := fun t74 t76 t78 t79 t84 t86 t89 t92 t93 => F9_0_ok k w i x.length (x.map fun n : Nat => (n : Int)) (by simp) _ q.2.2.2 _ hlt hg o1 hlen hn (fun j hj h => by
        rw [o2, holdL_get hshp j hj]
        rw [getD_lt _ _ _ hj] at h
        exact holdS_none h) (fun hix j hj => by
        rw [o2, stepL_nil hix, holdL_get (zeroL_shp _) j hj, getD_lt _ _ _ hj]
        have : List.getD (zeroL w.2.2.2.2.2.1) j [] = List.replicate (w.2.2.2.2.2.1[j]).1.length false := by
          rw [getD_lt _ _ _ (by simpa [zeroL] using hj)]
          simp [zeroL]
        rw [this, holdS_zero]) t74 t76 t78 t79 t84 t86 t89 t92 t93 w.2.2.2.2.2.1.length k 0 (Nat.zero_add _) (by omega)
    rw [show ((0 : Nat) : Int) = 0 from rfl] at e
    have ih := F9_1_ok k hk w I N b q mw hn x hx hxl d m (i + 1) (by omega) (by omega)
    generalize hP : outL (stepL I w.2.2.2.2.2.1) (holdL w.2.2.2.2.2.1) q.2.2.2 (zeroL w.2.2.2.2.2.1) x = p at *
    generalize ix q.2.2.2 (holdL w.2.2.2.2.2.1 (stR (stepL I w.2.2.2.2.2.1) (zeroL w.2.2.2.2.2.1) (x.drop i))) = t at *
    simp only [F9_1]
    rw [dlt hlt, cond_true, if_pos (inR hlt), tnI, hg, decide_eq_false (show ¬ ((t : Nat) : Int) < 0 by omega), cond_false, if_pos (inR hlt), decide_eq_false (show ¬ ((t : Nat) : Int) ≥ ((List.length q.2.2.2 : Nat) : Int) by omega), cond_false, if_pos (inR hlt), if_pos (inR o1), tnI, hlen]
    simp only [bne_self_eq_false, cond_false]
    rw [e, Option.bind_some]
    simp only
    rw [wsucc i p.length hlt (by rw [← hP, outL_len]; omega), ih]
    rfl
theorem back_end (a0 : List RawT) (a1 a2 a3 : List Int) (h1 : a1.length ≤ 100000000000000) (h3 : a3.length ≤ 100000000000000) : ∃ k, F9 k a0 a1 a2 a3 = some ((true, ()), ()) := by
  refine ⟨20000000, ?_⟩
  generalize hk : (20000000 : Nat) = k
  have hk' : 20000000 ≤ k := by omega
  unfold F9
  rw [F12_known k (by omega), Option.bind_some]
  simp only [Bool.not_true, cond_false]
  rcases start9 k hk' a0 a1 a2 h1 with e | ⟨e, ⟨w, e2⟩ | ⟨w, N, M, e2, hw⟩⟩
  · rw [e]; rfl
  · rw [e, Option.bind_some]
    simp only [Bool.not_true, cond_false]
    rw [e2]; rfl
  · rw [e, Option.bind_some]
    simp only [Bool.not_true, cond_false]
    rw [e2, Option.bind_some]
    simp only [Bool.not_true, cond_false]
    have hN := hw.le
    have hnr := hw.nr
    have hn4 := hw.nrules
    rw [hw.num, F16_mk k _ N M _ hk' hw.right (by omega) hN, Option.bind_some]
    cases hq : mkM w.2.2.2.1 w.2.2.2.2.2.1 N 60 with
    | none => rfl
    | some q =>
      have mw := mkM_ok hq
      have ml := mw.len
      obtain ⟨t, x, e5, e6, hx1, hx2⟩ := letters_ok k hk' w N M hw a3 15 (by omega) h3
      have e10 := F22_ok k (by omega) mw.m (by omega) mw.z x hx2 (by omega)
      have e11 := F9_1_ok k (by omega) w w.2.2.2.1 N 60 q mw (by omega) x hx2 (by omega) (x.length + 1) k 0 (Nat.zero_add _) (by omega)
      rw [show ((0 : Nat) : Int) = 0 from rfl] at e11
      simp only [outA, bne_self_eq_false, cond_false]
      rw [show F21 k a3 (15 : Int) = _ from e5, Option.bind_some]
      simp only
      rw [e6, Option.bind_some]
      simp only
      rw [e10, Option.bind_some]
      simp only
      have hw3 : IntKind.wrap .i64 ((x.length : Int) + 1) = ((x.length + 1 : Nat) : Int) := by rw [w64 _ (by omega) (by omega)]; omega
      rw [outL_len, List.length_map, hw3]
      simp only [bne_self_eq_false, cond_false]
      rw [e11, Option.bind_some]
end Go.Proofs.YtibammoednhnoaaE
namespace Go.Proofs.Ytibammoednhnoaa.Pure
open Go.Proofs.YtibammoednhnoaaE
theorem BackEnd (a0 : List (Tree (Int × (Int × Unit)))) (a1 : List Int) (a2 : List Int) (a3 : List Int) : (a1.length * 8 ≤ 140737488351232) → (∀ x ∈ a1, IntKind.min .i64 ≤ x ∧ x ≤ IntKind.max .i64) → (a2.length * 8 ≤ 140737488351232) → (∀ x ∈ a2, IntKind.min .i64 ≤ x ∧ x ≤ IntKind.max .i64) → (a3.length * 8 ≤ 140737488351232) → (∀ x ∈ a3, IntKind.min .i64 ≤ x ∧ x ≤ IntKind.max .i64) → ∃ k, F9 k a0 a1 a2 a3 = some ((true, ()), ()) := by
  intros
  exact back_end a0 a1 a2 a3 (by omega) (by omega)
end Go.Proofs.Ytibammoednhnoaa.Pure
