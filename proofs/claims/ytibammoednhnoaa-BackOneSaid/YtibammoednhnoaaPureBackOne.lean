/- The plain law of BackOne. Conditions: none. -/
import Derived.Test.YtibammoednhnoaaP1
set_option linter.unusedSimpArgs false
set_option linter.unusedVariables false
set_option maxRecDepth 20000
namespace Go.Proofs.YtibammoednhnoaaE
section
variable {I : InT} {ss : List SideT} {i : Nat}
theorem stepL_one {L : Live} {a : Nat} (hL : Shp ss L) (hi : i < ss.length) : stepL I [ss[i]] [List.getD L i []] a = [List.getD (stepL I ss L a) i []] := by
  have hl := shp_len hL
  have h2 : i < (stepL I ss L a).length := by rw [shp_len (stepL_shp hL)]; exact hi
  rw [getD_lt _ _ _ h2, getD_lt L i [] (by omega)]
  simp [stepL]
theorem zeroL_one (hi : i < ss.length) : zeroL [ss[i]] = [List.getD (zeroL ss) i []] := by
  rw [getD_lt _ _ _ (by simpa [zeroL] using hi)]
  simp [zeroL]
theorem stR_one (hi : i < ss.length) : ∀ (x : List Nat), stR (stepL I [ss[i]]) (zeroL [ss[i]]) x = [List.getD (stR (stepL I ss) (zeroL ss) x) i []]
  | [] => zeroL_one hi
  | a :: x => by
    show stepL I [ss[i]] (stR (stepL I [ss[i]]) (zeroL [ss[i]]) x) a = _
    rw [stR_one hi x, stepL_one (stR_shp x) hi]
    rfl
theorem holdL_one {L : Live} (hL : Shp ss L) (hi : i < ss.length) : holdL [ss[i]] [List.getD L i []] = [List.getD (holdL ss L) i false] := by
  have hl := shp_len hL
  rw [getD_lt (holdL ss L) _ _ (by rw [holdL_len hL]; exact hi), getD_lt L i [] (by omega)]
  simp [holdL]
/-- Of one side there are no more states than of all. -/
theorem mkM_one {N : Nat} {b : Int} {q : QT} (hq : mkM I ss N b = some q) (hi : i < ss.length) : ∃ q', mkM I [ss[i]] N b = some q' ∧ q'.1.length ≤ q.1.length := by
  have mw := mkM_ok hq
  have hle := mw.le
  have hl : (q.1.map fun L => [List.getD L i []]).length = q.1.length := List.length_map _
  have := mkA_closed (step := stepL I [ss[i]]) (hold := holdL [ss[i]]) (d0 := ([] : Live)) (N := N) (B := minI b 100000) (q.1.map fun L => [List.getD L i []]) (fun x hx a ha => by
      obtain ⟨L, hL, rfl⟩ := List.mem_map.1 hx
      obtain ⟨t, ht, e⟩ := List.mem_iff_getElem.1 hL
      obtain ⟨r, _, _, h3⟩ := mw.m.rows t L ht (by rw [List.getElem?_eq_getElem ht, e])
      obtain ⟨u, _, h5⟩ := h3 a ha
      refine List.mem_map.2 ⟨_, List.mem_of_getElem? h5, ?_⟩
      rw [stepL_one (mw.shp L hL) hi]) (by rw [hl]; exact hle) ((minI b 100000).toNat + 2) 0 [zeroL [ss[i]]] [] [] [] (mach0 _) (fun x hx => by
      rw [List.mem_singleton.1 hx]
      exact List.mem_map.2 ⟨_, List.mem_of_getElem? mw.z, (zeroL_one hi).symm⟩) (by rw [hl]; omega)
  rw [hl] at this
  exact this
end
theorem F7_0_ok (k : Nat) (w : WorT) (c14 c17 : BackT) (I : InT) (N : Nat) (b b' : Int) (q q' : QT) (kk : Nat) (hkk : kk < w.2.2.2.2.2.1.length) (mw : MW I w.2.2.2.2.2.1 N b q) (mv : MW I [w.2.2.2.2.2.1[kk]] N b' q') (x : List Nat) (hx : ∀ a ∈ x, a < N) (hxl : x.length ≤ 1000000) : ∀ (d m i : Nat), i + d = x.length + 1 → d < m →
    F7_0 k m (kk : Int) (i : Int) w c14 c17 q.2.2.2 q'.2.2.2 (outL (stepL I w.2.2.2.2.2.1) (holdL w.2.2.2.2.2.1) q.2.2.2 (zeroL w.2.2.2.2.2.1) x) (outL (stepL I [w.2.2.2.2.2.1[kk]]) (holdL [w.2.2.2.2.2.1[kk]]) q'.2.2.2 (zeroL [w.2.2.2.2.2.1[kk]]) x) = some (.inl ((), (c14, c17, ())))
  | 0, m, i, hi, hm => by
    obtain ⟨m, rfl⟩ := pos1 (m := m) (by omega)
    simp only [F7_0]
    rw [decide_eq_false (by rw [outL_len]; omega), cond_false]
  | d + 1, m, i, hi, hm => by
    obtain ⟨m, rfl⟩ := pos1 (m := m) (by omega)
    have hlt : i < (outL (stepL I w.2.2.2.2.2.1) (holdL w.2.2.2.2.2.1) q.2.2.2 (zeroL w.2.2.2.2.2.1) x).length := by rw [outL_len]; omega
    have hlt2 : i < (outL (stepL I [w.2.2.2.2.2.1[kk]]) (holdL [w.2.2.2.2.2.1[kk]]) q'.2.2.2 (zeroL [w.2.2.2.2.2.1[kk]]) x).length := by rw [outL_len]; omega
    have hxd : ∀ a ∈ x.drop i, a < N := fun a ha => hx a (List.mem_of_mem_drop ha)
    obtain ⟨o1, o2⟩ := out_ok mw.m mw.z (x.drop i) hxd
    obtain ⟨v1, v2⟩ := out_ok mv.m mv.z (x.drop i) hxd
    have hg := outL_get (step := stepL I w.2.2.2.2.2.1) (hold := holdL w.2.2.2.2.2.1) (se := q.2.2.2) (z := zeroL w.2.2.2.2.2.1) x (i := i) (by omega)
    have hg2 := outL_get (step := stepL I [w.2.2.2.2.2.1[kk]]) (hold := holdL [w.2.2.2.2.2.1[kk]]) (se := q'.2.2.2) (z := zeroL [w.2.2.2.2.2.1[kk]]) x (i := i) (by omega)
    unfold outV at hg hg2
    have hshp := stR_shp (I := I) (ss := w.2.2.2.2.2.1) (x.drop i)
    have hlen : (List.getD q.2.2.2 (ix q.2.2.2 (holdL w.2.2.2.2.2.1 (stR (stepL I w.2.2.2.2.2.1) (zeroL w.2.2.2.2.2.1) (x.drop i)))) []).length = w.2.2.2.2.2.1.length := by rw [o2, holdL_len hshp]
    have hval : List.getD q'.2.2.2 (ix q'.2.2.2 (holdL [w.2.2.2.2.2.1[kk]] (stR (stepL I [w.2.2.2.2.2.1[kk]]) (zeroL [w.2.2.2.2.2.1[kk]]) (x.drop i)))) [] = [List.getD (List.getD q.2.2.2 (ix q.2.2.2 (holdL w.2.2.2.2.2.1 (stR (stepL I w.2.2.2.2.2.1) (zeroL w.2.2.2.2.2.1) (x.drop i)))) []) kk false] := by
      rw [v2, o2, stR_one hkk, holdL_one hshp hkk]
    have ih := F7_0_ok k w c14 c17 I N b b' q q' kk hkk mw mv x hx hxl d m (i + 1) (by omega) (by omega)
    have hpl : (outL (stepL I w.2.2.2.2.2.1) (holdL w.2.2.2.2.2.1) q.2.2.2 (zeroL w.2.2.2.2.2.1) x).length ≤ 1000001 := by rw [outL_len]; omega
    generalize outL (stepL I w.2.2.2.2.2.1) (holdL w.2.2.2.2.2.1) q.2.2.2 (zeroL w.2.2.2.2.2.1) x = p at *
    generalize outL (stepL I [w.2.2.2.2.2.1[kk]]) (holdL [w.2.2.2.2.2.1[kk]]) q'.2.2.2 (zeroL [w.2.2.2.2.2.1[kk]]) x = p' at *
    generalize ix q.2.2.2 (holdL w.2.2.2.2.2.1 (stR (stepL I w.2.2.2.2.2.1) (zeroL w.2.2.2.2.2.1) (x.drop i))) = t at *
    generalize ix q'.2.2.2 (holdL [w.2.2.2.2.2.1[kk]] (stR (stepL I [w.2.2.2.2.2.1[kk]]) (zeroL [w.2.2.2.2.2.1[kk]]) (x.drop i))) = t' at *
    have hkl : kk < (List.getD q.2.2.2 t []).length := by omega
    have h1l : (List.getD q'.2.2.2 t' []).length = 1 := by rw [hval]; rfl
    have h00 : (0 : Int) ≤ 0 ∧ (0 : Int) < ((List.length (List.getD q'.2.2.2 t' []) : Nat) : Int) := by rw [h1l]; decide
    have hv0 : List.getD (List.getD q'.2.2.2 t' []) (Int.toNat 0) false = List.getD (List.getD q.2.2.2 t []) kk false := by rw [hval]; rfl
    simp only [F7_0]
    rw [dlt hlt, cond_true, if_pos (inR hlt), tnI, hg, decide_eq_false (show ¬ ((t : Nat) : Int) < 0 by omega), cond_false, if_pos (inR hlt), decide_eq_false (show ¬ ((t : Nat) : Int) ≥ ((List.length q.2.2.2 : Nat) : Int) by omega), cond_false]
    rw [if_pos (inR hlt2), hg2, decide_eq_false (show ¬ ((t' : Nat) : Int) < 0 by omega), cond_false, if_pos (inR hlt2), decide_eq_false (show ¬ ((t' : Nat) : Int) ≥ ((List.length q'.2.2.2 : Nat) : Int) by omega), cond_false]
    rw [if_pos (inR hlt), if_pos (inR o1), tnI, hlen]
    simp only [bne_self_eq_false, cond_false]
    rw [if_pos (inR hlt2), if_pos (inR v1), tnI, h1l]
    rw [show ((((1 : Nat) : Int)) != 1) = false from rfl, cond_false, if_pos (inR hlt), if_pos (inR o1)]
    rw [if_pos (show 0 ≤ (kk : Int) ∧ (kk : Int) < ((w.2.2.2.2.2.1.length : Nat) : Int) from inR hkk), tnI, if_pos (inR hlt2), if_pos (inR v1), if_pos (by decide), hv0]
    simp only [BEq.rfl, Bool.not_true, cond_false]
    rw [wsucc i p.length hlt (by omega), ih]
    rfl
theorem back_one (a0 : List RawT) (a1 a2 a3 : List Int) (a4 : Int) (h1 : a1.length ≤ 100000000000000) (h3 : a3.length ≤ 100000000000000) : ∃ k, F7 k a0 a1 a2 a3 a4 = some ((true, ()), ()) := by
  refine ⟨20000000, ?_⟩
  generalize hk : (20000000 : Nat) = k
  have hk' : 20000000 ≤ k := by omega
  unfold F7
  rw [F12_known k (by omega), Option.bind_some]
  simp only [Bool.not_true, cond_false]
  rcases start9 k hk' a0 a1 a2 h1 with e | ⟨e, ⟨w, e2⟩ | ⟨w, N, M, e2, hw⟩⟩
  · rw [e]; rfl
  · rw [e, Option.bind_some]
    simp only [Bool.not_true, cond_false]
    rw [e2]; rfl
  · rw [e, Option.bind_some]
    simp only [Bool.not_true, cond_false]
    rw [e2, Option.bind_some]
    simp only [Bool.not_true, cond_false]
    have hN := hw.le
    have hnr := hw.nr
    have hn4 := hw.nrules
    by_cases h0 : w.2.2.2.2.2.1.length = 0
    · rw [show ((((List.length w.2.2.2.2.2.1 : Nat) : Int) == 0)) = true by rw [h0]; rfl, cond_true]
    · rw [nz (by omega), cond_false, F15_eq k a4 _ (by omega) (by omega), Option.bind_some]
      simp only
      have hm0 : 0 ≤ a4 % ((List.length w.2.2.2.2.2.1 : Nat) : Int) := Int.emod_nonneg _ (by omega)
      have hm1 : a4 % ((List.length w.2.2.2.2.2.1 : Nat) : Int) < ((List.length w.2.2.2.2.2.1 : Nat) : Int) := Int.emod_lt_of_pos _ (by omega)
      obtain ⟨kk, hkk⟩ : ∃ kk : Nat, a4 % ((List.length w.2.2.2.2.2.1 : Nat) : Int) = (kk : Int) := ⟨(a4 % ((List.length w.2.2.2.2.2.1 : Nat) : Int)).toNat, by omega⟩
      rw [hkk]
      rw [hkk] at hm1
      have hlt : kk < w.2.2.2.2.2.1.length := by omega
      have hone : List.take (kk + 1 - kk) (List.drop kk w.2.2.2.2.2.1) = [w.2.2.2.2.2.1[kk]] := by
        rw [show kk + 1 - kk = 1 by omega, List.drop_eq_getElem_cons hlt]
        rfl
      have hs1 : ∀ s ∈ [w.2.2.2.2.2.1[kk]], SideW w.2.2.2.1 N M s := fun s hs => by rw [List.mem_singleton.1 hs]; exact hw.right _ (List.getElem_mem hlt)
      rw [wsucc kk _ hlt (by omega), hw.num, F16_mk k _ N M _ hk' hw.right (by omega) hN, Option.bind_some, if_pos (by omega), tnI, tnI, hone, F16_mk k _ N M _ hk' hs1 (by simp) hN, Option.bind_some]
      cases hq : mkM w.2.2.2.1 w.2.2.2.2.2.1 N 60 with
      | none => rfl
      | some q =>
        obtain ⟨q', hq', hle⟩ := mkM_one hq hlt
        rw [hq']
        have mw := mkM_ok hq
        have mv := mkM_ok hq'
        have ml := mw.len
        have ml' := mv.len
        obtain ⟨t, x, e5, e6, hx1, hx2⟩ := letters_ok k hk' w N M hw a3 15 (by omega) h3
        have e9 := F22_ok k (by omega) mw.m (by omega) mw.z x hx2 (by omega)
        have e10 := F22_ok k (by omega) mv.m (by omega) mv.z x hx2 (by omega)
        simp only [outA, bne_self_eq_false, cond_false]
        rw [show F21 k a3 (15 : Int) = _ from e5, Option.bind_some]
        simp only
        rw [e6, Option.bind_some]
        simp only
        rw [e9, Option.bind_some, e10, Option.bind_some]
        simp only
        have hw3 : IntKind.wrap .i64 ((x.length : Int) + 1) = ((x.length + 1 : Nat) : Int) := by rw [w64 _ (by omega) (by omega)]; omega
        rw [outL_len, outL_len, List.length_map, hw3]
        simp only [bne_self_eq_false, cond_false]
        have e11 := F7_0_ok k w (q.2.1, (q.2.2.1, ())) (q'.2.1, (q'.2.2.1, ())) w.2.2.2.1 N 60 60 q q' kk hlt mw mv x hx2 (by omega) (x.length + 1) k 0 (Nat.zero_add _) (by omega)
        rw [show ((0 : Nat) : Int) = 0 from rfl] at e11
        rw [e11, Option.bind_some]
        simp only
        have n1 := mw.m.nl
        have n2 := mv.m.nl
        rw [decide_eq_true (show ((List.length q'.2.1 : Nat) : Int) ≤ ((List.length q.2.1 : Nat) : Int) by omega)]
end Go.Proofs.YtibammoednhnoaaE
namespace Go.Proofs.Ytibammoednhnoaa.Pure
open Go.Proofs.YtibammoednhnoaaE
theorem BackOne (a0 : List (Tree (Int × (Int × Unit)))) (a1 : List Int) (a2 : List Int) (a3 : List Int) (a4 : Int) : (a1.length * 8 ≤ 140737488351232) → (∀ x ∈ a1, IntKind.min .i64 ≤ x ∧ x ≤ IntKind.max .i64) → (a2.length * 8 ≤ 140737488351232) → (∀ x ∈ a2, IntKind.min .i64 ≤ x ∧ x ≤ IntKind.max .i64) → (a3.length * 8 ≤ 140737488351232) → (∀ x ∈ a3, IntKind.min .i64 ≤ x ∧ x ≤ IntKind.max .i64) → (IntKind.min .i64 ≤ a4 ∧ a4 ≤ IntKind.max .i64) → ∃ k, F7 k a0 a1 a2 a3 a4 = some ((true, ()), ()) := by
  intros
  exact back_one a0 a1 a2 a3 a4 (by omega) (by omega)
end Go.Proofs.Ytibammoednhnoaa.Pure
