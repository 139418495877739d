/- The plain law of DetMeans. Conditions: none. -/
import Derived.Test.YtgmmopbpldgpcaaP2
set_option linter.unusedSimpArgs false
set_option linter.unusedVariables false
set_option maxRecDepth 20000
namespace Go.Proofs.YtgmmopbpldgpcaaE
theorem start11 {β : Type} (k : Nat) (hk : 20000000 ≤ k) (a0 : List eB) (a1 a2 : List Int) (h1 : a1.length ≤ 100000000000000) (yes no : β) (f : ((jD × Bool × Unit) × Unit) → Option β) (hf : ∀ w N sets, F15 k a0 a1 a2 = some ((w, true, ()), ()) → WS k a0 a1 w N sets → F16 k w = some ((true, ()), ()) → f ((w, true, ()), ()) = some yes) :
    ((F13 k).bind fun r1 => bif (!r1.1.1) then some no else (F14 k a0).bind fun r2 => bif (!r2.1.1) then some yes else (F15 k a0 a1 a2).bind fun r3 => bif (!r3.1.2.1) then some yes else (F16 k r3.1.1).bind fun r8 => bif (!r8.1.1) then some yes else f r3) = some yes := by
  rw [Ra k (by omega), Option.bind_some]
  simp only [Bool.not_true, cond_false]
  rcases WW k hk a0 a1 a2 h1 with e | ⟨e, ⟨w, e2⟩ | ⟨w, N, sets, e2, hw⟩⟩
  · rw [e]; rfl
  · rw [e, Option.bind_some]
    simp only [Bool.not_true, cond_false]
    rw [e2]; rfl
  · rw [e, Option.bind_some]
    simp only [Bool.not_true, cond_false]
    rw [e2, Option.bind_some]
    simp only [Bool.not_true, cond_false]
    rcases a6p k (by omega) w N _ hw.g with e3 | e3
    · rw [e3, Option.bind_some]
      simp only [Bool.not_true, cond_false]
      exact hf w N sets e2 hw e3
    · rw [e3]; rfl
theorem det_means (a0 : List eB) (a1 a2 a3 : List Int) (h1 : a1.length ≤ 100000000000000) (h3 : a3.length ≤ 100000000000000) : ∃ k, F4 k a0 a1 a2 a3 = some ((true, ()), ()) := by
  refine ⟨20000000, ?_⟩
  generalize hk : (20000000 : Nat) = k
  have hk' : 20000000 ≤ k := by omega
  have hk2 : 10000000 ≤ k := by omega
  unfold F4
  refine start11 k hk' a0 a1 a2 h1 _ _ _ fun w N sets e15 hw e16 => ?_
  simp only
  rw [a7p k hk' hw.g, Option.bind_some]
  cases hq : mkM w.2.2.2.1 w.2.2.2.2.2.1 N 60 with
  | none => rfl
  | some q =>
    have mw := a0o hq
    have dw := a9r hw.g mw
    simp only [Me, bne_self_eq_false, cond_false]
    rw [hw.g.num, a2p k hk2 dw, Option.bind_some]
    cases hd : mkN w.2.2.2.2.1 w.2.2.2.1 N 80 with
    | none => rfl
    | some d =>
      have nd := a3p dw.hs hd
      obtain ⟨t, x, e1, e2, htl, hxl, hlet⟩ := Re k hk' hw a3 6 (by decide) h3
      have hxN : ∀ a ∈ x, a < N := fun a ha => by
        obtain ⟨j, hj, e⟩ := List.mem_iff_getElem.1 ha
        have := (hlet j hj (by omega)).1
        rw [e] at this
        exact this
      have hd4 := hw.f.d4
      have hd6 := hw.f.d6
      have hr4 := hw.f.r4
      have hnl := hw.g.nl
      have hnr := hw.g.nr
      obtain ⟨out, e28, ho, hov⟩ := a9p k hk' w.1 (by omega) hw.f.dt sets hw.se hw.sl hw.rg t (by omega) hw.f.rp (by omega)
      simp only [Uh, bne_self_eq_false, cond_false]
      rw [show F23 k a3 (6 : Int) = _ from e1, Option.bind_some]
      simp only
      rw [e2, Option.bind_some]
      simp only
      rw [WD k hk2 mw x hxN (by omega), Option.bind_some]
      simp only
      rw [a5p k hk2 nd x _ hxN (by omega) (JY _ _ _ _) (a4p mw hxN), Option.bind_some]
      simp only
      rw [e28, Option.bind_some]
      simp only
      have hfin : B2 (a7 w.2.2.2.1 w.2.2.2.2.1) (emW w.1.2.1 w.2.2.2.2.1 q.2.2.2) (dQ w.2.2.2.2.1) x (lab w.2.2.2.1 w.2.2.2.2.2.1 q.2.2.2 x) = out := by
        refine List.ext_getElem (by rw [Ui]; omega) fun i h1 h2 => ?_
        have hi : i < t.length + 1 := by omega
        have hi2 : i < x.length + 1 := by omega
        have hv := hov i hi
        rw [ak _ _ _ h2] at hv
        rw [hv]
        simp only [B2, List.getElem_map, List.getElem_range]
        have hlab : List.getD (lab w.2.2.2.1 w.2.2.2.2.2.1 q.2.2.2 x) i 0 = ix q.2.2.2 (bo w.2.2.2.2.2.1 (stR (bd w.2.2.2.1 w.2.2.2.2.2.1) (bP w.2.2.2.2.2.1) (x.drop i))) := by
          rw [ak _ _ _ (by rw [JY]; exact hi2)]
          simp only [lab, List.getElem_map, List.getElem_range]
        obtain ⟨o1, o2⟩ := QZ mw.m mw.z (x.drop i) fun a ha => hxN a (List.mem_of_mem_drop ha)
        unfold vG
        rw [hlab]
        have hem : List.getD (emW w.1.2.1 w.2.2.2.2.1 q.2.2.2 (stF (a7 w.2.2.2.1 w.2.2.2.2.1) (dQ w.2.2.2.2.1) (x.take i))) (ix q.2.2.2 (bo w.2.2.2.2.2.1 (stR (bd w.2.2.2.1 w.2.2.2.2.2.1) (bP w.2.2.2.2.2.1) (x.drop i)))) [] = cV w.1.2.1 (er w.2.2.2.2.1 (stF (a7 w.2.2.2.1 w.2.2.2.2.1) (dQ w.2.2.2.2.1) (x.take i))) (List.getD q.2.2.2 (ix q.2.2.2 (bo w.2.2.2.2.2.1 (stR (bd w.2.2.2.1 w.2.2.2.2.2.1) (bP w.2.2.2.2.2.1) (x.drop i)))) []) cz := by
          unfold emW
          rw [ak _ _ _ (by rw [List.length_map]; exact o1), List.getElem_map, ak _ _ _ o1]
        rw [hem, o2]
        have hsW : ∀ s ∈ w.2.2.2.2.1, SOC s := fun s hs => rH (hw.g.left s hs)
        -- costs
        have hE : er w.2.2.2.2.1 (stF (a7 w.2.2.2.1 w.2.2.2.2.1) (dQ w.2.2.2.2.1) (x.take i)) = esR k w.1 sets t i := by
          have hle := rF (ss := w.2.2.2.2.1) (R := stF (a7 w.2.2.2.1 w.2.2.2.2.1) (dQ w.2.2.2.2.1) (x.take i)) (by
            have key : ∀ (t : List Nat) (z : bI), ShW w.2.2.2.2.1 z → ShW w.2.2.2.2.1 (stF (a7 w.2.2.2.1 w.2.2.2.2.1) z t) := by
              intro t
              induction t with
              | nil => exact fun z hz => hz
              | cons a t ih => exact fun z hz => ih _ (fN hsW hz)
            exact key _ _ (iY _))
          have hle2 : (esR k w.1 sets t i).length = w.1.2.1.length := by simp [esR]
          refine List.ext_getElem (by omega) fun p g1 g2 => ?_
          have hp : p < w.2.2.2.2.1.length := by omega
          have hpr : p < w.1.2.1.length := by omega
          have hs := Mp w.2.2.2.1 w.2.2.2.2.1 hsW p hp (x.take i)
          rw [ak _ _ _ g1] at hs
          rw [hs]
          simp only [esR, List.getElem_map]
          obtain ⟨⟨p1, _⟩, _⟩ := hw.f.rp _ (List.getElem_mem hpr)
          obtain ⟨_, gr⟩ := Ao (An w.1 (by omega) hw.f.dt sets hw.sl hw.rg t (by omega) 5 k _ (Nat.le_refl _) p1 (by omega))
          have hm2 := vR gr hi (t.length + 1) (Nat.le_refl _)
          have hT := hw.left p hpr
          rw [ak _ _ _ hp] at hT
          have hsW1 := hw.g.left _ (List.getElem_mem hp)
          have hse : ∀ y ∈ (w.2.2.2.2.1[p]).1, y < ((sets.length : Nat) : Int) := fun y hy => by
            have := hsW1.io.sets y hy
            rw [← hw.il]
            exact this
          have hO : ∀ p' j (h : j < x.length), p' < (w.2.2.2.2.1[p]).1.length → ofP w.2.2.2.1 w.2.2.2.2.1[p] p' x[j] = rI sets w.2.2.2.2.1[p] t p' j := fun p' j hj hp' => IG hse hxl hlet p' j hp' hj
          have hm1 := WE (rH hsW1) hO i (by omega)
          have hden := fun i' (h : i' ≤ t.length) => B8 hT p1 hw.sl hxl hlet i' i (by omega)
          have hpd := fU (fS sets t) (fnd w.1.1) 5 _ p1
          have hA : ∀ c, (∃ j', j' < t.length + 1 ∧ den (fS sets t) (fnd w.1.1) 5 w.1.2.1[p].2.2.1 j' i c) → ∃ d, d ≤ c ∧ ∃ i', i' ≤ i ∧ Acc w.2.2.2.2.1[p] (rI sets w.2.2.2.2.1[p] t) i' i d := fun c ⟨j', h1, h2⟩ => by
            have hji := (hpd _ _ _ h2).1
            obtain ⟨d, h3, h4⟩ := (hden j' (by omega)).2 c h2
            exact ⟨d, h3, j', hji, h4⟩
          have hB : ∀ c, (∃ i', i' ≤ i ∧ Acc w.2.2.2.2.1[p] (rI sets w.2.2.2.2.1[p] t) i' i c) → ∃ d, d ≤ c ∧ ∃ j', j' < t.length + 1 ∧ den (fS sets t) (fnd w.1.1) 5 w.1.2.1[p].2.2.1 j' i d := fun c ⟨i', h1, h2⟩ => by
            obtain ⟨d, h3, h4⟩ := (hden i' (by omega)).1 c h2
            exact ⟨d, h3, i', by omega, h4⟩
          exact (hm1.dom hA hB).uniq hm2
        -- what holds
        have hH : bo w.2.2.2.2.2.1 (stR (bd w.2.2.2.1 w.2.2.2.2.2.1) (bP w.2.2.2.2.2.1) (x.drop i)) = hsR k w.1 sets t i := by
          have hle := lj (jY (I := w.2.2.2.1) (ss := w.2.2.2.2.2.1) (x.drop i))
          have hle2 : (hsR k w.1 sets t i).length = w.1.2.1.length := by simp [hsR]
          refine List.ext_getElem (by omega) fun p g1 g2 => ?_
          have hp : p < w.2.2.2.2.2.1.length := by omega
          have hpr : p < w.1.2.1.length := by omega
          have hs := Mo w.2.2.2.1 w.2.2.2.2.2.1 p hp (x.drop i)
          rw [ak _ _ _ g1] at hs
          rw [hs]
          simp only [hsR, List.getElem_map]
          obtain ⟨⟨_, p2⟩, _⟩ := hw.f.rp _ (List.getElem_mem hpr)
          obtain ⟨_, gr⟩ := Ao (An w.1 (by omega) hw.f.dt sets hw.sl hw.rg t (by omega) 5 k _ (Nat.le_refl _) p2 (by omega))
          have hpd := fU (fS sets t) (fnd w.1.1) 5 _ p2
          have hT := hw.right p hpr
          rw [ak _ _ _ hp] at hT
          have hsW1 := hw.g.right _ (List.getElem_mem hp)
          have hse : ∀ y ∈ (w.2.2.2.2.2.1[p]).1, y < ((sets.length : Nat) : Int) := fun y hy => by
            have := hsW1.io.sets y hy
            rw [← hw.il]
            exact this
          have hO : ∀ p' j (h : j < x.length), p' < (w.2.2.2.2.2.1[p]).1.length → ofP w.2.2.2.1 w.2.2.2.2.2.1[p] p' x[j] = rI sets w.2.2.2.2.2.1[p] t p' j := fun p' j hj hp' => IG hse hxl hlet p' j hp' hj
          have hb := UA hsW1.ok (Uz hsW1) (by omega) hO i (by omega)
          rw [Bool.eq_iff_iff, hb, I6 gr hpd hi (t.length + 1) (Nat.le_refl _)]
          constructor
          · rintro ⟨k', e, hk', hA⟩
            obtain ⟨d, _, h4⟩ := (B8 hT p2 hw.sl hxl hlet i k' (by omega)).1 e hA
            exact ⟨k', d, by omega, h4⟩
          · rintro ⟨k', c, hk', hA⟩
            obtain ⟨d, _, h4⟩ := (B8 hT p2 hw.sl hxl hlet i k' (by omega)).2 c hA
            exact ⟨k', d, by omega, h4⟩
        rw [hE, hH]
      rw [hfin, Uk k _ hk2 (by omega), Option.bind_some]
end Go.Proofs.YtgmmopbpldgpcaaE
namespace Go.Proofs.Ytgmmopbpldgpcaa.Pure
open Go.Proofs.YtgmmopbpldgpcaaE
theorem DetMeans (a0 : List (ae (Int × (Int × Unit)))) (a1 : List Int) (a2 : List Int) (a3 : List Int) : (a1.length * 8 ≤ 140737488351232) → (∀ x ∈ a1, IntKind.min .i64 ≤ x ∧ x ≤ IntKind.max .i64) → (a2.length * 8 ≤ 140737488351232) → (∀ x ∈ a2, IntKind.min .i64 ≤ x ∧ x ≤ IntKind.max .i64) → (a3.length * 8 ≤ 140737488351232) → (∀ x ∈ a3, IntKind.min .i64 ≤ x ∧ x ≤ IntKind.max .i64) → ∃ k, F4 k a0 a1 a2 a3 = some ((true, ()), ()) := by
  intros
  exact det_means a0 a1 a2 a3 (by omega) (by omega)
end Go.Proofs.Ytgmmopbpldgpcaa.Pure
