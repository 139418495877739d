/- The plain law of BackMeans. Conditions: none. -/
import Derived.Test.YtibammoednhnoaaP1
set_option linter.unusedSimpArgs false
set_option linter.unusedVariables false
set_option maxRecDepth 20000
namespace Go.Proofs.YtibammoednhnoaaE
theorem F24_0_ok (k : Nat) (t : List Int) (n : Nat) (hn : n = t.length + 1) (hn2 : n ≤ 1000000) (g : GrT) (hg : GS n g) (i : Nat) (hi : i < n) : ∀ (d m j : Nat) (acc : List Int), j + d = n → d < m → acc.length ≤ j →
    ∃ l, F24_0 k m t (i : Int) (j : Int) g acc = some ((), (l, ())) ∧ (0 < l.length ↔ 0 < acc.length ∨ ∃ j', j ≤ j' ∧ j' < n ∧ gg g i j' < 1152921504606846976)
  | 0, m, j, acc, hj, hm, ha => by
    obtain ⟨m, rfl⟩ := pos1 (m := m) (by omega)
    refine ⟨acc, ?_, .inl, fun q => q.elim id fun ⟨j', h1, h2, _⟩ => by omega⟩
    simp only [F24_0]
    rw [decide_eq_false (by omega), cond_false]
  | d + 1, m, j, acc, hj, hm, ha => by
    obtain ⟨m, rfl⟩ := pos1 (m := m) (by omega)
    have hl := hg.len
    have hr := hg.row i hi
    have hw : IntKind.wrap .i64 ((j : Int) + 1) = ((j + 1 : Nat) : Int) := wsucc j n (by omega) (by omega)
    have hgv : gg g i j = List.getD (List.getD g i []) j 0 := rfl
    simp only [F24_0]
    rw [decide_eq_true (by omega), cond_true, if_pos (by omega), tnI i, if_pos (by omega), tnI j, hw]
    by_cases hc : List.getD (List.getD g i []) j 0 < 1152921504606846976
    · obtain ⟨l, e, h⟩ := F24_0_ok k t n hn hn2 g hg i hi d m (j + 1) (acc ++ [(j : Int)]) (by omega) (by omega) (by simp; omega)
      refine ⟨l, ?_, h.trans ⟨fun _ => .inr ⟨j, Nat.le_refl _, by omega, hc⟩, fun _ => .inl (by simp)⟩⟩
      rw [decide_eq_true hc, cond_true, one_list, if_pos (by rw [List.length_singleton]; omega), e]
      rfl
    · obtain ⟨l, e, h⟩ := F24_0_ok k t n hn hn2 g hg i hi d m (j + 1) acc (by omega) (by omega) (by omega)
      refine ⟨l, ?_, h.trans ⟨fun q => q.imp id fun ⟨j', h1, h2⟩ => ⟨j', by omega, h2⟩, fun q => q.imp id fun ⟨j', h1, h2, h3⟩ => ⟨j', by
        by_cases e : j' = j
        · subst e; exact absurd h3 hc
        · omega, h2, h3⟩⟩⟩
      rw [decide_eq_false hc, cond_false, e]
      rfl
theorem F24_ok (k : Nat) (hk : 20000000 ≤ k) (fl : FileT) (hfl : fl.1.length ≤ 1000) (h4 : ∃ t, fl.1 = defs4 ++ t) (sets : List RgT) (hF : F29 k fl = some ((sets, ()), ())) (hsl : sets.length = fl.1.length) (hg : RgL sets) (t : List Int) (ht : t.length ≤ 1000) {w : Bool} (x : RexT) (hx : RexP w 5 x) (i : Nat) (hi : i ≤ t.length) : ∃ l, F24 k x fl t (i : Int) = some ((l, ()), ()) ∧ (0 < l.length ↔ ∃ j c, j ≤ t.length ∧ den (fS sets t) (fnd fl.1) 5 x i j c) := by
  obtain ⟨g, e, hG⟩ := R48_ok fl hfl h4 sets hsl hg t ht 5 k x (Nat.le_refl _) hx (by omega)
  have hpd := pos_den (fS sets t) (fnd fl.1) 5 x hx
  obtain ⟨l, e2, h⟩ := F24_0_ok k t (t.length + 1) rfl (by omega) g hG.gs i (by omega) (t.length + 1 - i) k i [] (by omega) (by omega) (Nat.zero_le _)
  refine ⟨l, ?_, h.trans ?_⟩
  · have e' : F48 k x fl sets t = _ := e
    unfold F24
    simp only [rex_eta]
    rw [hF, Option.bind_some]
    simp only
    rw [e', Option.bind_some]
    simp only
    rw [e2, Option.bind_some]
  · constructor
    · rintro (q | ⟨j, h1, h2, h3⟩)
      · simp at q
      · exact ⟨j, _, by omega, (hG.min i j (by omega) h2).at_ h3⟩
    · rintro ⟨j, c, h1, h2⟩
      have hp := hpd _ _ _ h2
      have := (hG.min i j (by omega) (by omega)).lb c h2
      exact .inr ⟨j, hp.1, by omega, by omega⟩
theorem F4_0_ok (k : Nat) (w : WorT) (se : List (List Bool)) (t p : List Int) (i : Nat) (hip : i < p.length) (u : Nat) (hpu : List.getD p i 0 = (u : Int)) (hu : u < se.length) (hse : (List.getD se u []).length = w.1.2.1.length) (hrl : w.1.2.1.length ≤ 1000) (hF : ∀ q (h : q < w.1.2.1.length), ∃ l, F24 k w.1.2.1[q].2.2.2.1 w.1 t (i : Int) = some ((l, ()), ()) ∧ (0 < l.length ↔ List.getD (List.getD se u []) q false = true)) (t73 t75 t77 : Int) (t78 : Bool) (t83 t85 t88 : Int) (t91 : List RulT) (t92 : Int) (t93 : Bool) : ∀ (d m q : Nat), q + d = w.1.2.1.length → d < m →
    F4_0 k m (i : Int) (q : Int) t73 t75 t77 t78 t83 t85 t88 t91 t92 t93 w se t p = some (.inl (((i : Int), t73, t75, t77, t78, t83, t85, t88, t91, t92, t93, ()), (w, se, t, p, ())))
  | 0, m, q, hq, hm => by
    obtain ⟨m, rfl⟩ := pos1 (m := m) (by omega)
    simp only [F4_0]
    rw [decide_eq_false (by omega), cond_false]
  | d + 1, m, q, hq, hm => by
    obtain ⟨m, rfl⟩ := pos1 (m := m) (by omega)
    have hlt : q < w.1.2.1.length := by omega
    have hlt2 : q < (List.getD se u []).length := by omega
    obtain ⟨l, e, hl⟩ := hF q hlt
    have e' : F24 k (w.1.2.1[q]).2.2.2.1 w.1 t (i : Int) = _ := e
    have hget : List.getD w.1.2.1 q ((0 : Int), ((0 : Int), ((Tree.mk ((0 : Int), ((0 : Int), ((0 : Int), ((0 : Int), (ByteArray.empty, ()))))) [] : RexT), ((Tree.mk ((0 : Int), ((0 : Int), ((0 : Int), ((0 : Int), (ByteArray.empty, ()))))) [] : RexT), ())))) = w.1.2.1[q] := getD_lt _ _ _ hlt
    have hb : (!(List.getD (List.getD se u []) q false == decide (((l.length : Nat) : Int) > 0))) = false := by
      cases hv : List.getD (List.getD se u []) q false with
      | true =>
        have := hl.2 hv
        rw [decide_eq_true (by omega)]
        rfl
      | false =>
        have : ¬ 0 < l.length := fun q => by
          have := hl.1 q
          rw [hv] at this
          cases this
        rw [decide_eq_false (by omega)]
        rfl
    simp only [F4_0]
    rw [dlt hlt, cond_true, if_pos (inR hip), tnI i, hpu, if_pos (inR hu), tnI u, if_pos (inR hlt2), tnI q, if_pos (inR hlt), hget, e', Option.bind_some]
    simp only
    rw [hb, cond_false, wsucc q _ hlt (by omega), F4_0_ok k w se t p i hip u hpu hu hse hrl hF t73 t75 t77 t78 t83 t85 t88 t91 t92 t93 d m (q + 1) (by omega) (by omega)]
    rfl
theorem F4_1_ok (k : Nat) (hk : 10000000 ≤ k) (w : WorT) (se : List (List Bool)) (t p : List Int) (n : Nat) (hn : n = t.length + 1) (hn2 : n ≤ 1000000) (hp : p.length = n) (hrl : w.1.2.1.length ≤ 1000) (hP : ∀ i, i < n → ∃ u : Nat, List.getD p i 0 = (u : Int) ∧ u < se.length ∧ (List.getD se u []).length = w.1.2.1.length ∧ ∀ q (h : q < w.1.2.1.length), ∃ l, F24 k w.1.2.1[q].2.2.2.1 w.1 t (i : Int) = some ((l, ()), ()) ∧ (0 < l.length ↔ List.getD (List.getD se u []) q false = true)) : ∀ (d m i : Nat), i + d = n → d < m →
    F4_1 k m (i : Int) w se t p = some (.inl ((), ()))
  | 0, m, i, hi, hm => by
    obtain ⟨m, rfl⟩ := pos1 (m := m) (by omega)
    simp only [F4_1]
    rw [decide_eq_false (by omega), cond_false]
  | d + 1, m, i, hi, hm => by
    obtain ⟨m, rfl⟩ := pos1 (m := m) (by omega)
    obtain ⟨u, h1, h2, h3, h4⟩ := hP i (by omega)
    have hip : i < p.length := by omega
    have e := F4_0_ok k w se t p i hip u h1 h2 h3 hrl h4 (i : Int) (u : Int) ((se.length : Nat) : Int) false (i : Int) (u : Int) ((w.1.2.1.length : Nat) : Int) w.1.2.1 ((w.1.2.1.length : Nat) : Int) false w.1.2.1.length k 0 (Nat.zero_add _) (by omega)
    rw [show ((0 : Nat) : Int) = 0 from rfl] at e
    simp only [F4_1]
    rw [decide_eq_true (by omega), cond_true, if_pos (inR hip), tnI i, h1, decide_eq_false (by omega), cond_false, if_pos (inR hip), decide_eq_false (by omega), cond_false, if_pos (inR hip), if_pos (inR h2), tnI u, h3]
    simp only [bne_self_eq_false, cond_false]
    rw [e, Option.bind_some]
    simp only
    rw [wsucc i n (by omega) (by omega), F4_1_ok k hk w se t p n hn hn2 hp hrl hP d m (i + 1) (by omega) (by omega)]
    rfl
theorem back_means (a0 : List RawT) (a1 a2 a3 : List Int) (h1 : a1.length ≤ 100000000000000) (h3 : a3.length ≤ 100000000000000) : ∃ k, F4 k a0 a1 a2 a3 = some ((true, ()), ()) := by
  refine ⟨20000000, ?_⟩
  generalize hk : (20000000 : Nat) = k
  have hk' : 20000000 ≤ k := by omega
  have hk2 : 10000000 ≤ k := by omega
  unfold F4
  rw [F12_known k (by omega), Option.bind_some]
  simp only [Bool.not_true, cond_false]
  rcases start9s k hk' a0 a1 a2 h1 with e | ⟨e, ⟨w, e2⟩ | ⟨w, N, sets, e2, hw⟩⟩
  · rw [e]; rfl
  · rw [e, Option.bind_some]
    simp only [Bool.not_true, cond_false]
    rw [e2]; rfl
  · rw [e, Option.bind_some]
    simp only [Bool.not_true, cond_false]
    rw [e2, Option.bind_some]
    simp only [Bool.not_true, cond_false]
    have hNle := hw.g.le
    have hnr := hw.g.nr
    have hr4 := hw.f.r4
    rw [hw.g.num, F16_mk k _ N _ _ hk' hw.g.right (by omega) hNle, Option.bind_some]
    cases hq : mkM w.2.2.2.1 w.2.2.2.2.2.1 N 60 with
    | none => rfl
    | some q =>
      have mw := mkM_ok hq
      have ml := mw.len
      obtain ⟨t, x, e3, e4, htl, hxl, hlet⟩ := letters_s k hk' hw a3 7 (by decide) h3
      have hxN : ∀ a ∈ x, a < N := fun a ha => by
        obtain ⟨j, hj, e⟩ := List.mem_iff_getElem.1 ha
        have := (hlet j hj (by omega)).1
        rw [e] at this
        exact this
      have hd4 := hw.f.d4
      have hd6 := hw.f.d6
      have e5 := F22_ok k (by omega) mw.m (by omega) mw.z x hxN (by omega)
      have hw1 : IntKind.wrap .i64 (((t.length : Nat) : Int) + 1) = ((t.length + 1 : Nat) : Int) := wsucc t.length (t.length + 1) (by omega) (by omega)
      simp only [outA, bne_self_eq_false, cond_false]
      rw [show F21 k a3 (7 : Int) = _ from e3, Option.bind_some]
      simp only
      rw [e4, Option.bind_some]
      simp only
      rw [e5, Option.bind_some]
      simp only
      rw [hw1, outL_len, hxl, bne_self_eq_false, cond_false]
      have e6 := F4_1_ok k hk2 w q.2.2.2 t (outL (stepL w.2.2.2.1 w.2.2.2.2.2.1) (holdL w.2.2.2.2.2.1) q.2.2.2 (zeroL w.2.2.2.2.2.1) x) (t.length + 1) rfl (by omega) (by rw [outL_len, hxl]) (by omega) (fun i hi => by
        obtain ⟨o1, o2⟩ := out_ok mw.m mw.z (x.drop i) fun a ha => hxN a (List.mem_of_mem_drop ha)
        refine ⟨ix q.2.2.2 (holdL w.2.2.2.2.2.1 (stR (stepL w.2.2.2.1 w.2.2.2.2.2.1) (zeroL w.2.2.2.2.2.1) (x.drop i))), ?_, o1, ?_, fun p hp => ?_⟩
        · rw [getD_lt _ _ _ (by rw [outL_len]; omega)]
          simp only [outL, List.getElem_map, List.getElem_range]
          rfl
        · rw [o2, holdL_len (stR_shp (I := w.2.2.2.1) (ss := w.2.2.2.2.2.1) (x.drop i))]
          exact hnr
        · have hps : p < w.2.2.2.2.2.1.length := by omega
          obtain ⟨⟨_, p2⟩, _⟩ := hw.f.rp _ (List.getElem_mem hp)
          obtain ⟨l, el, hl⟩ := F24_ok k hk' w.1 (by omega) hw.f.dt sets hw.se hw.sl hw.rg t (by omega) _ p2 i (by omega)
          refine ⟨l, el, hl.trans ?_⟩
          rw [o2, holdL_side w.2.2.2.1 w.2.2.2.2.2.1 p hps (x.drop i)]
          have hT := hw.right p hp
          rw [getD_lt _ _ _ hps] at hT
          have hsW1 := hw.g.right _ (List.getElem_mem hps)
          have hse : ∀ y ∈ (w.2.2.2.2.2.1[p]).1, y < ((sets.length : Nat) : Int) := fun y hy => by
            have := hsW1.io.sets y hy
            rw [← hw.il]
            exact this
          have hO : ∀ p' j (h : j < x.length), p' < (w.2.2.2.2.2.1[p]).1.length → ofP w.2.2.2.1 w.2.2.2.2.2.1[p] p' x[j] = accP sets w.2.2.2.2.2.1[p] t p' j := fun p' j hj hp' => acc_of hse hxl hlet p' j hp' hj
          rw [hold_acc hsW1.ok (sideW_sm hsW1) (by omega) hO i (by omega)]
          constructor
          · rintro ⟨k', c, hk', hA⟩
            obtain ⟨d, _, h4⟩ := (trm_den hT p2 hw.sl hxl hlet i k' (by omega)).2 c hA
            exact ⟨k', d, by omega, h4⟩
          · rintro ⟨k', e, hk', hA⟩
            obtain ⟨d, _, h4⟩ := (trm_den hT p2 hw.sl hxl hlet i k' (by omega)).1 e hA
            exact ⟨k', d, by omega, h4⟩) (t.length + 1) k 0 (Nat.zero_add _) (by omega)
      rw [show ((0 : Nat) : Int) = 0 from rfl] at e6
      rw [e6, Option.bind_some]
end Go.Proofs.YtibammoednhnoaaE
namespace Go.Proofs.Ytibammoednhnoaa.Pure
open Go.Proofs.YtibammoednhnoaaE
theorem BackMeans (a0 : List (Tree (Int × (Int × Unit)))) (a1 : List Int) (a2 : List Int) (a3 : List Int) : (a1.length * 8 ≤ 140737488351232) → (∀ x ∈ a1, IntKind.min .i64 ≤ x ∧ x ≤ IntKind.max .i64) → (a2.length * 8 ≤ 140737488351232) → (∀ x ∈ a2, IntKind.min .i64 ≤ x ∧ x ≤ IntKind.max .i64) → (a3.length * 8 ≤ 140737488351232) → (∀ x ∈ a3, IntKind.min .i64 ≤ x ∧ x ≤ IntKind.max .i64) → ∃ k, F4 k a0 a1 a2 a3 = some ((true, ()), ()) := by
  intros
  exact back_means a0 a1 a2 a3 (by omega) (by omega)
end Go.Proofs.Ytibammoednhnoaa.Pure
