/- The plain law of TwinNone. Conditions: none. -/
import Derived.Test.YtgojfdimbciaiaaP0
set_option linter.unusedSimpArgs false
set_option linter.unusedVariables false
namespace Go.Proofs.YtgojfdimbciaiaaE
theorem F9_4_ok (k : Nat) (x2 : Int) (s : SideT) (M : List (List Bool)) : ∀ (d m i : Nat) (b : Bool), i + d = 8 → d < m →
    ∃ b', F9_4 k m x2 b (i : Int) s M = some ((x2, b', ()), (s, ())) ∧ (b' = true ↔ b = true ∨ ∃ j, i ≤ j ∧ j < 8 ∧ tb M j j = true)
  | 0, m, i, b, hi, hm => by
    obtain ⟨m, rfl⟩ : ∃ m', m = m' + 1 := ⟨m - 1, by omega⟩
    obtain rfl : i = 8 := by omega
    refine ⟨b, ?_, ⟨Or.inl, fun h => h.resolve_right (fun ⟨j, h1, h2, _⟩ => by omega)⟩⟩
    simp only [F9_4]
    rw [decide_eq_false (by omega), cond_false]
  | d + 1, m, i, b, hi, hm => by
    obtain ⟨m, rfl⟩ : ∃ m', m = m' + 1 := ⟨m - 1, by omega⟩
    have hw : IntKind.wrap .i64 ((i : Int) + 1) = ((i + 1 : Nat) : Int) := by rw [w64 _ (by omega) (by omega)]; omega
    simp only [F9_4, hw]
    rw [decide_eq_true (show (i : Int) < 8 by omega), cond_true]
    cases b with
    | true =>
      obtain ⟨b', e, h⟩ := F9_4_ok k x2 s M d m (i + 1) true (by omega) (by omega)
      refine ⟨b', by rw [cond_true, e, Option.bind_some], ?_⟩
      rw [h]
      exact ⟨fun _ => Or.inl rfl, fun _ => Or.inl rfl⟩
    | false =>
      obtain ⟨b', e, h⟩ := F9_4_ok k x2 s M d m (i + 1) (tb M i i) (by omega) (by omega)
      refine ⟨b', ?_, ?_⟩
      · rw [cond_false, if_pos (by omega), if_pos (by omega)]
        exact (congrArg (fun z => Option.bind z some) e).trans rfl
      · rw [h]
        constructor
        · rintro (x | ⟨j, j1, j2, j3⟩)
          · exact Or.inr ⟨i, Nat.le_refl _, by omega, x⟩
          · exact Or.inr ⟨j, by omega, j2, j3⟩
        · rintro (x | ⟨j, j1, j2, j3⟩)
          · cases x
          · by_cases e2 : i = j
            · subst e2; exact Or.inl j3
            · exact Or.inr ⟨j, by omega, j2, j3⟩
theorem ed_re (w : Int) (l : List ArcT) (u v : Nat) : Ed (l.map (reA w)) u v ↔ Ed l u v := by
  unfold Ed
  constructor
  · rintro ⟨a, ha, h1, h2⟩
    obtain ⟨x, hx, rfl⟩ := List.mem_map.1 ha
    exact ⟨x, hx, h1, h2⟩
  · rintro ⟨a, ha, h1, h2⟩
    exact ⟨reA w a, List.mem_map.2 ⟨a, ha, rfl⟩, h1, h2⟩
theorem rch_re (w : Int) (l : List ArcT) (u v : Nat) : Rch (l.map (reA w)) u v ↔ Rch l u v :=
  ⟨fun h S hu hs => h S hu fun x y hx he => hs x y hx ((ed_re w l x y).1 he), fun h S hu hs => h S hu fun x y hx he => hs x y hx ((ed_re w l x y).2 he)⟩
theorem csum_re (w : Int) (l : List ArcT) (p : List Int) (h : CycP (l.map (reA w)) p) : ∀ i, i ≤ p.length → csum (l.map (reA w)) p i = (i : Int) * w
  | 0, _ => by simp [csum]
  | i + 1, hi => by
    obtain ⟨x, e, _⟩ := h i (by omega)
    have hx : x = w := by
      unfold cst at e
      obtain ⟨a, ha, e2⟩ := Option.map_eq_some_iff.1 e
      obtain ⟨b, hb, rfl⟩ := List.mem_map.1 (List.mem_of_find?_eq_some ha)
      exact e2.symm
    have hc : cw (l.map (reA w)) p i = w := by unfold cw; rw [e, hx]; rfl
    rw [csum, csum_re w l p h i (by omega), hc, show ((i + 1 : Nat) : Int) = (i : Int) + 1 from by omega, Int.add_mul, Int.one_mul]
theorem twin_none (a0 : Int) (a1 : List Int) (a2 : Int) : ∃ k, F9 k a0 a1 a2 = some ((true, ()), ()) := by
  obtain ⟨k, hk, h11⟩ := start
  refine ⟨k, ?_⟩
  obtain ⟨n, s, e23, hr⟩ := F23_ok k a0 a1 [] hk
  obtain ⟨r1, r2, r3, r4⟩ := ring_arcs hr
  obtain ⟨g1, g2, g3, g4⟩ := hr
  have hnp : ¬ PosP s := fun ⟨a, ha, x, _⟩ => by
    have := (g4.1 a ha).2.2.2.2 rfl
    omega
  have e14 : F14 k s = some (([], false, ()), ()) := by
    rcases F14_ok k n s g1 r1 r4 (by omega) hk with ⟨p, _, hp, _⟩ | ⟨e, _⟩
    · exact absurd hp hnp
    · exact e
  have r8 : ArcsP 8 s.2.2.2.1 := fun a ha => by
    have := r1 a ha
    omega
  have w0 := Int.emod_nonneg a2 (show (50 : Int) ≠ 0 by decide)
  have w1 := Int.emod_lt_of_pos a2 (show (0 : Int) < 50 by decide)
  obtain ⟨c, M1, e1, c1, c2, q1, t1⟩ := F9_0_ok k a2 false s s.2.2.2.1 r8 r4 s.2.2.2.1.length k 0 s (List.replicate 8 (List.replicate 8 false)) (by omega) (by omega) (by unfold mix; simp) rfl ⟨rfl, fun i hi => by rw [getD_lt _ _ _ (by simpa using hi), List.getElem_replicate]; rfl⟩ (fun u v hu hv => by
    constructor
    · intro h
      have hz : tb (List.replicate 8 (List.replicate 8 false)) u v = false := by
        have hrow : List.getD (List.replicate 8 (List.replicate 8 false)) u [] = List.replicate 8 false := by rw [getD_lt _ _ _ (by rw [List.length_replicate]; exact hu), List.getElem_replicate]
        unfold tb
        rw [hrow, getD_lt _ _ _ (by rw [List.length_replicate]; exact hv), List.getElem_replicate]
      rw [hz] at h
      cases h
    · rintro ⟨x, hx, _⟩
      cases hx)
  obtain ⟨M2, e2, q2, t2⟩ := F9_3_ok k a2 false c s.2.2.2.1 hk 8 k 0 M1 (by omega) (by omega) q1 ⟨fun m a b hm => by omega, fun a b ha hb he => (t1 a b ha hb).2 he, fun a b ha hb x => ⟨b, (t1 a b ha hb).1 x, Rch.refl _ _⟩⟩
  obtain ⟨b, e3, hb⟩ := F9_4_ok k a2 c M2 8 k 0 false (by omega) (by omega)
  rw [show ((0 : Nat) : Int) = 0 from rfl] at e1 e2 e3
  have hw0 : (1 : Int) + a2 % 50 > 0 := by omega
  generalize hw : (1 : Int) + a2 % 50 = w at *
  have hcl : c.2.2.2.1.length ≤ 1000 := by rw [c1, List.length_map]; exact r4
  have ca : ArcsP n c.2.2.2.1 := fun a ha => by
    rw [c1] at ha
    obtain ⟨x, hx, rfl⟩ := List.mem_map.1 ha
    exact r1 x hx
  have cu : UniqP c.2.2.2.1 := fun a ha a' ha' x y => by
    rw [c1] at ha ha'
    obtain ⟨u, hu, rfl⟩ := List.mem_map.1 ha
    obtain ⟨v, hv, rfl⟩ := List.mem_map.1 ha'
    rw [r2 u hu v hv x y]
  have cg : WgtP c.2.2.2.1 := fun a ha => by
    rw [c1] at ha
    obtain ⟨x, hx, rfl⟩ := List.mem_map.1 ha
    show 0 ≤ w ∧ w ≤ 1000
    omega
  have hpos : PosP c ↔ b = true := by
    rw [hb]
    unfold PosP
    rw [c1]
    constructor
    · rintro ⟨a, ha, _, hh⟩
      obtain ⟨x, hx, rfl⟩ := List.mem_map.1 ha
      rw [rch_re] at hh
      have hx1 := r8 x hx
      have hu : (Int.toNat x.1) < 8 := by omega
      refine Or.inr ⟨Int.toNat x.1, Nat.zero_le _, hu, (wq_end t2 r8 hu hu).2 ⟨Int.toNat x.2.1, ⟨x, hx, by omega, by omega⟩, hh⟩⟩
    · rintro (x | ⟨j, _, j2, j3⟩)
      · cases x
      · obtain ⟨y, ⟨a, ha, ha1, ha2⟩, hy⟩ := (wq_end t2 r8 j2 j2).1 j3
        refine ⟨reA w a, List.mem_map.2 ⟨a, ha, rfl⟩, hw0, (rch_re w _ _ _).2 ?_⟩
        show Rch s.2.2.2.1 (Int.toNat a.2.1) (Int.toNat a.1)
        rw [ha1, ha2]
        exact hy
  unfold F9
  rw [h11, Option.bind_some]
  simp only
  rw [Bool.not_true, cond_false, e23, Option.bind_some]
  simp only
  rw [e14, Option.bind_some]
  simp only
  rw [cond_false, e1, Option.bind_some]
  simp only
  rw [e2, Option.bind_some]
  simp only
  rw [e3, Option.bind_some]
  simp only
  rcases F14_ok k n c (by rw [c2]; exact g1) ca hcl (by omega) hk with ⟨p, f14, hp, hrd⟩ | ⟨f14, hp⟩
  · have hbt := hpos.1 hp
    subst hbt
    obtain ⟨cyc, pos⟩ := round_cyc hrd cu cg ca
    obtain ⟨a, ha, nx, ha2, hg, h1, h2, h3, h4, h5, h6, h7⟩ := hrd
    have f17 := F17_ok k c p hcl hk (by omega) cyc
    have hsum : csum c.2.2.2.1 p p.length = ((p.length : Nat) : Int) * w := by
      rw [c1] at cyc ⊢
      exact csum_re w _ p cyc p.length (Nat.le_refl _)
    have hmul : 0 ≤ ((p.length : Nat) : Int) * w ∧ ((p.length : Nat) : Int) * w ≤ 8 * 50 := by
      constructor
      · exact Int.mul_nonneg (by omega) (by omega)
      · exact Int.mul_le_mul (by omega) (by omega) (by omega) (by omega)
    rw [f14, Option.bind_some]
    simp only
    rw [f17, Option.bind_some]
    simp only
    rw [beq_self_eq_true, cond_true, Bool.not_true, cond_false, F18_eq k a2 50 (by omega) (by omega), Option.bind_some]
    simp only
    rw [hw, w64 w (by omega) (by omega), w64 _ (by omega) (by omega), hsum, beq_self_eq_true]
  · have hbf : b = false := by
      cases b with
      | false => rfl
      | true => exact absurd (hpos.2 rfl) hp
    subst hbf
    have f17 := F17_ok k c [] hcl hk (by simp) (fun i hi => by simp at hi)
    rw [f14, Option.bind_some]
    simp only
    rw [f17, Option.bind_some, beq_self_eq_true, cond_true, Bool.not_false, cond_true]
end Go.Proofs.YtgojfdimbciaiaaE
namespace Go.Proofs.Ytgojfdimbciaiaa.Pure
open Go.Proofs.YtgojfdimbciaiaaE
theorem TwinNone (a0 : Int) (a1 : List Int) (a2 : Int) : (IntKind.min .i64 ≤ a0 ∧ a0 ≤ IntKind.max .i64) → (a1.length * 8 ≤ 140737488351232) → (∀ x ∈ a1, IntKind.min .i64 ≤ x ∧ x ≤ IntKind.max .i64) → (IntKind.min .i64 ≤ a2 ∧ a2 ≤ IntKind.max .i64) → ∃ k, F9 k a0 a1 a2 = some ((true, ()), ()) := by
  intros
  exact twin_none a0 a1 a2
end Go.Proofs.Ytgojfdimbciaiaa.Pure
