/- The plain law of SegWindows. Conditions: none. -/
import Derived.Test.YtdgdeckaoajceaaP0
set_option linter.unusedSimpArgs false
set_option linter.unusedVariables false
namespace Go.Proofs.YtdgdeckaoajceaaE
open Go.Proofs.YtdgdeckaoajceaaU (scal offs encL str Scalars scal_encL)
theorem BestP_join {z : List (List Int)} {c a b d : Nat} (hab : a ≤ b) (hbd : b ≤ d) {i1 v1 i2 v2 : Int} (h1 : BestP z c a b i1 v1) (h2 : BestP z c b d i2 v2) :
    (v1 < INF → v2 < INF → v2 ≤ v1 → BestP z c a d i2 v2) ∧ (v1 < INF → ¬ (v2 < INF ∧ v2 ≤ v1) → BestP z c a d i1 v1) ∧ (¬ v1 < INF → BestP z c a d i2 v2) := by
  refine ⟨fun q1 q2 q3 => ?_, fun q1 q2 => ?_, fun q1 => ?_⟩
  · rcases h2 with ⟨x1, x2, x3⟩ | ⟨i, x1, x2, x3, x4, x5, x6, x7⟩
    · omega
    · refine Or.inr ⟨i, x1, by omega, x3, x4, x5, fun j j1 j2 => ?_, x7⟩
      by_cases hj : j < b
      · rcases h1 with ⟨y1, y2, y3⟩ | ⟨i', y1, y2, y3, y4, y5, y6, y7⟩
        · have := y3 j j1 hj; omega
        · have := y6 j j1 hj; omega
      · exact x6 j (by omega) j2
  · rcases h1 with ⟨y1, y2, y3⟩ | ⟨i, y1, y2, y3, y4, y5, y6, y7⟩
    · omega
    · refine Or.inr ⟨i, y1, y2, by omega, y4, y5, fun j j1 j2 => ?_, fun j j1 j2 => ?_⟩
      · by_cases hj : j < b
        · exact y6 j j1 hj
        · rcases h2 with ⟨x1, x2, x3⟩ | ⟨i', x1, x2, x3, x4, x5, x6, x7⟩
          · have := x3 j (by omega) j2; omega
          · have := x6 j (by omega) j2; omega
      · by_cases hj : j < b
        · exact y7 j j1 hj
        · rcases h2 with ⟨x1, x2, x3⟩ | ⟨i', x1, x2, x3, x4, x5, x6, x7⟩
          · have := x3 j (by omega) j2; omega
          · have := x6 j (by omega) j2; omega
  · have hy : ∀ j, a ≤ j → j < b → INF ≤ wt z c j := by
      rcases h1 with ⟨y1, y2, y3⟩ | ⟨i, y1, y2, y3, y4, y5, y6, y7⟩
      · exact y3
      · omega
    rcases h2 with ⟨x1, x2, x3⟩ | ⟨i, x1, x2, x3, x4, x5, x6, x7⟩
    · refine Or.inl ⟨x1, x2, fun j j1 j2 => ?_⟩
      by_cases hj : j < b
      · exact hy j j1 hj
      · exact x3 j (by omega) j2
    · refine Or.inr ⟨i, x1, by omega, x3, x4, x5, fun j j1 j2 => ?_, x7⟩
      by_cases hj : j < b
      · have := hy j j1 hj; omega
      · exact x6 j (by omega) j2
theorem BestP_at {z : List (List Int)} {c a b : Nat} {i v : Int} (h : BestP z c a b i v) (hv : v < INF) : ∃ n : Nat, i = n ∧ a ≤ n ∧ n < b ∧ v = wt z c n := by
  rcases h with ⟨x1, x2, x3⟩ | ⟨i, x1, x2, x3, x4, x5, x6, x7⟩
  · omega
  · exact ⟨i, x1, x2, x3, x4⟩
theorem BestP_no {z : List (List Int)} {c a b : Nat} {i v : Int} (h : BestP z c a b i v) (hv : ¬ v < INF) : i = 0 ∧ v = INF := by
  rcases h with ⟨x1, x2, x3⟩ | ⟨i, x1, x2, x3, x4, x5, x6, x7⟩
  · exact ⟨x1, x2⟩
  · omega
/-- How the law decides. -/
theorem windows_end (z : List (List Int)) (c a b d : Nat) (hab : a ≤ b) (hbd : b ≤ d) (hd : d ≤ z.length) (hc : c < 3) (i1 v1 i2 v2 i v : Int) (h1 : BestP z c a b i1 v1) (h2 : BestP z c b d i2 v2) (h : BestP z c a d i v) :
    (bif (!(decide (v1 < INF))) then
        bif (!(decide (v2 < INF))) then
          some (((!(decide (v < INF))), ()), ())
        else
          bif (!(decide (v1 < INF))) then
            bif (decide (v < INF)) then
              some (((i == i2), ()), ())
            else
              some ((false, ()), ())
          else
            bif (!(decide (v2 < INF))) then
              bif (decide (v < INF)) then
                some (((i == i1), ()), ())
              else
                some ((false, ()), ())
            else
              bif (decide (i2 < (0 : Int))) then
                some ((false, ()), ())
              else
                bif (decide (i2 ≥ ((List.length z : Nat) : Int))) then
                  some ((false, ()), ())
                else
                  bif (decide (i1 < (0 : Int))) then
                    some ((false, ()), ())
                  else
                    bif (decide (i1 ≥ ((List.length z : Nat) : Int))) then
                      some ((false, ()), ())
                    else
                      if 0 ≤ i2 ∧ i2 < ((List.length z : Nat) : Int) then
                        if 0 ≤ (c : Int) ∧ (c : Int) < ((3 : Nat) : Int) then
                          if 0 ≤ i1 ∧ i1 < ((List.length z : Nat) : Int) then
                            if 0 ≤ (c : Int) ∧ (c : Int) < ((3 : Nat) : Int) then
                              bif (decide ((List.getD (List.getD z (Int.toNat i2) ([] : (List Int))) (Int.toNat (c : Int)) (0 : Int)) ≤ (List.getD (List.getD z (Int.toNat i1) ([] : (List Int))) (Int.toNat (c : Int)) (0 : Int)))) then
                                bif (decide (v < INF)) then
                                  some (((i == i2), ()), ())
                                else
                                  some ((false, ()), ())
                              else
                                bif (decide (v < INF)) then
                                  some (((i == i1), ()), ())
                                else
                                  some ((false, ()), ())
                            else none
                          else none
                        else none
                      else none
      else
        bif (!(decide (v1 < INF))) then
          bif (decide (v < INF)) then
            some (((i == i2), ()), ())
          else
            some ((false, ()), ())
        else
          bif (!(decide (v2 < INF))) then
            bif (decide (v < INF)) then
              some (((i == i1), ()), ())
            else
              some ((false, ()), ())
          else
            bif (decide (i2 < (0 : Int))) then
              some ((false, ()), ())
            else
              bif (decide (i2 ≥ ((List.length z : Nat) : Int))) then
                some ((false, ()), ())
              else
                bif (decide (i1 < (0 : Int))) then
                  some ((false, ()), ())
                else
                  bif (decide (i1 ≥ ((List.length z : Nat) : Int))) then
                    some ((false, ()), ())
                  else
                    if 0 ≤ i2 ∧ i2 < ((List.length z : Nat) : Int) then
                      if 0 ≤ (c : Int) ∧ (c : Int) < ((3 : Nat) : Int) then
                        if 0 ≤ i1 ∧ i1 < ((List.length z : Nat) : Int) then
                          if 0 ≤ (c : Int) ∧ (c : Int) < ((3 : Nat) : Int) then
                            bif (decide ((List.getD (List.getD z (Int.toNat i2) ([] : (List Int))) (Int.toNat (c : Int)) (0 : Int)) ≤ (List.getD (List.getD z (Int.toNat i1) ([] : (List Int))) (Int.toNat (c : Int)) (0 : Int)))) then
                              bif (decide (v < INF)) then
                                some (((i == i2), ()), ())
                              else
                                some ((false, ()), ())
                            else
                              bif (decide (v < INF)) then
                                some (((i == i1), ()), ())
                              else
                                some ((false, ()), ())
                          else none
                        else none
                      else none
                    else none) = (some ((true, ()), ()) : Option ((Bool × Unit) × Unit)) := by
  obtain ⟨j1, j2, j3⟩ := BestP_join hab hbd h1 h2
  by_cases q1 : v1 < INF
  · rw [decide_eq_true q1, Bool.not_true, cond_false, cond_false]
    obtain ⟨n1, r1, r2, r3, r4⟩ := BestP_at h1 q1
    by_cases q2 : v2 < INF
    · obtain ⟨n2, s1, s2, s3, s4⟩ := BestP_at h2 q2
      rw [decide_eq_true q2, Bool.not_true, cond_false, decide_eq_false (show ¬ i2 < 0 by omega), cond_false, decide_eq_false (show ¬ i2 ≥ ((z.length : Nat) : Int) by omega), cond_false, decide_eq_false (show ¬ i1 < 0 by omega), cond_false, decide_eq_false (show ¬ i1 ≥ ((z.length : Nat) : Int) by omega), cond_false, if_pos (by omega), if_pos (by omega), if_pos (by omega), if_pos (by omega)]
      have w1 : List.getD (List.getD z (Int.toNat i1) []) (Int.toNat (c : Int)) 0 = v1 := by rw [r1, r4]; rfl
      have w2 : List.getD (List.getD z (Int.toNat i2) []) (Int.toNat (c : Int)) 0 = v2 := by rw [s1, s4]; rfl
      rw [w1, w2]
      by_cases q3 : v2 ≤ v1
      · obtain ⟨e1, e2⟩ := BestP_one h (j1 q1 q2 q3)
        rw [decide_eq_true q3, cond_true, e1, e2, decide_eq_true q2, cond_true, beq_self_eq_true]
      · obtain ⟨e1, e2⟩ := BestP_one h (j2 q1 (by omega))
        rw [decide_eq_false q3, cond_false, e1, e2, decide_eq_true q1, cond_true, beq_self_eq_true]
    · obtain ⟨e1, e2⟩ := BestP_one h (j2 q1 (by omega))
      rw [decide_eq_false q2, Bool.not_false, cond_true, e1, e2, decide_eq_true q1, cond_true, beq_self_eq_true]
  · obtain ⟨e1, e2⟩ := BestP_one h (j3 q1)
    rw [decide_eq_false q1, Bool.not_false, cond_true, cond_true, e1, e2]
    by_cases q2 : v2 < INF
    · rw [decide_eq_true q2, Bool.not_true, cond_false, cond_true, beq_self_eq_true]
    · rw [decide_eq_false q2, Bool.not_false, cond_true]
theorem F25_any (k : Nat) (z : List (List Int)) (p : Int) (a b c : Nat) (hc : c < 3) (hab : a ≤ b) (hb : b ≤ z.length) (hz : z.length ≤ 100000) (hk : 100010 ≤ k) : ∃ bi bv : Int, F25 k (cur z p) (a : Int) ((b : Int) - 1) (c : Int) = some ((bi, decide (bv < INF), ()), (cur z p, ())) ∧ BestP z c a b bi bv := by
  by_cases h : a < b
  · obtain ⟨bi, bv, e, hh⟩ := F25_in k z p a (b - 1) c hc (by omega) (by omega) hz hk
    rw [show b - 1 + 1 = b from by omega] at hh
    rw [show ((b - 1 : Nat) : Int) = (b : Int) - 1 from by omega] at e
    exact ⟨bi, bv, e, hh⟩
  · refine ⟨0, INF, ?_, Or.inl ⟨rfl, rfl, fun j h1 h2 => by omega⟩⟩
    rw [F25_out k z p _ _ _ (decide_eq_false (by omega)), decide_eq_false (show ¬ INF < INF by omega)]
theorem seg_windows (a0 a1 : Int) (a2 a3 a4 a5 : List Int) (a6 a7 a8 a9 : Int) : ∃ k, F7 k a0 a1 a2 a3 a4 a5 a6 a7 a8 a9 = some ((true, ()), ()) := by
  obtain ⟨k, hk, h15⟩ := start
  refine ⟨k, ?_⟩
  obtain ⟨t, e16, hm⟩ := F16_ok k a0 a1 a2 a3 a4 (by omega)
  obtain ⟨k1, k2, _⟩ := kst_range a0
  obtain ⟨s, e17, hr, _⟩ := F17_ok k a5 [] (by omega) (by simp)
  rw [List.length_nil] at hr
  have e22 := F22_eq k t hm k1 k2 s (by omega) hk
  have e19 := F19_eq k t hm k1 k2 s (by omega) hk
  have hz0 := sg_pos t (lts t s)
  have hz1 : (sg t (lts t s)).length ≤ 100000 := by have := lts_len t s; rw [sg_length]; omega
  obtain ⟨z, hz⟩ : ∃ z, sg t (lts t s) = z := ⟨_, rfl⟩
  rw [hz] at e22 e19 hz0 hz1
  have e22 : F22 k t s = some ((cur z 0, ()), ()) := e22
  obtain ⟨a, ha, ha2⟩ := mod_nat a6 (z.length : Int) (by omega)
  obtain ⟨b, hb, hb2⟩ := mod_nat a8 ((z.length : Int) - (a : Int)) (by omega)
  obtain ⟨m, hm2, hm3⟩ := mod_nat a7 ((b : Int) + 1) (by omega)
  obtain ⟨c, hc, hc2⟩ := mod_nat a9 3 (by omega)
  have f1 := F24_eq k a6 (z.length : Int) (by omega) (by omega)
  have f2 := F24_eq k a8 ((z.length : Int) - (a : Int)) (by omega) (by omega)
  have f3 := F24_eq k a7 ((b : Int) + 1) (by omega) (by omega)
  have f4 := F24_eq k a9 3 (by omega) (by omega)
  rw [ha] at f1
  rw [hb] at f2
  rw [hm2] at f3
  rw [hc] at f4
  obtain ⟨i, v, g1, p1⟩ := F25_any k z 0 a (a + b + 1) c (by omega) (by omega) (by omega) hz1 hk
  obtain ⟨i1, v1, g2, p2⟩ := F25_any k z 0 a (a + m + 1) c (by omega) (by omega) (by omega) hz1 hk
  obtain ⟨i2, v2, g3, p3⟩ := F25_any k z 0 (a + m + 1) (a + b + 1) c (by omega) (by omega) (by omega) hz1 hk
  have wb : IntKind.wrap .i64 ((a : Int) + (b : Int)) = ((a + b + 1 : Nat) : Int) - 1 := by rw [w64 _ (by omega) (by omega)]; omega
  have wm : IntKind.wrap .i64 ((a : Int) + (m : Int)) = ((a + m + 1 : Nat) : Int) - 1 := by rw [w64 _ (by omega) (by omega)]; omega
  have wl : IntKind.wrap .i64 (((z.length : Nat) : Int) - (a : Int)) = ((z.length : Nat) : Int) - (a : Int) := by rw [w64 _ (by omega) (by omega)]
  have w5 : IntKind.wrap .i64 ((IntKind.wrap .i64 ((((a + b + 1 : Nat) : Int) - 1) - (a : Int))) + 1) = (b : Int) + 1 := by
    rw [w64 ((((a + b + 1 : Nat) : Int) - 1) - (a : Int)) (by omega) (by omega), w64 _ (by omega) (by omega)]
    omega
  have w6 : IntKind.wrap .i64 ((((a + m + 1 : Nat) : Int) - 1) + 1) = ((a + m + 1 : Nat) : Int) := by rw [w64 _ (by omega) (by omega)]; omega
  unfold F7
  rw [h15, Option.bind_some]
  simp only
  rw [Bool.not_true, cond_false, e16, Option.bind_some]
  simp only
  rw [e17, Option.bind_some]
  simp only
  rw [e22, Option.bind_some, e19, Option.bind_some]
  simp only
  rw [F23_eq, Option.bind_some]
  simp only
  rw [bne_self_eq_false, cond_false, f1, Option.bind_some]
  simp only [wl]
  rw [f2, Option.bind_some]
  simp only [wb, w5]
  rw [f3, Option.bind_some]
  simp only [wm, w6]
  rw [f4, Option.bind_some]
  simp only
  rw [g1, Option.bind_some]
  simp only
  rw [g2, Option.bind_some]
  simp only
  rw [g3, Option.bind_some]
  exact windows_end z c a (a + m + 1) (a + b + 1) (by omega) (by omega) (by omega) (by omega) i1 v1 i2 v2 i v p2 p3 p1
end Go.Proofs.YtdgdeckaoajceaaE
namespace Go.Proofs.Ytdgdeckaoajceaa.Pure
open Go.Proofs.YtdgdeckaoajceaaE
theorem SegWindows (a0 : Int) (a1 : Int) (a2 : List Int) (a3 : List Int) (a4 : List Int) (a5 : List Int) (a6 : Int) (a7 : Int) (a8 : Int) (a9 : Int) : (IntKind.min .i64 ≤ a0 ∧ a0 ≤ IntKind.max .i64) → (IntKind.min .i64 ≤ a1 ∧ a1 ≤ IntKind.max .i64) → (a2.length * 8 ≤ 140737488351232) → (∀ x ∈ a2, IntKind.min .i64 ≤ x ∧ x ≤ IntKind.max .i64) → (a3.length * 8 ≤ 140737488351232) → (∀ x ∈ a3, IntKind.min .i64 ≤ x ∧ x ≤ IntKind.max .i64) → (a4.length * 8 ≤ 140737488351232) → (∀ x ∈ a4, IntKind.min .i64 ≤ x ∧ x ≤ IntKind.max .i64) → (a5.length * 8 ≤ 140737488351232) → (∀ x ∈ a5, IntKind.min .i64 ≤ x ∧ x ≤ IntKind.max .i64) → (IntKind.min .i64 ≤ a6 ∧ a6 ≤ IntKind.max .i64) → (IntKind.min .i64 ≤ a7 ∧ a7 ≤ IntKind.max .i64) → (IntKind.min .i64 ≤ a8 ∧ a8 ≤ IntKind.max .i64) → (IntKind.min .i64 ≤ a9 ∧ a9 ≤ IntKind.max .i64) → ∃ k, F7 k a0 a1 a2 a3 a4 a5 a6 a7 a8 a9 = some ((true, ()), ()) := by
  intros
  exact seg_windows a0 a1 a2 a3 a4 a5 a6 a7 a8 a9
end Go.Proofs.Ytdgdeckaoajceaa.Pure
