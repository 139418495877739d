/- The plain law of SegBest. Conditions: none. -/
import Derived.Test.YtdgdeckaoajceaaP0
set_option linter.unusedSimpArgs false
set_option linter.unusedVariables false
namespace Go.Proofs.YtdgdeckaoajceaaE
open Go.Proofs.YtdgdeckaoajceaaU (scal offs encL str Scalars scal_encL)
theorem minI_le (a b : Int) : minI a b ≤ a ∧ minI a b ≤ b ∧ (minI a b = a ∨ minI a b = b) := by
  unfold minI
  split <;> omega
def LowP (z : List (List Int)) (c a b : Nat) (m : Int) : Prop := (∀ j, a ≤ j → j < b → m ≤ wt z c j) ∧ m ≤ INF ∧ (m = INF ∨ ∃ j, a ≤ j ∧ j < b ∧ m = wt z c j)
theorem F4_0_eq (k : Nat) (z : List (List Int)) (cu : CurT) (x y : Int) (o : Bool) (c a b : Nat) (hc : c < 3) (hb : b < z.length) (hz : z.length ≤ 100000) : ∀ (d n i : Nat) (m : Int), i + d = b + 1 → a ≤ i → d < n → LowP z c a i m →
    ∃ m' : Int, F4_0 k n x (b : Int) (c : Int) y o m (i : Int) cu z = some ((x, (b : Int), (c : Int), y, o, m', ()), (cu, z, ())) ∧ LowP z c a (b + 1) m'
  | 0, n, i, m, hi, ha, hn, h => by
    obtain ⟨n, rfl⟩ : ∃ m, n = m + 1 := ⟨n - 1, by omega⟩
    obtain rfl : i = b + 1 := by omega
    refine ⟨m, ?_, h⟩
    simp only [F4_0]
    rw [decide_eq_false (by omega), cond_false]
  | d + 1, n, i, m, hi, ha, hn, h => by
    obtain ⟨n, rfl⟩ : ∃ m, n = m + 1 := ⟨n - 1, by omega⟩
    have hlt : i < z.length := by omega
    have hwi : IntKind.wrap .i64 ((i : Int) + 1) = ((i + 1 : Nat) : Int) := by rw [w64 _ (by omega) (by omega)]; omega
    obtain ⟨g1, g2, g3⟩ := h
    have hmn := minI_le m (wt z c i)
    have hw : List.getD (List.getD z (Int.toNat (i : Int)) []) (Int.toNat (c : Int)) 0 = wt z c i := rfl
    obtain ⟨m', e, hh⟩ := F4_0_eq k z cu x y o c a b hc hb hz d n (i + 1) (minI m (wt z c i)) (by omega) (by omega) (by omega) ⟨fun j h1 h2 => by
      by_cases e : j = i
      · subst e; omega
      · have := g1 j h1 (by omega); omega, by omega, by
      rcases hmn.2.2 with e | e
      · rw [e]
        rcases g3 with g3 | ⟨j, j1, j2, j3⟩
        · exact Or.inl g3
        · exact Or.inr ⟨j, j1, by omega, j3⟩
      · exact Or.inr ⟨i, ha, by omega, e⟩⟩
    refine ⟨m', ?_, hh⟩
    simp only [F4_0, hwi, hw]
    rw [decide_eq_true (show (i : Int) ≤ (b : Int) by omega), cond_true, if_pos (inR hlt), if_pos (by omega), e, Option.bind_some]
theorem F4_1_eq (k : Nat) (z : List (List Int)) (cu : CurT) (x m : Int) (c b : Nat) (hc : c < 3) (hb : b < z.length) (hz : z.length ≤ 100000) : ∀ (d n i : Nat), i + d = b + 1 → d < n → (∀ j, i ≤ j → j < b + 1 → m < wt z c j) →
    F4_1 k n x (b : Int) (c : Int) m (i : Int) cu z = some (.inl ((x, (b : Int), (c : Int), ()), (cu, z, ())))
  | 0, n, i, hi, hn, h => by
    obtain ⟨n, rfl⟩ : ∃ m, n = m + 1 := ⟨n - 1, by omega⟩
    simp only [F4_1]
    rw [decide_eq_false (by omega), cond_false]
  | d + 1, n, i, hi, hn, h => by
    obtain ⟨n, rfl⟩ : ∃ m, n = m + 1 := ⟨n - 1, by omega⟩
    have hlt : i < z.length := by omega
    have hwi : IntKind.wrap .i64 ((i : Int) + 1) = ((i + 1 : Nat) : Int) := by rw [w64 _ (by omega) (by omega)]; omega
    have h1 := h i (Nat.le_refl _) (by omega)
    have hw : List.getD (List.getD z (Int.toNat (i : Int)) []) (Int.toNat (c : Int)) 0 = wt z c i := rfl
    simp only [F4_1, hwi, hw]
    rw [decide_eq_true (show (i : Int) ≤ (b : Int) by omega), cond_true, if_pos (inR hlt), if_pos (by omega), beq_false_of_ne (by omega), cond_false, F4_1_eq k z cu x m c b hc hb hz d n (i + 1) (by omega) (by omega) (fun j h1 h2 => h j (by omega) h2), Option.bind_some]
theorem seg_best (a0 a1 : Int) (a2 a3 a4 a5 : List Int) (a6 a7 a8 : Int) : ∃ k, F4 k a0 a1 a2 a3 a4 a5 a6 a7 a8 = some ((true, ()), ()) := by
  obtain ⟨k, hk, h15⟩ := start
  refine ⟨k, ?_⟩
  obtain ⟨t, e16, hm⟩ := F16_ok k a0 a1 a2 a3 a4 (by omega)
  obtain ⟨k1, k2, _⟩ := kst_range a0
  obtain ⟨s, e17, hr, _⟩ := F17_ok k a5 [] (by omega) (by simp)
  rw [List.length_nil] at hr
  have e22 := F22_eq k t hm k1 k2 s (by omega) hk
  have e18 := F18_eq k t hm k1 k2 s (by omega) hk
  have hz0 := sg_pos t (lts t s)
  have hz1 : (sg t (lts t s)).length ≤ 100000 := by have := lts_len t s; rw [sg_length]; omega
  obtain ⟨z, hz⟩ : ∃ z, sg t (lts t s) = z := ⟨_, rfl⟩
  rw [hz] at e22 e18 hz0 hz1
  have e22 : F22 k t s = some ((cur z 0, ()), ()) := e22
  obtain ⟨a, ha, ha2⟩ := mod_nat a6 (z.length : Int) (by omega)
  obtain ⟨b, hb, hb2⟩ := mod_nat a7 ((z.length : Int) - (a : Int)) (by omega)
  obtain ⟨c, hc, hc2⟩ := mod_nat a8 3 (by omega)
  have f1 := F24_eq k a6 (z.length : Int) (by omega) (by omega)
  have f2 := F24_eq k a7 ((z.length : Int) - (a : Int)) (by omega) (by omega)
  have f3 := F24_eq k a8 3 (by omega) (by omega)
  rw [ha] at f1
  rw [hb] at f2
  rw [hc] at f3
  obtain ⟨bi, bv, e25, hbest⟩ := F25_in k z 0 a (a + b) c (by omega) (by omega) (by omega) hz1 hk
  obtain ⟨m, e40, hlow⟩ := F4_0_eq k z (cur z 0) (a : Int) bi (decide (bv < INF)) c a (a + b) (by omega) (by omega) hz1 (b + 1) k a INF (by omega) (Nat.le_refl _) (by omega) ⟨fun j h1 h2 => by omega, Int.le_refl _, Or.inl rfl⟩
  have hI : INF = 1152921504606846976 := rfl
  have e40 : F4_0 k k (a : Int) ((a + b : Nat) : Int) (c : Int) bi (decide (bv < INF)) 1152921504606846976 (a : Int) (cur z 0) z = _ := e40
  unfold F4
  rw [h15, Option.bind_some]
  simp only
  rw [Bool.not_true, cond_false, e16, Option.bind_some]
  simp only
  rw [e17, Option.bind_some]
  simp only
  rw [e22, Option.bind_some, e18, Option.bind_some]
  simp only
  rw [bne_self_eq_false, cond_false, F23_eq, Option.bind_some]
  simp only
  rw [bne_self_eq_false, cond_false, nz hz0, cond_false, f1, Option.bind_some]
  simp only
  rw [w64 ((z.length : Int) - (a : Int)) (by omega) (by omega), f2, Option.bind_some]
  simp only
  rw [f3, Option.bind_some]
  simp only
  rw [w64 ((a : Int) + (b : Int)) (by omega) (by omega), show ((a : Int) + (b : Int)) = ((a + b : Nat) : Int) from by omega, e25, Option.bind_some]
  simp only
  rw [e40, Option.bind_some]
  simp only
  obtain ⟨g1, g2, g3⟩ := hlow
  rcases hbest with ⟨h1, h2, h3⟩ | ⟨i, h1, h2, h3, h4, h5, h6, h7⟩
  · have hmi : m = INF := by
      rcases g3 with g3 | ⟨j, j1, j2, j3⟩
      · exact g3
      · have := h3 j j1 j2; omega
    rw [hmi, h2, h1, hI, beq_self_eq_true, cond_true, decide_eq_false (by omega), Bool.not_false, cond_true]
    rfl
  · have hmi : m = bv := by
      have := g1 i h2 h3
      rcases g3 with g3 | ⟨j, j1, j2, j3⟩
      · omega
      · have := h6 j j1 j2; omega
    have hw : List.getD (List.getD z (Int.toNat (i : Int)) []) (Int.toNat (c : Int)) 0 = wt z c i := rfl
    have hwi : IntKind.wrap .i64 ((i : Int) + 1) = ((i + 1 : Nat) : Int) := by rw [w64 _ (by omega) (by omega)]; omega
    have hwb : IntKind.wrap .i64 (((a + b : Nat) : Int) + 1) = ((a + b : Nat) : Int) + 1 := by rw [w64 _ (by omega) (by omega)]
    have e41 := F4_1_eq k z (cur z 0) (a : Int) bv c (a + b) (by omega) (by omega) hz1 (a + b - i) k (i + 1) (by omega) (by omega) (fun j j1 j2 => h7 j (by omega) j2)
    have o1 := F25_out k z 0 (((a + b : Nat) : Int) + 1) ((a + b : Nat) : Int) (c : Int) (decide_eq_false (by omega))
    have o2 := F25_out k z 0 (a : Int) ((z.length : Nat) : Int) (c : Int) (decide_eq_false (by omega))
    have o3 := F25_out k z 0 (a : Int) ((a + b : Nat) : Int) 3 (decide_eq_false (by omega))
    rw [hmi, beq_false_of_ne (by omega), cond_false, decide_eq_true h5, Bool.not_true, cond_false, h1, decide_eq_false (show ¬ (i : Int) < (a : Int) by omega), cond_false, decide_eq_false (show ¬ (i : Int) > ((a + b : Nat) : Int) by omega), cond_false, if_pos (by omega), if_pos (by omega), hw, h4, bne_self_eq_false, cond_false, hwi, ← h4, e41, Option.bind_some]
    simp only
    rw [hwb, o1, Option.bind_some]
    simp only
    rw [o2, Option.bind_some]
    simp only
    rw [o3, Option.bind_some]
    rfl
end Go.Proofs.YtdgdeckaoajceaaE
namespace Go.Proofs.Ytdgdeckaoajceaa.Pure
open Go.Proofs.YtdgdeckaoajceaaE
theorem SegBest (a0 : Int) (a1 : Int) (a2 : List Int) (a3 : List Int) (a4 : List Int) (a5 : List Int) (a6 : Int) (a7 : Int) (a8 : Int) : (IntKind.min .i64 ≤ a0 ∧ a0 ≤ IntKind.max .i64) → (IntKind.min .i64 ≤ a1 ∧ a1 ≤ IntKind.max .i64) → (a2.length * 8 ≤ 140737488351232) → (∀ x ∈ a2, IntKind.min .i64 ≤ x ∧ x ≤ IntKind.max .i64) → (a3.length * 8 ≤ 140737488351232) → (∀ x ∈ a3, IntKind.min .i64 ≤ x ∧ x ≤ IntKind.max .i64) → (a4.length * 8 ≤ 140737488351232) → (∀ x ∈ a4, IntKind.min .i64 ≤ x ∧ x ≤ IntKind.max .i64) → (a5.length * 8 ≤ 140737488351232) → (∀ x ∈ a5, IntKind.min .i64 ≤ x ∧ x ≤ IntKind.max .i64) → (IntKind.min .i64 ≤ a6 ∧ a6 ≤ IntKind.max .i64) → (IntKind.min .i64 ≤ a7 ∧ a7 ≤ IntKind.max .i64) → (IntKind.min .i64 ≤ a8 ∧ a8 ≤ IntKind.max .i64) → ∃ k, F4 k a0 a1 a2 a3 a4 a5 a6 a7 a8 = some ((true, ()), ()) := by
  intros
  exact seg_best a0 a1 a2 a3 a4 a5 a6 a7 a8
end Go.Proofs.Ytdgdeckaoajceaa.Pure
