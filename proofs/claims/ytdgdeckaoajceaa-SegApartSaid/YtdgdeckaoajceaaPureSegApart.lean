/- The plain law of SegApart. Conditions: none. -/
import Derived.Test.YtdgdeckaoajceaaP0
set_option linter.unusedSimpArgs false
set_option linter.unusedVariables false
namespace Go.Proofs.YtdgdeckaoajceaaE
open Go.Proofs.YtdgdeckaoajceaaU (scal offs encL str Scalars scal_encL)
theorem F9_0_eq (k : Nat) (t : Tb) (z z3 : List (List Int)) (l : List Int) (hz : z.length ≤ 100000) : ∀ (d n i : Nat) (p q : Int), i + d = 31 → d < n → (0 ≤ p ∧ p < ((z.length : Nat) : Int)) →
    ∃ p' q' : Int, (0 ≤ p' ∧ p' < ((z.length : Nat) : Int)) ∧ F9_0 k n l (i : Int) t (cur z p) (cur z3 q) (rec_ z p) = some (.inl ((), (t, cur z p', cur z3 q', rec_ z p', ())))
  | 0, n, i, p, q, hi, hn, hp => by
    obtain ⟨n, rfl⟩ : ∃ m, n = m + 1 := ⟨n - 1, by omega⟩
    refine ⟨p, q, hp, ?_⟩
    simp only [F9_0]
    by_cases hlt : (i : Int) < ((l.length : Nat) : Int)
    · rw [decide_eq_true hlt, cond_true, decide_eq_false (by omega), cond_false]
    · rw [decide_eq_false hlt, cond_false]
  | d + 1, n, i, p, q, hi, hn, hp => by
    obtain ⟨n, rfl⟩ : ∃ m, n = m + 1 := ⟨n - 1, by omega⟩
    have hwi : IntKind.wrap .i64 ((i : Int) + 1) = ((i + 1 : Nat) : Int) := by rw [w64 _ (by omega) (by omega)]; omega
    simp only [F9_0, hwi]
    by_cases hlt : i < l.length
    · rw [dlt hlt, cond_true]
      by_cases h30 : (i : Int) < 30
      · rw [decide_eq_true h30, cond_true, if_pos (inR hlt), F24_eq k _ 4 (by omega) (by omega), Option.bind_some]
        simp only
        rw [F30_eq, Option.bind_some, if_pos (inR hlt), if_pos (inR hlt), F24_eq k _ 50 (by omega) (by omega), Option.bind_some]
        simp only
        rw [F30_eq, Option.bind_some, Option.bind_some]
        simp only
        rw [F31_eq, Option.bind_some]
        simp only
        rw [beq_self_eq_true, Bool.not_true, cond_false]
        obtain ⟨p', q', h, e⟩ := F9_0_eq k t z z3 l hz d n (i + 1) _ _ (by omega) (by omega) (sk_in hp)
        exact ⟨p', q', h, by rw [e, Option.bind_some]⟩
      · rw [decide_eq_false h30, cond_false]
        exact ⟨p, q, hp, rfl⟩
    · rw [decide_eq_false (by omega), cond_false]
      exact ⟨p, q, hp, rfl⟩
theorem F9_1_eq (k : Nat) (a b : CurT) (c : RecT) : ∀ (d n i : Nat) (t : Tb), t.2.2.2.1.2.1.length ≤ 1000 → (∀ r ∈ t.2.2.2.1.2.1, 0 < r.length) → i + d = t.2.2.2.1.2.1.length → d < n → F9_1 k n (i : Int) t a b c = some ((), (a, b, c, ()))
  | 0, n, i, t, hl, hr, hi, hn => by
    obtain ⟨n, rfl⟩ : ∃ m, n = m + 1 := ⟨n - 1, by omega⟩
    simp only [F9_1]
    rw [decide_eq_false (by omega), cond_false]
  | d + 1, n, i, t, hl, hr, hi, hn => by
    obtain ⟨n, rfl⟩ : ∃ m, n = m + 1 := ⟨n - 1, by omega⟩
    have hlt : i < t.2.2.2.1.2.1.length := by omega
    have hrow := hr _ (List.getElem_mem hlt)
    have hwi : IntKind.wrap .i64 ((i : Int) + 1) = ((i + 1 : Nat) : Int) := by rw [w64 _ (by omega) (by omega)]; omega
    simp only [F9_1, hwi]
    rw [dlt hlt, cond_true, if_pos (inR hlt), Int.toNat_natCast, getD_lt _ _ _ hlt, if_pos (by omega), F9_1_eq k a b c d n (i + 1) _ (by simp; omega) (fun r hx => by
      rcases List.mem_or_eq_of_mem_set hx with hx | rfl
      · exact hr r hx
      · rw [List.length_set]; exact hrow) (by simp; omega) (by omega), Option.bind_some]
theorem seg_apart (a0 a1 : Int) (a2 a3 a4 a5 a6 : List Int) : ∃ k, F9 k a0 a1 a2 a3 a4 a5 a6 = some ((true, ()), ()) := by
  obtain ⟨k, hk, h15⟩ := start
  refine ⟨k, ?_⟩
  obtain ⟨t, e16, hm⟩ := F16_ok k a0 a1 a2 a3 a4 (by omega)
  obtain ⟨k1, k2, _⟩ := kst_range a0
  obtain ⟨s, e17, hr, _⟩ := F17_ok k a5 [] (by omega) (by simp)
  rw [List.length_nil] at hr
  have e22 := F22_eq k t hm k1 k2 s (by omega) hk
  have e29 := F29_eq k t hm k1 k2 s (by omega) hk
  have e23 := F22_eq k t hm k1 k2 (⟨#[97, 98, 99]⟩ : ByteArray) (by decide) hk
  have hz0 := sg_pos t (lts t s)
  have hz1 : (sg t (lts t s)).length ≤ 100000 := by have := lts_len t s; rw [sg_length]; omega
  have hz3 : (sg t (lts t ⟨#[97, 98, 99]⟩)).length = 4 := by
    have h : (scal ⟨#[97, 98, 99]⟩).length = 3 := by decide +kernel
    rw [sg_length, lts_len2, h]
  obtain ⟨z, hz⟩ : ∃ z, sg t (lts t s) = z := ⟨_, rfl⟩
  obtain ⟨z3, hzz⟩ : ∃ z, sg t (lts t ⟨#[97, 98, 99]⟩) = z := ⟨_, rfl⟩
  rw [hz] at e22 e29 hz0 hz1
  rw [hzz] at e23 hz3
  have e22 : F22 k t s = some ((cur z 0, ()), ()) := e22
  have e29 : F29 k t s = some ((rec_ z 0, ()), ()) := e29
  have e23 : F22 k t ⟨#[97, 98, 99]⟩ = some ((cur z3 0, ()), ()) := e23
  obtain ⟨p, q, hp, e0⟩ := F9_0_eq k t z z3 a6 hz1 31 k 0 0 0 (by omega) (by omega) (by omega)
  rw [show ((0 : Nat) : Int) = 0 from rfl] at e0
  have hml := hm.2.2.2.2.2.2.2.2.2
  have e1 := F9_1_eq k (cur z p) (cur z3 q) (rec_ z p) t.2.2.2.1.2.1.length k 0 t (by have := hml.1; omega) (fun r hx => by have := (hml.2 r hx).1; omega) (by omega) (by have := hml.1; omega)
  rw [show ((0 : Nat) : Int) = 0 from rfl] at e1
  unfold F9
  rw [h15, Option.bind_some]
  simp only
  rw [Bool.not_true, cond_false, e16, Option.bind_some, Option.bind_some]
  simp only
  rw [e17, Option.bind_some]
  simp only
  rw [e22, Option.bind_some, e23, Option.bind_some, e29, Option.bind_some]
  simp only
  rw [e0, Option.bind_some]
  simp only
  rw [e1, Option.bind_some]
  simp only
  rw [F32_eq k z p hp, Option.bind_some, F33_eq k z p hp, Option.bind_some]
  simp only
  rw [beq_self_eq_true, cond_true, beq_self_eq_true, cond_true, F23_eq, Option.bind_some]
  simp only
  rw [hz3]
  rfl
end Go.Proofs.YtdgdeckaoajceaaE
namespace Go.Proofs.Ytdgdeckaoajceaa.Pure
open Go.Proofs.YtdgdeckaoajceaaE
theorem SegApart (a0 : Int) (a1 : Int) (a2 : List Int) (a3 : List Int) (a4 : List Int) (a5 : List Int) (a6 : List Int) : (IntKind.min .i64 ≤ a0 ∧ a0 ≤ IntKind.max .i64) → (IntKind.min .i64 ≤ a1 ∧ a1 ≤ IntKind.max .i64) → (a2.length * 8 ≤ 140737488351232) → (∀ x ∈ a2, IntKind.min .i64 ≤ x ∧ x ≤ IntKind.max .i64) → (a3.length * 8 ≤ 140737488351232) → (∀ x ∈ a3, IntKind.min .i64 ≤ x ∧ x ≤ IntKind.max .i64) → (a4.length * 8 ≤ 140737488351232) → (∀ x ∈ a4, IntKind.min .i64 ≤ x ∧ x ≤ IntKind.max .i64) → (a5.length * 8 ≤ 140737488351232) → (∀ x ∈ a5, IntKind.min .i64 ≤ x ∧ x ≤ IntKind.max .i64) → (a6.length * 8 ≤ 140737488351232) → (∀ x ∈ a6, IntKind.min .i64 ≤ x ∧ x ≤ IntKind.max .i64) → ∃ k, F9 k a0 a1 a2 a3 a4 a5 a6 = some ((true, ()), ()) := by
  intros
  exact seg_apart a0 a1 a2 a3 a4 a5 a6
end Go.Proofs.Ytdgdeckaoajceaa.Pure
