/- The plain law of SegCursors. Conditions: none. -/
import Derived.Test.YtdgdeckaoajceaaP0
set_option linter.unusedSimpArgs false
set_option linter.unusedVariables false
namespace Go.Proofs.YtdgdeckaoajceaaE
open Go.Proofs.YtdgdeckaoajceaaU (scal offs encL str Scalars scal_encL)
theorem tail12 (k : Nat) (z : List (List Int)) (p : Int) (ok : Bool) (hp : 0 ≤ p ∧ p < ((z.length : Nat) : Int)) (X : CurT → RecT → Option ((Unit × Unit) ⊕ ((Bool × Unit) × Unit))) :
    ((F32 k (cur z p)).bind fun r64 => (F33 k (rec_ z p)).bind fun r65 => bif (!(ok == ok)) then some (.inr ((false, ()), ())) else bif (r64.1.1 != r65.1.1) then some (.inr ((false, ()), ())) else bif (!(r64.1.2.1 == r65.1.2.1)) then some (.inr ((false, ()), ())) else
      (F23 k r64.2.1).bind fun r66 => (F41 k r65.2.1).bind fun r67 => bif (r66.1.1 != r67.1.1) then some (.inr ((false, ()), ())) else (X r66.2.1 r67.2.1).bind some) = X (cur z p) (rec_ z p) := by
  rw [F32_eq k z p hp, Option.bind_some, F33_eq k z p hp, Option.bind_some]
  simp only
  rw [beq_self_eq_true, Bool.not_true, cond_false, bne_self_eq_false, cond_false, beq_self_eq_true, Bool.not_true, cond_false, F23_eq, Option.bind_some, F41_eq, Option.bind_some]
  simp only
  rw [bne_self_eq_false, cond_false, Option.bind_fun_some]
theorem F12_0_eq (k : Nat) (z : List (List Int)) (l : List Int) (a7 : Int) (hz : z.length ≤ 100000) (hk : 100010 ≤ k) : ∀ (d n i : Nat) (p : Int), i + d = 61 → d < n → (0 ≤ p ∧ p < ((z.length : Nat) : Int)) → F12_0 k n l a7 (i : Int) (cur z p) (rec_ z p) = some (.inl ((), ()))
  | 0, n, i, p, hi, hn, hp => by
    obtain ⟨n, rfl⟩ : ∃ m, n = m + 1 := ⟨n - 1, by omega⟩
    simp only [F12_0]
    by_cases hlt : (i : Int) < ((l.length : Nat) : Int)
    · rw [decide_eq_true hlt, cond_true, decide_eq_false (by omega), cond_false]
    · rw [decide_eq_false hlt, cond_false]
  | d + 1, n, i, p, hi, hn, hp => by
    obtain ⟨n, rfl⟩ : ∃ m, n = m + 1 := ⟨n - 1, by omega⟩
    have hwi : IntKind.wrap .i64 ((i : Int) + 1) = ((i + 1 : Nat) : Int) := by rw [w64 _ (by omega) (by omega)]; omega
    simp only [F12_0, hwi]
    by_cases hlt : i < l.length
    · rw [dlt hlt, cond_true]
      by_cases h60 : (i : Int) < 60
      · rw [decide_eq_true h60, cond_true, if_pos (inR hlt), F24_eq k _ 1073741824 (by omega) (by omega), Option.bind_some]
        simp only
        generalize List.getD l (Int.toNat (i : Int)) 0 % 1073741824 = w
        generalize IntKind.wrap .i64 (Int.tmod (IntKind.wrap .i64 (Int.tdiv w 8)) 45 - 2) = xa
        generalize IntKind.wrap .i64 (Int.tmod (IntKind.wrap .i64 (Int.tdiv w 360)) 45 - 2) = xb
        generalize IntKind.wrap .i64 (Int.tmod (IntKind.wrap .i64 (Int.tdiv w 16200)) 5 - 1) = xc
        have ih : ∀ q, (0 ≤ q ∧ q < ((z.length : Nat) : Int)) → F12_0 k n l a7 ((i + 1 : Nat) : Int) (cur z q) (rec_ z q) = some (.inl ((), ())) := fun q hq => F12_0_eq k z l a7 hz hk d n (i + 1) q (by omega) (by omega) hq
        cases hc0 : (Int.tmod w 8 == 0)
        · rw [cond_false]
          cases hc1 : (Int.tmod w 8 == 1)
          · rw [cond_false]
            cases hc2 : (Int.tmod w 8 == 2)
            · rw [cond_false]
              cases hc3 : (Int.tmod w 8 == 3)
              · rw [cond_false]
                cases hc4 : (Int.tmod w 8 == 4)
                · rw [cond_false]
                  obtain ⟨bi, ok, e1, e2⟩ := best_same k z p p xa xb xc hz hk
                  rw [e1, Option.bind_some, e2, Option.bind_some]
                  simp only
                  rw [beq_self_eq_true, cond_true]
                  exact (tail12 k z p ok hp (fun a b => F12_0 k n l a7 ((i + 1 : Nat) : Int) a b)).trans (ih _ hp)
                · rw [cond_true, F30_eq, Option.bind_some, F31_eq, Option.bind_some]
                  exact (tail12 k z _ _ (sk_in hp) (fun a b => F12_0 k n l a7 ((i + 1 : Nat) : Int) a b)).trans (ih _ (sk_in hp))
              · rw [cond_true, F30_eq, Option.bind_some, F31_eq, Option.bind_some]
                exact (tail12 k z _ _ (sk_in hp) (fun a b => F12_0 k n l a7 ((i + 1 : Nat) : Int) a b)).trans (ih _ (sk_in hp))
            · rw [cond_true, F37_eq k z p hp (by omega), Option.bind_some, F39_eq k z p hp (by omega), Option.bind_some]
              exact (tail12 k z _ _ (sk_in hp) (fun a b => F12_0 k n l a7 ((i + 1 : Nat) : Int) a b)).trans (ih _ (sk_in hp))
          · rw [cond_true]
            rw [F36_eq k z p hp (by omega), Option.bind_some, F38_eq k z p hp (by omega), Option.bind_some]
            exact (tail12 k z _ _ (sk_in hp) (fun a b => F12_0 k n l a7 ((i + 1 : Nat) : Int) a b)).trans (ih _ (sk_in hp))
        · rw [cond_true, F36_eq k z p hp (by omega), Option.bind_some, F38_eq k z p hp (by omega), Option.bind_some]
          exact (tail12 k z _ _ (sk_in hp) (fun a b => F12_0 k n l a7 ((i + 1 : Nat) : Int) a b)).trans (ih _ (sk_in hp))
      · rw [decide_eq_false h60, cond_false]
    · rw [decide_eq_false (by omega), cond_false]
theorem seg_cursors (a0 a1 : Int) (a2 a3 a4 a5 a6 : List Int) (a7 : Int) : ∃ k, F12 k a0 a1 a2 a3 a4 a5 a6 a7 = some ((true, ()), ()) := by
  obtain ⟨k, hk, h15⟩ := start
  refine ⟨k, ?_⟩
  obtain ⟨t, e16, hm⟩ := F16_ok k a0 a1 a2 a3 a4 (by omega)
  obtain ⟨k1, k2, _⟩ := kst_range a0
  obtain ⟨s, e17, hr, _⟩ := F17_ok k a5 [] (by omega) (by simp)
  rw [List.length_nil] at hr
  have e22 := F22_eq k t hm k1 k2 s (by omega) hk
  have e29 := F29_eq k t hm k1 k2 s (by omega) hk
  have hz0 := sg_pos t (lts t s)
  have hz1 : (sg t (lts t s)).length ≤ 100000 := by have := lts_len t s; rw [sg_length]; omega
  obtain ⟨z, hz⟩ : ∃ z, sg t (lts t s) = z := ⟨_, rfl⟩
  rw [hz] at e22 e29 hz0 hz1
  have e22 : F22 k t s = some ((cur z 0, ()), ()) := e22
  have e29 : F29 k t s = some ((rec_ z 0, ()), ()) := e29
  have e : F12_0 k k a6 a7 0 (cur z 0) (rec_ z 0) = some (.inl ((), ())) := F12_0_eq k z a6 a7 hz1 hk 61 k 0 0 (by omega) (by omega) (by omega)
  unfold F12
  rw [h15, Option.bind_some]
  simp only
  rw [Bool.not_true, cond_false, e16, Option.bind_some]
  simp only
  rw [e17, Option.bind_some]
  simp only
  rw [e22, Option.bind_some, e29, Option.bind_some]
  simp only
  rw [e, Option.bind_some]
end Go.Proofs.YtdgdeckaoajceaaE
namespace Go.Proofs.Ytdgdeckaoajceaa.Pure
open Go.Proofs.YtdgdeckaoajceaaE
theorem SegCursors (a0 : Int) (a1 : Int) (a2 : List Int) (a3 : List Int) (a4 : List Int) (a5 : List Int) (a6 : List Int) (a7 : Int) : (IntKind.min .i64 ≤ a0 ∧ a0 ≤ IntKind.max .i64) → (IntKind.min .i64 ≤ a1 ∧ a1 ≤ IntKind.max .i64) → (a2.length * 8 ≤ 140737488351232) → (∀ x ∈ a2, IntKind.min .i64 ≤ x ∧ x ≤ IntKind.max .i64) → (a3.length * 8 ≤ 140737488351232) → (∀ x ∈ a3, IntKind.min .i64 ≤ x ∧ x ≤ IntKind.max .i64) → (a4.length * 8 ≤ 140737488351232) → (∀ x ∈ a4, IntKind.min .i64 ≤ x ∧ x ≤ IntKind.max .i64) → (a5.length * 8 ≤ 140737488351232) → (∀ x ∈ a5, IntKind.min .i64 ≤ x ∧ x ≤ IntKind.max .i64) → (a6.length * 8 ≤ 140737488351232) → (∀ x ∈ a6, IntKind.min .i64 ≤ x ∧ x ≤ IntKind.max .i64) → (IntKind.min .i64 ≤ a7 ∧ a7 ≤ IntKind.max .i64) → ∃ k, F12 k a0 a1 a2 a3 a4 a5 a6 a7 = some ((true, ()), ()) := by
  intros
  exact seg_cursors a0 a1 a2 a3 a4 a5 a6 a7
end Go.Proofs.Ytdgdeckaoajceaa.Pure
