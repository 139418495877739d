/- The plain law of SegWalks. Conditions: none. -/
import Derived.Test.YtdgdeckaoajceaaP0
set_option linter.unusedSimpArgs false
set_option linter.unusedVariables false
namespace Go.Proofs.YtdgdeckaoajceaaE
open Go.Proofs.YtdgdeckaoajceaaU (scal offs encL str Scalars scal_encL)
theorem inZ_eq (z : List (List Int)) (a : Int) (h : 0 ≤ a) : inZ z a = decide (a < ((z.length : Nat) : Int)) := by
  unfold inZ
  exact decide_eq_decide.2 (by omega)
theorem F13_0_eq (k : Nat) (z : List (List Int)) (hz : z.length ≤ 100000) : ∀ (d n i : Nat), i + d + 1 = z.length → d + 1 < n → F13_0 k n (i : Int) (cur z (i : Int)) z = some (.inl ((), (cur z ((z.length - 1 : Nat) : Int), z, ())))
  | d, n, i, hi, hn => by
    obtain ⟨n, rfl⟩ : ∃ m, n = m + 1 := ⟨n - 1, by omega⟩
    have hlt : i < z.length := by omega
    have hin : 0 ≤ (i : Int) ∧ (i : Int) < ((z.length : Nat) : Int) := inR hlt
    have hx : vz z (i : Int) = List.getD z (Int.toNat (i : Int)) [] := rfl
    simp only [F13_0]
    rw [dlt hlt, cond_true, F32_eq k z _ hin, Option.bind_some]
    simp only
    rw [bne_self_eq_false, cond_false, if_pos hin, beq_self_eq_true, Bool.not_true, cond_false, F36_eq k z _ hin (by omega), Option.bind_some]
    simp only
    rw [w64 _ (by omega) (by omega), inZ_eq z _ (by omega), beq_self_eq_true, Bool.not_true, cond_false, Option.bind_fun_some]
    cases d with
    | zero =>
      have hs : sk z (i : Int) ((i : Int) + 1) = (i : Int) := by
        unfold sk
        rw [inZ_eq z _ (by omega), decide_eq_false (by omega), cond_false]
      obtain ⟨n, rfl⟩ : ∃ m, n = m + 1 := ⟨n - 1, by omega⟩
      rw [hs]
      simp only [F13_0]
      rw [decide_eq_false (by omega), cond_false, show z.length - 1 = i from by omega]
    | succ d =>
      have hs : sk z (i : Int) ((i : Int) + 1) = ((i + 1 : Nat) : Int) := by
        unfold sk
        rw [inZ_eq z _ (by omega), decide_eq_true (by omega), cond_true]
        omega
      rw [hs, show ((i : Int) + 1) = ((i + 1 : Nat) : Int) from by omega, F13_0_eq k z hz d n (i + 1) (by omega) (by omega)]
theorem F13_1_eq (k : Nat) (z : List (List Int)) (hz : z.length ≤ 100000) : ∀ (i n : Nat), i < z.length → i + 1 < n → F13_1 k n (i : Int) (cur z (i : Int)) z = some (.inl ((), ()))
  | i, n, hi, hn => by
    obtain ⟨n, rfl⟩ : ∃ m, n = m + 1 := ⟨n - 1, by omega⟩
    have hin : 0 ≤ (i : Int) ∧ (i : Int) < ((z.length : Nat) : Int) := inR hi
    have hdd : inZ z ((i : Int) - 1) = decide ((i : Int) > 0) := by
      unfold inZ
      exact decide_eq_decide.2 (by omega)
    simp only [F13_1]
    rw [decide_eq_true (show (i : Int) ≥ 0 by omega), cond_true, F32_eq k z _ hin, Option.bind_some]
    simp only
    rw [bne_self_eq_false, cond_false, if_pos hin, beq_self_eq_true, Bool.not_true, cond_false, F37_eq k z _ hin (by omega), Option.bind_some]
    simp only
    rw [w64 _ (by omega) (by omega), hdd, beq_self_eq_true, Bool.not_true, cond_false, Option.bind_fun_some]
    cases i with
    | zero =>
      obtain ⟨n, rfl⟩ : ∃ m, n = m + 1 := ⟨n - 1, by omega⟩
      rfl
    | succ i =>
      have hs : sk z ((i + 1 : Nat) : Int) (((i + 1 : Nat) : Int) - 1) = (i : Int) := by
        unfold sk
        rw [hdd, decide_eq_true (by omega), cond_true]
        omega
      rw [hs, show (((i + 1 : Nat) : Int) - 1) = (i : Int) from by omega, F13_1_eq k z hz i n (by omega) (by omega)]
theorem seg_walks (a0 a1 : Int) (a2 a3 a4 a5 : List Int) : ∃ k, F13 k a0 a1 a2 a3 a4 a5 = some ((true, ()), ()) := by
  obtain ⟨k, hk, h15⟩ := start
  refine ⟨k, ?_⟩
  obtain ⟨t, e16, hm⟩ := F16_ok k a0 a1 a2 a3 a4 (by omega)
  obtain ⟨k1, k2, _⟩ := kst_range a0
  obtain ⟨s, e17, hr, _⟩ := F17_ok k a5 [] (by omega) (by simp)
  rw [List.length_nil] at hr
  have e22 := F22_eq k t hm k1 k2 s (by omega) hk
  have e18 := F18_eq k t hm k1 k2 s (by omega) hk
  have hz0 := sg_pos t (lts t s)
  have hz1 : (sg t (lts t s)).length ≤ 100000 := by have := lts_len t s; rw [sg_length]; omega
  obtain ⟨z, hz⟩ : ∃ z, sg t (lts t s) = z := ⟨_, rfl⟩
  rw [hz] at e22 e18 hz0 hz1
  have e22 : F22 k t s = some ((cur z 0, ()), ()) := e22
  have e0 : F13_0 k k 0 (cur z 0) z = _ := F13_0_eq k z hz1 (z.length - 1) k 0 (by omega) (by omega)
  have e1 := F13_1_eq k z hz1 (z.length - 1) k (by omega) (by omega)
  unfold F13
  rw [h15, Option.bind_some]
  simp only
  rw [Bool.not_true, cond_false, e16, Option.bind_some]
  simp only
  rw [e17, Option.bind_some]
  simp only
  rw [e22, Option.bind_some, e18, Option.bind_some]
  simp only
  rw [bne_self_eq_false, cond_false, nz hz0, cond_false, e0, Option.bind_some]
  simp only
  rw [w64 _ (by omega) (by omega), show (((z.length : Nat) : Int) - 1) = ((z.length - 1 : Nat) : Int) from by omega, e1, Option.bind_some]
end Go.Proofs.YtdgdeckaoajceaaE
namespace Go.Proofs.Ytdgdeckaoajceaa.Pure
open Go.Proofs.YtdgdeckaoajceaaE
theorem SegWalks (a0 : Int) (a1 : Int) (a2 : List Int) (a3 : List Int) (a4 : List Int) (a5 : List Int) : (IntKind.min .i64 ≤ a0 ∧ a0 ≤ IntKind.max .i64) → (IntKind.min .i64 ≤ a1 ∧ a1 ≤ IntKind.max .i64) → (a2.length * 8 ≤ 140737488351232) → (∀ x ∈ a2, IntKind.min .i64 ≤ x ∧ x ≤ IntKind.max .i64) → (a3.length * 8 ≤ 140737488351232) → (∀ x ∈ a3, IntKind.min .i64 ≤ x ∧ x ≤ IntKind.max .i64) → (a4.length * 8 ≤ 140737488351232) → (∀ x ∈ a4, IntKind.min .i64 ≤ x ∧ x ≤ IntKind.max .i64) → (a5.length * 8 ≤ 140737488351232) → (∀ x ∈ a5, IntKind.min .i64 ≤ x ∧ x ≤ IntKind.max .i64) → ∃ k, F13 k a0 a1 a2 a3 a4 a5 = some ((true, ()), ()) := by
  intros
  exact seg_walks a0 a1 a2 a3 a4 a5
end Go.Proofs.Ytdgdeckaoajceaa.Pure
