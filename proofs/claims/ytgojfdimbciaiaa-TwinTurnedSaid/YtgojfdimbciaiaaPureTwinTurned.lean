/- The plain law of TwinTurned. Conditions: none. -/
import Derived.Test.YtgojfdimbciaiaaP0
set_option linter.unusedSimpArgs false
set_option linter.unusedVariables false
namespace Go.Proofs.YtgojfdimbciaiaaE
theorem twin_turned (a0 : Int) (a1 a2 : List Int) (a3 : Int) : ∃ k, F8 k a0 a1 a2 a3 = some ((true, ()), ()) := by
  obtain ⟨k, hk, h11⟩ := start
  refine ⟨k, ?_⟩
  obtain ⟨n, s, e23, hr⟩ := F23_ok k (IntKind.wrap .i64 (8 + Int.tmod a0 8)) a1 a2 hk
  obtain ⟨r1, r2, r3, r4⟩ := ring_arcs hr
  obtain ⟨g1, g2, g3, g4⟩ := hr
  unfold F8
  rw [h11, Option.bind_some]
  simp only
  rw [Bool.not_true, cond_false, e23, Option.bind_some]
  simp only
  rcases F14_ok k n s g1 r1 r4 (by omega) hk with ⟨p, e14, hp, hrd⟩ | ⟨e14, hp⟩
  · obtain ⟨cyc, pos⟩ := round_cyc hrd r2 r3 r1
    obtain ⟨a, ha, nx, ha2, hg, h1, h2, h3, h4, h5, h6, h7⟩ := hrd
    have hmx : maxI 1 ((p.length : Nat) : Int) = ((p.length : Nat) : Int) := by
      unfold maxI
      split <;> omega
    have q0 := Int.emod_nonneg a3 (show ((p.length : Nat) : Int) ≠ 0 by omega)
    have q1 := Int.emod_lt_of_pos a3 (show 0 < ((p.length : Nat) : Int) by omega)
    obtain ⟨c, hc⟩ : ∃ c : Nat, a3 % ((p.length : Nat) : Int) = c := ⟨(a3 % ((p.length : Nat) : Int)).toNat, by omega⟩
    have hcl : c < p.length := by omega
    have f18 := F18_eq k a3 ((p.length : Nat) : Int) (by omega) (by omega)
    rw [hc] at f18
    have e17 := F17_ok k s p r4 hk (by omega) cyc
    have hrl := rot_len p c (by omega)
    have e17b := F17_ok k s (rot p c) r4 hk (by omega) (rot_cyc cyc hcl)
    rw [hrl, rot_sum _ p c hcl] at e17b
    have hd : decide (((p.length : Nat) : Int) > 0) = true := decide_eq_true (by omega)
    rw [hd] at e17 e17b
    have w1 : List.take (Int.toNat ((p.length : Nat) : Int) - Int.toNat (c : Int)) (List.drop (Int.toNat (c : Int)) p) = p.drop c := by
      show List.take (p.length - c) (List.drop c p) = p.drop c
      exact List.take_of_length_le (by rw [List.length_drop]; omega)
    have w2 : List.take (Int.toNat (c : Int) - Int.toNat 0) (List.drop (Int.toNat 0) p) = p.take c := rfl
    rw [e14, Option.bind_some]
    simp only
    rw [Bool.not_true, cond_false, hmx, f18, Option.bind_some]
    simp only
    rw [e17, Option.bind_some, if_pos (by omega), if_pos (by omega), w1, w2, if_pos (by simp only [List.replicate_zero, List.length_nil, List.length_drop]; omega), if_pos (by simp only [List.replicate_zero, List.nil_append, List.length_drop, List.length_take]; omega)]
    rw [show (List.replicate 0 (0 : Int) ++ p.drop c) ++ p.take c = rot p c from rfl, e17b, Option.bind_some]
    simp only
    rw [cond_true, cond_true, beq_self_eq_true, cond_true, decide_eq_true pos]
  · rw [e14, Option.bind_some]
    rfl
end Go.Proofs.YtgojfdimbciaiaaE
namespace Go.Proofs.Ytgojfdimbciaiaa.Pure
open Go.Proofs.YtgojfdimbciaiaaE
theorem TwinTurned (a0 : Int) (a1 : List Int) (a2 : List Int) (a3 : Int) : (IntKind.min .i64 ≤ a0 ∧ a0 ≤ IntKind.max .i64) → (a1.length * 8 ≤ 140737488351232) → (∀ x ∈ a1, IntKind.min .i64 ≤ x ∧ x ≤ IntKind.max .i64) → (a2.length * 8 ≤ 140737488351232) → (∀ x ∈ a2, IntKind.min .i64 ≤ x ∧ x ≤ IntKind.max .i64) → (IntKind.min .i64 ≤ a3 ∧ a3 ≤ IntKind.max .i64) → ∃ k, F8 k a0 a1 a2 a3 = some ((true, ()), ()) := by
  intros
  exact twin_turned a0 a1 a2 a3
end Go.Proofs.Ytgojfdimbciaiaa.Pure
