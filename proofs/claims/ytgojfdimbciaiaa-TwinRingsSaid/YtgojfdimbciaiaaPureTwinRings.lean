/- The plain law of TwinRings. Conditions: none. -/
import Derived.Test.YtgojfdimbciaiaaP0
set_option linter.unusedSimpArgs false
set_option linter.unusedVariables false
namespace Go.Proofs.YtgojfdimbciaiaaE
theorem F7_0_ok (k : Nat) (b1 b2 : Bool) (c : Int) (p : List Int) (hp : p.length ≤ 1000) (i : Nat) (hi : i < p.length) (hd : ∀ j, j < i → List.getD p j 0 ≠ List.getD p i 0) : ∀ (d m j : Nat), j + d = i → d < m →
    F7_0 k m b1 c b2 (i : Int) (j : Int) p = some (.inl ((b1, c, b2, (i : Int), ()), (p, ())))
  | 0, m, j, hj, hm => by
    obtain ⟨m, rfl⟩ : ∃ m', m = m' + 1 := ⟨m - 1, by omega⟩
    obtain rfl : j = i := by omega
    simp only [F7_0]
    rw [decide_eq_false (by omega), cond_false]
  | d + 1, m, j, hj, hm => by
    obtain ⟨m, rfl⟩ : ∃ m', m = m' + 1 := ⟨m - 1, by omega⟩
    have hne := hd j (by omega)
    have hw : IntKind.wrap .i64 ((j : Int) + 1) = ((j + 1 : Nat) : Int) := by rw [w64 _ (by omega) (by omega)]; omega
    simp only [F7_0, hw]
    rw [decide_eq_true (show (j : Int) < (i : Int) by omega), cond_true, if_pos (inR hi), if_pos (by omega), show Int.toNat (i : Int) = i from rfl, show Int.toNat (j : Int) = j from rfl, beq_false_of_ne (fun e => hne e.symm), cond_false, F7_0_ok k b1 b2 c p hp i hi hd d m (j + 1) (by omega) (by omega), Option.bind_some]
theorem F7_1_ok (k : Nat) (hk : 100010 ≤ k) (b1 b2 : Bool) (c : Int) (p : List Int) (hp : p.length ≤ 1000) (hd : ∀ i j, i < j → j < p.length → List.getD p i 0 ≠ List.getD p j 0) : ∀ (d m i : Nat), i + d = p.length → d < m →
    F7_1 k m b1 c b2 (i : Int) p = some (.inl ((b1, c, b2, ()), ()))
  | 0, m, i, hi, hm => by
    obtain ⟨m, rfl⟩ : ∃ m', m = m' + 1 := ⟨m - 1, by omega⟩
    obtain rfl : i = p.length := by omega
    simp only [F7_1]
    rw [dnlt, cond_false]
  | d + 1, m, i, hi, hm => by
    obtain ⟨m, rfl⟩ : ∃ m', m = m' + 1 := ⟨m - 1, by omega⟩
    have hlt : i < p.length := by omega
    have e := F7_0_ok k b1 b2 c p hp i hlt (fun j hj => hd j i hj hlt) i k 0 (by omega) (by omega)
    rw [show ((0 : Nat) : Int) = 0 from rfl] at e
    simp only [F7_1]
    rw [dlt hlt, cond_true, e, Option.bind_some]
    simp only
    rw [wsucc i _ hlt (by omega), F7_1_ok k hk b1 b2 c p hp hd d m (i + 1) (by omega) (by omega), Option.bind_some]
theorem twin_rings (a0 : Int) (a1 a2 : List Int) : ∃ k, F7 k a0 a1 a2 = some ((true, ()), ()) := by
  obtain ⟨k, hk, h11⟩ := start
  refine ⟨k, ?_⟩
  obtain ⟨n, s, e23, hr⟩ := F23_ok k a0 a1 a2 hk
  obtain ⟨r1, r2, r3, r4⟩ := ring_arcs hr
  obtain ⟨g1, g2, g3, g4⟩ := hr
  obtain ⟨b, e15, hb⟩ := F15_ok k n s g1 (by omega) r1 r4 hk
  unfold F7
  rw [h11, Option.bind_some]
  simp only
  rw [Bool.not_true, cond_false, e23, Option.bind_some]
  simp only
  rcases F14_ok k n s g1 r1 r4 (by omega) hk with ⟨p, e14, hp, hrd⟩ | ⟨e14, hp⟩
  · obtain rfl := hb.2 hp
    obtain ⟨cyc, pos⟩ := round_cyc hrd r2 r3 r1
    obtain ⟨a, ha, nx, ha2, hg, h1, h2, h3, h4, h5, h6, h7⟩ := hrd
    have e16 := F16_ok k s p r4 hk (by omega) cyc
    rw [decide_eq_true (show ((p.length : Nat) : Int) > 0 by omega)] at e16
    have e7 := F7_1_ok k hk true true (csum s.2.2.2.1 p p.length) p (by omega) h5 p.length k 0 (by omega) (by omega)
    rw [show ((0 : Nat) : Int) = 0 from rfl] at e7
    rw [e14, Option.bind_some, e15, Option.bind_some]
    simp only
    rw [beq_self_eq_true, Bool.not_true, cond_false, e16, Option.bind_some]
    simp only
    rw [e7, Option.bind_some]
    simp only
    rw [beq_self_eq_true, cond_true, Bool.not_true, cond_false, decide_eq_true pos]
  · have hbf : b = false := by
      cases b with
      | false => rfl
      | true => exact absurd (hb.1 rfl) hp
    subst hbf
    have e16 := F16_ok k s [] r4 hk (by simp) (fun i hi => by simp at hi)
    have e16 : F16 k s [] = some (((0 : Int), false, ()), ()) := e16
    have e7 := F7_1_ok k hk false false 0 [] (by simp) (fun i j h1 h2 => by simp at h2) 0 k 0 rfl (by omega)
    rw [show ((0 : Nat) : Int) = 0 from rfl] at e7
    rw [e14, Option.bind_some, e15, Option.bind_some]
    simp only
    rw [beq_self_eq_true, Bool.not_true, cond_false, e16, Option.bind_some]
    simp only
    rw [e7, Option.bind_some]
    simp only
    rw [beq_self_eq_true, cond_true, Bool.not_false, cond_true]
end Go.Proofs.YtgojfdimbciaiaaE
namespace Go.Proofs.Ytgojfdimbciaiaa.Pure
open Go.Proofs.YtgojfdimbciaiaaE
theorem TwinRings (a0 : Int) (a1 : List Int) (a2 : List Int) : (IntKind.min .i64 ≤ a0 ∧ a0 ≤ IntKind.max .i64) → (a1.length * 8 ≤ 140737488351232) → (∀ x ∈ a1, IntKind.min .i64 ≤ x ∧ x ≤ IntKind.max .i64) → (a2.length * 8 ≤ 140737488351232) → (∀ x ∈ a2, IntKind.min .i64 ≤ x ∧ x ≤ IntKind.max .i64) → ∃ k, F7 k a0 a1 a2 = some ((true, ()), ()) := by
  intros
  exact twin_rings a0 a1 a2
end Go.Proofs.Ytgojfdimbciaiaa.Pure
