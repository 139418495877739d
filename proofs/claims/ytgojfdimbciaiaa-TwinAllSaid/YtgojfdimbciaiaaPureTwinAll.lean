/- The plain law of TwinAll. Conditions: none. -/
import Derived.Test.YtgojfdimbciaiaaP1
set_option linter.unusedSimpArgs false
set_option linter.unusedVariables false
set_option maxRecDepth 20000
namespace Go.Proofs.YtgojfdimbciaiaaE
theorem F3_0_ok (k : Nat) (t9 t11 : Int) (t10 t12 : Bool) (p : List Int) (hp : p.length ≤ 20000) (i : Nat) (hi : i < p.length) (hd : ∀ j, j < i → List.getD p j 0 ≠ List.getD p i 0) : ∀ (d m j : Nat), j + d = i → d < m →
    F3_0 k m t9 t10 t11 t12 (i : Int) (j : Int) p = some (.inl ((t9, t10, t11, t12, (i : Int), ()), (p, ())))
  | 0, m, j, hj, hm => by
    obtain ⟨m, rfl⟩ : ∃ m', m = m' + 1 := ⟨m - 1, by omega⟩
    obtain rfl : j = i := by omega
    simp only [F3_0]
    rw [decide_eq_false (by omega), cond_false]
  | d + 1, m, j, hj, hm => by
    obtain ⟨m, rfl⟩ : ∃ m', m = m' + 1 := ⟨m - 1, by omega⟩
    have hne := hd j (by omega)
    have hw : IntKind.wrap .i64 ((j : Int) + 1) = ((j + 1 : Nat) : Int) := by rw [w64 _ (by omega) (by omega)]; omega
    simp only [F3_0, hw]
    rw [decide_eq_true (show (j : Int) < (i : Int) by omega), cond_true, if_pos (inR hi), if_pos (by omega), show Int.toNat (i : Int) = i from rfl, show Int.toNat (j : Int) = j from rfl, beq_false_of_ne (fun e => hne e.symm), cond_false, F3_0_ok k t9 t11 t10 t12 p hp i hi hd d m (j + 1) (by omega) (by omega), Option.bind_some]
theorem F3_1_ok (k : Nat) (hk : 10000000 ≤ k) (t9 t11 : Int) (t10 t12 : Bool) (p : List Int) (hp : p.length ≤ 20000) (hd : ∀ i j, i < j → j < p.length → List.getD p i 0 ≠ List.getD p j 0) : ∀ (d m i : Nat), i + d = p.length → d < m →
    F3_1 k m t9 t10 t11 t12 (i : Int) p = some (.inl ((t9, t10, t11, t12, ()), ()))
  | 0, m, i, hi, hm => by
    obtain ⟨m, rfl⟩ : ∃ m', m = m' + 1 := ⟨m - 1, by omega⟩
    obtain rfl : i = p.length := by omega
    simp only [F3_1]
    rw [dnlt, cond_false]
  | d + 1, m, i, hi, hm => by
    obtain ⟨m, rfl⟩ : ∃ m', m = m' + 1 := ⟨m - 1, by omega⟩
    have hlt : i < p.length := by omega
    have e := F3_0_ok k t9 t11 t10 t12 p hp i hlt (fun j hj => hd j i hj hlt) i k 0 (by omega) (by omega)
    rw [show ((0 : Nat) : Int) = 0 from rfl] at e
    simp only [F3_1]
    rw [dlt hlt, cond_true, e, Option.bind_some]
    simp only
    rw [wsucc i _ hlt (by omega), F3_1_ok k hk t9 t11 t10 t12 p hp hd d m (i + 1) (by omega) (by omega), Option.bind_some]
theorem twin_all (a0 : List RawT) (a1 : List Int) : ∃ k, F3 k a0 a1 = some ((true, ()), ()) := by
  obtain ⟨k, hk2, h11⟩ := start2
  have hk : 10000000 ≤ k := by omega
  refine ⟨k, ?_⟩
  obtain ⟨b12, e12, h12⟩ := F12_ok k a0 (by omega)
  unfold F3
  rw [h11, Option.bind_some]
  simp only
  rw [Bool.not_true, cond_false, e12, Option.bind_some]
  simp only
  cases b12 with
  | false => rw [Bool.not_false, cond_true]
  | true =>
    obtain ⟨hl, hr⟩ := h12 rfl
    rw [Bool.not_true, cond_false]
    by_cases h0 : a0.length = 0
    · rw [show (((a0.length : Nat) : Int) == 0) = true by rw [h0]; rfl, cond_true]
    · rw [beq_false_of_ne (show ¬ ((a0.length : Nat) : Int) = 0 by omega), cond_false, if_pos (show (0 : Int) ≤ 0 ∧ (0 : Int) < ((a0.length : Nat) : Int) by omega), show Int.toNat 0 = 0 from rfl]
      obtain ⟨s, b, e13, h13⟩ := F13_R k (List.getD a0 0 (Tree.mk ((0 : Int), ((0 : Int), ())) [])) a1 (hr _ (getD_mem (by omega))) hk2
      rw [e13, Option.bind_some]
      simp only
      cases b with
      | false => rw [Bool.not_false, cond_true]
      | true =>
        obtain ⟨n, hs⟩ := h13 rfl
        obtain ⟨hn, g1, _, r1, r2, r3, r4⟩ := hs
        obtain ⟨b, e15, hb⟩ := F15_ok k n s g1 (by omega) r1 r4 hk
        rw [Bool.not_true, cond_false]
        rcases F14_ok k n s g1 r1 r4 (by omega) hk with ⟨p, e14, hp, hrd⟩ | ⟨e14, hp⟩
        · obtain rfl := hb.2 hp
          obtain ⟨cyc, pos⟩ := round_cyc hrd r2 r3 r1
          obtain ⟨a, ha, nx, ha2, hg, h1, h2, h3, h4, h5, h6, h7⟩ := hrd
          have e16 := F16_ok k s p r4 hk (by omega) cyc
          have e17 := F17_ok k s p r4 hk (by omega) cyc
          rw [decide_eq_true (show ((p.length : Nat) : Int) > 0 by omega)] at e16 e17
          have e3 := F3_1_ok k hk (csum s.2.2.2.1 p p.length) (csum s.2.2.2.1 p p.length) true true p (by omega) h5 p.length k 0 (by omega) (by omega)
          rw [show ((0 : Nat) : Int) = 0 from rfl] at e3
          rw [e14, Option.bind_some, e15, Option.bind_some]
          simp only
          rw [beq_self_eq_true, Bool.not_true, cond_false, cond_false, e16, Option.bind_some, e17, Option.bind_some]
          simp only
          rw [e3, Option.bind_some]
          simp only
          rw [cond_true, decide_eq_true pos, cond_true, cond_true, beq_self_eq_true]
        · have hbf : b = false := by
            cases b with
            | false => rfl
            | true => exact absurd (hb.1 rfl) hp
          subst hbf
          rw [e14, Option.bind_some, e15, Option.bind_some]
          rfl
end Go.Proofs.YtgojfdimbciaiaaE
namespace Go.Proofs.Ytgojfdimbciaiaa.Pure
open Go.Proofs.YtgojfdimbciaiaaE
theorem TwinAll (a0 : List (Tree (Int × (Int × Unit)))) (a1 : List Int) : (a1.length * 8 ≤ 140737488351232) → (∀ x ∈ a1, IntKind.min .i64 ≤ x ∧ x ≤ IntKind.max .i64) → ∃ k, F3 k a0 a1 = some ((true, ()), ()) := by
  intros
  exact twin_all a0 a1
end Go.Proofs.Ytgojfdimbciaiaa.Pure
