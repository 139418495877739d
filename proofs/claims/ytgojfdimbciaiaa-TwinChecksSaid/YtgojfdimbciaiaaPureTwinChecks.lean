/- The plain law of TwinChecks. Conditions: none. -/
import Derived.Test.YtgojfdimbciaiaaP1
set_option linter.unusedSimpArgs false
set_option linter.unusedVariables false
set_option maxRecDepth 20000
namespace Go.Proofs.YtgojfdimbciaiaaE
theorem F5_0_ok (k : Nat) (t2 t3 : List Int) (s : SideT) (h0 : 0 < s.1.length) (h1 : s.1.length ≤ 1000) : ∀ (d m i : Nat) (acc : List Int), i + d = 4 → d < m → acc.length = i → ∃ acc', F5_0 k m t2 t3 (i : Int) s acc = some ((t2, t3, ()), (s, acc', ())) ∧ acc'.length ≤ 4
  | d, m, i, acc, hi, hm, ha => by
    obtain ⟨m, rfl⟩ : ∃ m', m = m' + 1 := ⟨m - 1, by omega⟩
    simp only [F5_0]
    by_cases hlt : i < t2.length
    · rw [dlt hlt, cond_true]
      cases d with
      | zero =>
        obtain rfl : i = 4 := by omega
        exact ⟨acc, by rw [decide_eq_false (by omega), cond_false], by omega⟩
      | succ d =>
        have k1 : ∀ v : Int, (acc.length + [v].length) * (8 * 2) ≤ 281474976710656 ∧ acc.length + [v].length ≤ 9223372036854775807 := fun v => by rw [List.length_singleton]; omega
        have wi : IntKind.wrap .i64 ((i : Int) + 1) = ((i + 1 : Nat) : Int) := by rw [w64 _ (by omega) (by omega)]; omega
        obtain ⟨acc', e, h⟩ := F5_0_ok k t2 t3 s h0 h1 d m (i + 1) (acc ++ [List.getD t2 i 0 % ((s.1.length : Nat) : Int)]) (by omega) (by omega) (by simp [ha])
        refine ⟨acc', ?_, h⟩
        rw [decide_eq_true (by omega), cond_true, if_pos (inR hlt), show Int.toNat (i : Int) = i from rfl, F18_eq k _ _ (by omega) (by omega), Option.bind_some]
        simp only [one_list]
        rw [if_pos (k1 _), wi, e]
        rfl
    · rw [decide_eq_false (by omega), cond_false]
      exact ⟨acc, rfl, by omega⟩
theorem F5_1_ok (k : Nat) (t2 t3 : List Int) (s : SideT) (hs : s.2.2.2.1.length ≤ 20000) (u : Nat) (hu : u < t2.length) (t80 : Int) (t81 : Bool) (a b : List Int) : ∀ (d m i : Nat) (v : Int), i + d = s.2.2.2.1.length → d < m → ∃ v', F5_1 k m t2 t3 v (u : Int) (i : Int) t80 t81 s a b = some ((t2, t3, v', (u : Int), t80, t81, ()), (s, a, b, ()))
  | 0, m, i, v, hi, hm => by
    obtain ⟨m, rfl⟩ : ∃ m', m = m' + 1 := ⟨m - 1, by omega⟩
    simp only [F5_1]
    rw [decide_eq_false (by omega), cond_false]
    exact ⟨v, rfl⟩
  | d + 1, m, i, v, hi, hm => by
    obtain ⟨m, rfl⟩ : ∃ m', m = m' + 1 := ⟨m - 1, by omega⟩
    have hlt : i < s.2.2.2.1.length := by omega
    have key : ∀ v1 : Int, ∃ v', (F5_1 k m t2 t3 v1 (u : Int) ((i + 1 : Nat) : Int) t80 t81 s a b).bind some = some ((t2, t3, v', (u : Int), t80, t81, ()), (s, a, b, ())) := fun v1 => by
      obtain ⟨v', e⟩ := F5_1_ok k t2 t3 s hs u hu t80 t81 a b d m (i + 1) v1 (by omega) (by omega)
      exact ⟨v', by rw [e]; rfl⟩
    simp only [F5_1]
    rw [dlt hlt, cond_true, if_pos (inR hlt), wsucc i _ hlt (by omega), if_pos (inR hu), if_pos (inR hlt), F18_eq k _ 3 (by omega) (by omega), Option.bind_some]
    simp only
    generalize ((List.getD s.2.2.2.1 (Int.toNat (i : Int)) ((0 : Int), ((0 : Int), ((0 : Int), ())))).1 == v) = b1
    generalize decide (IntKind.wrap .i64 (List.getD t2 (Int.toNat (u : Int)) 0 + (i : Int)) % 3 > 0) = b2
    cases b1 with
    | false => rw [cond_false]; exact key _
    | true =>
      rw [cond_true]
      cases b2 with
      | true => rw [cond_true]; exact key _
      | false => rw [cond_false]; exact key _
theorem F5_2_ok (k : Nat) (hk : 10000000 ≤ k) (t2 t3 : List Int) (s : SideT) (hs : s.2.2.2.1.length ≤ 20000) (c : List Int) : ∀ (d m i : Nat) (v : Int) (acc : List Int), i + d = 6 → d < m → acc.length = i → ∃ acc', F5_2 k m t2 t3 v (i : Int) s c acc = some ((t2, t3, ()), (s, c, acc', ())) ∧ acc'.length ≤ 6
  | d, m, i, v, acc, hi, hm, ha => by
    obtain ⟨m, rfl⟩ : ∃ m', m = m' + 1 := ⟨m - 1, by omega⟩
    simp only [F5_2]
    by_cases hlt : i < t2.length
    · rw [dlt hlt, cond_true]
      cases d with
      | zero =>
        obtain rfl : i = 6 := by omega
        exact ⟨acc, by rw [decide_eq_false (by omega), cond_false], by omega⟩
      | succ d =>
        have k1 : (acc.length + [v].length) * (8 * 2) ≤ 281474976710656 ∧ acc.length + [v].length ≤ 9223372036854775807 := by rw [List.length_singleton]; omega
        have wi : IntKind.wrap .i64 ((i : Int) + 1) = ((i + 1 : Nat) : Int) := by rw [w64 _ (by omega) (by omega)]; omega
        obtain ⟨v', e1⟩ := F5_1_ok k t2 t3 s hs i hlt (i : Int) (decide ((i : Int) < 6)) (acc ++ [v]) c s.2.2.2.1.length k 0 v (by omega) (by omega)
        rw [show ((0 : Nat) : Int) = 0 from rfl] at e1
        obtain ⟨acc', e, h⟩ := F5_2_ok k hk t2 t3 s hs c d m (i + 1) v' (acc ++ [v]) (by omega) (by omega) (by simp [ha])
        refine ⟨acc', ?_, h⟩
        have e6 : decide ((i : Int) < 6) = true := decide_eq_true (by omega)
        rw [e6] at e1
        simp only [one_list]
        rw [e6, cond_true, if_pos k1, e1, Option.bind_some]
        simp only
        rw [wi, e]
        rfl
    · rw [decide_eq_false (by omega), cond_false]
      exact ⟨acc, rfl, by omega⟩
theorem F5_3_ok (k : Nat) (hk : 10000000 ≤ k) (s : SideT) (hs : s.2.2.2.1.length ≤ 20000) (hw : WgtP s.2.2.2.1) (x : List (List Int)) (hx : x.length ≤ 1000) (hp : ∀ p ∈ x, p.length ≤ 20000) : ∀ (d m i : Nat), i + d = x.length → d < m → F5_3 k m (i : Int) s x = some (.inl ((), ()))
  | 0, m, i, hi, hm => by
    obtain ⟨m, rfl⟩ : ∃ m', m = m' + 1 := ⟨m - 1, by omega⟩
    simp only [F5_3]
    rw [decide_eq_false (by omega), cond_false]
  | d + 1, m, i, hi, hm => by
    obtain ⟨m, rfl⟩ : ∃ m', m = m' + 1 := ⟨m - 1, by omega⟩
    have hlt : i < x.length := by omega
    obtain ⟨c, b, e1, e2⟩ := F17_F16 k s (List.getD x i []) hs hw hk (hp _ (getD_mem hlt))
    simp only [F5_3]
    rw [dlt hlt, cond_true, if_pos (inR hlt), show Int.toNat (i : Int) = i from rfl, e1, Option.bind_some, if_pos (inR hlt), e2, Option.bind_some]
    simp only
    rw [show (c != c) = false by simp, cond_false, beq_self_eq_true, Bool.not_true, cond_false, wsucc i _ hlt (by omega), F5_3_ok k hk s hs hw x hx hp d m (i + 1) (by omega) (by omega)]
    rfl
theorem twin_checks (a0 : List RawT) (a1 a2 a3 : List Int) : ∃ k, F5 k a0 a1 a2 a3 = some ((true, ()), ()) := by
  obtain ⟨k, hk2, h11⟩ := start2
  have hk : 10000000 ≤ k := by omega
  refine ⟨k, ?_⟩
  obtain ⟨b12, e12, h12⟩ := F12_ok k a0 (by omega)
  unfold F5
  rw [h11, Option.bind_some]
  simp only
  rw [Bool.not_true, cond_false, e12, Option.bind_some]
  simp only
  cases b12 with
  | false => rw [Bool.not_false, cond_true]
  | true =>
    obtain ⟨hl, hr⟩ := h12 rfl
    rw [Bool.not_true, cond_false]
    by_cases h0 : a0.length = 0
    · rw [show (((a0.length : Nat) : Int) == 0) = true by rw [h0]; rfl, cond_true]
    · rw [beq_false_of_ne (show ¬ ((a0.length : Nat) : Int) = 0 by omega), cond_false, if_pos (show (0 : Int) ≤ 0 ∧ (0 : Int) < ((a0.length : Nat) : Int) by omega), show Int.toNat 0 = 0 from rfl]
      by_cases h50 : ((a3.length : Nat) : Int) > 50
      · rw [decide_eq_true h50, cond_true]
      · obtain ⟨s, b, e13, h13⟩ := F13_R k (List.getD a0 0 (Tree.mk ((0 : Int), ((0 : Int), ())) [])) a1 (hr _ (getD_mem (by omega))) hk2
        rw [decide_eq_false h50, cond_false, e13, Option.bind_some]
        simp only
        cases b with
        | false => rw [Bool.not_false, cond_true]
        | true =>
          obtain ⟨n, hn, g1, _, r1, r2, r3, r4⟩ := h13 rfl
          rw [Bool.not_true, cond_false]
          by_cases hz : s.1.length = 0
          · rw [show (((s.1.length : Nat) : Int) == 0) = true by rw [hz]; rfl, cond_true]
          · obtain ⟨p0, e0, q0⟩ := F5_0_ok k a2 a3 s (by omega) (by omega) 4 k 0 [] rfl (by omega) rfl
            obtain ⟨p1, e1, q1⟩ := F5_2_ok k hk a2 a3 s r4 p0 6 k 0 0 [] rfl (by omega) rfl
            rw [show ((0 : Nat) : Int) = 0 from rfl] at e0 e1
            rw [beq_false_of_ne (show ¬ ((s.1.length : Nat) : Int) = 0 by omega), cond_false, e0, Option.bind_some]
            simp only
            rw [e1, Option.bind_some]
            simp only
            rw [F18_eq k _ _ (by omega) (by omega), Option.bind_some]
            simp only [one_list]
            have e3 := F5_3_ok k hk s r4 r3 [p0, p1, a3, [((a2.length : Nat) : Int) % ((s.1.length : Nat) : Int)]] (by simp) (fun p hp => by
              simp only [List.mem_cons, List.not_mem_nil, or_false] at hp
              rcases hp with g | g | g | g
              · rw [g]; omega
              · rw [g]; omega
              · rw [g]; omega
              · rw [g, List.length_singleton]; omega) 4 k 0 rfl (by omega)
            have e3' : F5_3 k k 0 s (List.set (List.set (List.set (List.set (List.replicate 4 ([] : List Int)) 0 p0) 1 p1) 2 a3) 3 [((a2.length : Nat) : Int) % ((s.1.length : Nat) : Int)]) = some (.inl ((), ())) := e3
            rw [e3', Option.bind_some]
end Go.Proofs.YtgojfdimbciaiaaE
namespace Go.Proofs.Ytgojfdimbciaiaa.Pure
open Go.Proofs.YtgojfdimbciaiaaE
theorem TwinChecks (a0 : List (Tree (Int × (Int × Unit)))) (a1 : List Int) (a2 : List Int) (a3 : List Int) : (a1.length * 8 ≤ 140737488351232) → (∀ x ∈ a1, IntKind.min .i64 ≤ x ∧ x ≤ IntKind.max .i64) → (a2.length * 8 ≤ 140737488351232) → (∀ x ∈ a2, IntKind.min .i64 ≤ x ∧ x ≤ IntKind.max .i64) → (a3.length * 8 ≤ 140737488351232) → (∀ x ∈ a3, IntKind.min .i64 ≤ x ∧ x ≤ IntKind.max .i64) → ∃ k, F5 k a0 a1 a2 a3 = some ((true, ()), ()) := by
  intros
  exact twin_checks a0 a1 a2 a3
end Go.Proofs.Ytgojfdimbciaiaa.Pure
