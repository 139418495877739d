/- The plain law of TwinOwn. Conditions: none. -/
import Derived.Test.YtgojfdimbciaiaaP1
set_option linter.unusedSimpArgs false
set_option linter.unusedVariables false
set_option maxRecDepth 20000
namespace Go.Proofs.YtgojfdimbciaiaaE
theorem F25_0_same (k : Nat) (l : List Int) (hl : l.length ≤ 1000000) : ∀ (d m i : Nat), i + d = l.length → d < m → F25_0 k m l l (i : Int) = some (.inl ((), ()))
  | 0, m, i, hi, hm => by
    obtain ⟨m, rfl⟩ : ∃ m', m = m' + 1 := ⟨m - 1, by omega⟩
    simp only [F25_0]
    rw [decide_eq_false (by omega), cond_false]
  | d + 1, m, i, hi, hm => by
    obtain ⟨m, rfl⟩ : ∃ m', m = m' + 1 := ⟨m - 1, by omega⟩
    have hlt : i < l.length := by omega
    simp only [F25_0]
    rw [dlt hlt, cond_true, if_pos (inR hlt), if_pos (inR hlt), show (List.getD l (Int.toNat (i : Int)) 0 != List.getD l (Int.toNat (i : Int)) 0) = false by simp, cond_false, wsucc i _ hlt (by omega), F25_0_same k l hl d m (i + 1) (by omega) (by omega)]
    rfl
theorem F25_same (k : Nat) (l : List Int) (hl : l.length ≤ 1000000) (hk : 10000000 ≤ k) : F25 k l l = some ((true, ()), ()) := by
  have e := F25_0_same k l hl l.length k 0 (by omega) (by omega)
  rw [show ((0 : Nat) : Int) = 0 from rfl] at e
  unfold F25
  simp only
  rw [show (((l.length : Nat) : Int) != ((l.length : Nat) : Int)) = false by simp, cond_false, e, Option.bind_some]
theorem F24_0_same (k : Nat) (s : SideT) (hl : s.2.2.2.1.length ≤ 1000000) : ∀ (d m i : Nat), i + d = s.2.2.2.1.length → d < m → F24_0 k m (i : Int) s s = some (.inl ((), ()))
  | 0, m, i, hi, hm => by
    obtain ⟨m, rfl⟩ : ∃ m', m = m' + 1 := ⟨m - 1, by omega⟩
    simp only [F24_0]
    rw [decide_eq_false (by omega), cond_false]
  | d + 1, m, i, hi, hm => by
    obtain ⟨m, rfl⟩ : ∃ m', m = m' + 1 := ⟨m - 1, by omega⟩
    have hlt : i < s.2.2.2.1.length := by omega
    have he : ∀ a : ArcT, (!(eqT3 a a)) = false := fun a => by simp [eqT3]
    simp only [F24_0]
    rw [dlt hlt, cond_true, if_pos (inR hlt), if_pos (inR hlt), he, cond_false, wsucc i _ hlt (by omega), F24_0_same k s hl d m (i + 1) (by omega) (by omega)]
    rfl
theorem F24_same {n : Nat} (k : Nat) (s : SideT) (h1 : s.1.length ≤ 1000) (h2 : s.2.1.length ≤ 1000) (h3 : s.2.2.1.length ≤ 1000) (h4 : s.2.2.2.1.length ≤ 20000) (hk : 10000000 ≤ k) : F24 k s s = some ((true, ()), ()) := by
  have e := F24_0_same k s (by omega) s.2.2.2.1.length k 0 (by omega) (by omega)
  rw [show ((0 : Nat) : Int) = 0 from rfl] at e
  unfold F24
  rw [F25_same k s.1 (by omega) hk, Option.bind_some]
  simp only
  rw [Bool.not_true, cond_false, F25_same k s.2.1 (by omega) hk, Option.bind_some]
  simp only
  rw [Bool.not_true, cond_false, F25_same k s.2.2.1 (by omega) hk, Option.bind_some]
  simp only
  rw [Bool.not_true, cond_false, show (s.2.2.2.2.1 != s.2.2.2.2.1) = false by simp, cond_false, show (((s.2.2.2.1.length : Nat) : Int) != ((s.2.2.2.1.length : Nat) : Int)) = false by simp, cond_false, e, Option.bind_some]
theorem F10_0_ok (k : Nat) (t2 : Int) (t12 : Bool) (s t : SideT) (c : List Int) : ∀ (d m i : Nat) (l : List Int), i + d = l.length → l.length ≤ 1000000 → d < m → F10_0 k m t2 t12 (i : Int) s t c l = some ((t2, t12, ()), (s, t, c, ()))
  | 0, m, i, l, hi, hl, hm => by
    obtain ⟨m, rfl⟩ : ∃ m', m = m' + 1 := ⟨m - 1, by omega⟩
    simp only [F10_0]
    rw [decide_eq_false (by omega), cond_false]
  | d + 1, m, i, l, hi, hl, hm => by
    obtain ⟨m, rfl⟩ : ∃ m', m = m' + 1 := ⟨m - 1, by omega⟩
    have hlt : i < l.length := by omega
    simp only [F10_0]
    rw [dlt hlt, cond_true, if_pos (inR hlt), wsucc i _ hlt (by omega), F10_0_ok k t2 t12 s t c d m (i + 1) _ (by rw [List.length_set]; omega) (by rw [List.length_set]; omega) (by omega)]
    rfl
theorem F10_1_ok (k : Nat) (t2 : Int) (t12 : Bool) (s t : SideT) (c : List Int) : ∀ (d m i : Nat) (l : List Int), i + d = l.length → l.length ≤ 1000000 → d < m → F10_1 k m t2 t12 (i : Int) s t c l = some ((t12, ()), (s, t, c, ()))
  | 0, m, i, l, hi, hl, hm => by
    obtain ⟨m, rfl⟩ : ∃ m', m = m' + 1 := ⟨m - 1, by omega⟩
    simp only [F10_1]
    rw [decide_eq_false (by omega), cond_false]
  | d + 1, m, i, l, hi, hl, hm => by
    obtain ⟨m, rfl⟩ : ∃ m', m = m' + 1 := ⟨m - 1, by omega⟩
    have hlt : i < l.length := by omega
    simp only [F10_1]
    rw [dlt hlt, cond_true, if_pos (inR hlt), wsucc i _ hlt (by omega), F10_1_ok k t2 t12 s t c d m (i + 1) _ (by rw [List.length_set]; omega) (by rw [List.length_set]; omega) (by omega)]
    rfl
theorem F19_len {n : Nat} (k : Nat) (s : SideT) (hk : 10000000 ≤ k) (hn : n ≤ 120) (hls : s.1.length = n) (hlf : s.2.1.length = n) (hl : ArcsP n s.2.2.2.1) (hs : s.2.2.2.1.length ≤ 20000) : ∃ l b, F19 k s 0 = some ((l, b, ()), ()) ∧ l.length ≤ 20000 := by
  by_cases hz : n = 0
  · refine ⟨[], false, ?_, by simp⟩
    unfold F19
    simp only
    rw [decide_eq_false (show ¬ (0 : Int) < 0 by omega), cond_false, decide_eq_true (show (0 : Int) ≥ ((s.1.length : Nat) : Int) by omega), cond_true]
  · obtain ⟨nx, e32, hg⟩ := F32_ok k n s hls hl (by omega) (by omega) (by omega)
    obtain ⟨l, b, e, h⟩ := F19_ok k s 0 nx hk hn hls hlf hl hs e32 hg (by omega)
    refine ⟨l, b, e, ?_⟩
    rcases h with ⟨rfl, _, _⟩ | ⟨_, js, rfl, _, _, hj, _⟩
    · simp
    · rw [List.length_reverse, asI_len, List.length_cons]
      omega
theorem twin_own (a0 : List RawT) (a1 : List Int) (a2 : Int) : ∃ k, F10 k a0 a1 a2 = some ((true, ()), ()) := by
  obtain ⟨k, hk2, h11⟩ := start2
  have hk : 10000000 ≤ k := by omega
  refine ⟨k, ?_⟩
  obtain ⟨b12, e12, h12⟩ := F12_ok k a0 (by omega)
  unfold F10
  rw [h11, Option.bind_some]
  simp only
  rw [Bool.not_true, cond_false, e12, Option.bind_some]
  simp only
  cases b12 with
  | false => rw [Bool.not_false, cond_true]
  | true =>
    obtain ⟨hl, hr⟩ := h12 rfl
    rw [Bool.not_true, cond_false]
    by_cases h0 : a0.length = 0
    · rw [show (((a0.length : Nat) : Int) == 0) = true by rw [h0]; rfl, cond_true]
    · have hin : (0 : Int) ≤ 0 ∧ (0 : Int) < ((a0.length : Nat) : Int) := by omega
      rw [beq_false_of_ne (show ¬ ((a0.length : Nat) : Int) = 0 by omega), cond_false, if_pos hin, show Int.toNat 0 = 0 from rfl]
      obtain ⟨s, b, e13, h13⟩ := F13_ok k (List.getD a0 0 (Tree.mk ((0 : Int), ((0 : Int), ())) [])) a1 (hr _ (getD_mem (by omega))) hk2
      rw [e13, Option.bind_some, if_pos hin, Option.bind_some]
      simp only
      cases b with
      | false => rw [Bool.not_false, cond_true]
      | true =>
        obtain ⟨n, M, hn, hG⟩ := h13 rfl
        obtain ⟨_, g1, g2, r1, r2, r3, r4⟩ := hG.r hn
        have g3 := hG.le
        rw [Bool.not_true, cond_false]
        have hround : ∃ p c, F14 k s = some ((p, c, ()), ()) ∧ p.length ≤ 20000 := by
          rcases F14_ok k n s g1 r1 r4 (by omega) hk with ⟨p, e14, hp, hrd⟩ | ⟨e14, hp⟩
          · obtain ⟨a, ha, nx, ha2, hg, h1, h2, h3, h4, h5, h6, h7⟩ := hrd
            exact ⟨p, true, e14, by omega⟩
          · exact ⟨[], false, e14, by simp⟩
        obtain ⟨p, c, e14, hp⟩ := hround
        obtain ⟨l, b, e19, hl2⟩ := F19_len k s hk hn g1 g2 r1 r4
        have k1 : (([] : List Int).length + p.length) * (8 * 2) ≤ 281474976710656 ∧ ([] : List Int).length + p.length ≤ 9223372036854775807 := by simp; omega
        have x0 := F10_0_ok k a2 c s s p p.length k 0 p (by omega) (by omega) (by omega)
        have x1 := F10_1_ok k a2 c s s p l.length k 0 l (by omega) (by omega) (by omega)
        rw [show ((0 : Nat) : Int) = 0 from rfl] at x0 x1
        rw [e14, Option.bind_some]
        simp only [List.replicate_zero, List.nil_append]
        rw [if_pos k1, x0, Option.bind_some]
        simp only
        rw [e19, Option.bind_some]
        simp only
        rw [x1, Option.bind_some]
        simp only
        rw [e14, Option.bind_some, F24_same (n := n) k s (by omega) (by omega) (by omega) r4 hk, Option.bind_some]
        simp only
        rw [cond_true, beq_self_eq_true, cond_true, F25_same k p (by omega) hk, Option.bind_some]
end Go.Proofs.YtgojfdimbciaiaaE
namespace Go.Proofs.Ytgojfdimbciaiaa.Pure
open Go.Proofs.YtgojfdimbciaiaaE
theorem TwinOwn (a0 : List (Tree (Int × (Int × Unit)))) (a1 : List Int) (a2 : Int) : (a1.length * 8 ≤ 140737488351232) → (∀ x ∈ a1, IntKind.min .i64 ≤ x ∧ x ≤ IntKind.max .i64) → (IntKind.min .i64 ≤ a2 ∧ a2 ≤ IntKind.max .i64) → ∃ k, F10 k a0 a1 a2 = some ((true, ()), ()) := by
  intros
  exact twin_own a0 a1 a2
end Go.Proofs.Ytgojfdimbciaiaa.Pure
