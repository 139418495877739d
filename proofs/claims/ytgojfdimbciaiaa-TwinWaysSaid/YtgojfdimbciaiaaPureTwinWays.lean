/- The plain law of TwinWays. Conditions: none. -/
import Derived.Test.YtgojfdimbciaiaaP0
set_option linter.unusedSimpArgs false
set_option linter.unusedVariables false
set_option maxRecDepth 20000
namespace Go.Proofs.YtgojfdimbciaiaaE
theorem F4_0_ok (k : Nat) (s : SideT) (p c46 : List Int) (i : Nat) (h0 : 0 < i) (hi : i < p.length) (hs : s.2.2.2.1.length ≤ 20000) (hp : p.length ≤ 20000) (t12 : Int) (t70 : Bool) (t72 : Int) (t73 t74 : Bool) (t92 : Int) (t93 : Bool) (t98 t101 : Int) (t102 : Bool) (t109 t111 : Int) (t112 : Bool) : ∀ (e m j : Nat) (f : Bool), j + e = s.2.2.2.1.length → e < m →
    ∃ f', F4_0 k m t12 (i : Int) f (j : Int) t70 t72 t73 t74 t92 t93 t98 t101 t102 t109 t111 t112 s c46 p = some ((t12, (i : Int), f', t70, t72, t73, t74, t92, t93, t98, t101, t102, t109, t111, t112, ()), (s, c46, p, ())) ∧ ((f = true ∨ ∃ a ∈ s.2.2.2.1.drop j, a.1 = List.getD p (i - 1) 0 ∧ a.2.1 = List.getD p i 0) → f' = true)
  | 0, m, j, f, hj, hm => by
    obtain ⟨m, rfl⟩ : ∃ m', m = m' + 1 := ⟨m - 1, by omega⟩
    refine ⟨f, ?_, fun h => ?_⟩
    · simp only [F4_0]
      rw [decide_eq_false (by omega), cond_false]
    · rcases h with h | ⟨a, ha, _⟩
      · exact h
      · rw [List.drop_eq_nil_of_le (by omega)] at ha; cases ha
  | e + 1, m, j, f, hj, hm => by
    obtain ⟨m, rfl⟩ : ∃ m', m = m' + 1 := ⟨m - 1, by omega⟩
    have hlt : j < s.2.2.2.1.length := by omega
    have hdr : s.2.2.2.1.drop j = s.2.2.2.1[j] :: s.2.2.2.1.drop (j + 1) := List.drop_eq_getElem_cons hlt
    have wi : IntKind.wrap .i64 ((i : Int) - 1) = ((i - 1 : Nat) : Int) := by rw [w64 _ (by omega) (by omega)]; omega
    have key : ∀ f1 : Bool, ((f = true ∨ ∃ a ∈ s.2.2.2.1.drop j, a.1 = List.getD p (i - 1) 0 ∧ a.2.1 = List.getD p i 0) → (f1 = true ∨ ∃ a ∈ s.2.2.2.1.drop (j + 1), a.1 = List.getD p (i - 1) 0 ∧ a.2.1 = List.getD p i 0)) →
        ∃ f', (F4_0 k m t12 (i : Int) f1 ((j + 1 : Nat) : Int) t70 t72 t73 t74 t92 t93 t98 t101 t102 t109 t111 t112 s c46 p).bind some = some ((t12, (i : Int), f', t70, t72, t73, t74, t92, t93, t98, t101, t102, t109, t111, t112, ()), (s, c46, p, ())) ∧ ((f = true ∨ ∃ a ∈ s.2.2.2.1.drop j, a.1 = List.getD p (i - 1) 0 ∧ a.2.1 = List.getD p i 0) → f' = true) := fun f1 hf => by
      obtain ⟨f', e1, h1⟩ := F4_0_ok k s p c46 i h0 hi hs hp t12 t70 t72 t73 t74 t92 t93 t98 t101 t102 t109 t111 t112 e m (j + 1) f1 (by omega) (by omega)
      exact ⟨f', by rw [e1]; rfl, fun h => h1 (hf h)⟩
    have q1 : (0 : Int) ≤ ((i - 1 : Nat) : Int) ∧ ((i - 1 : Nat) : Int) < ((p.length : Nat) : Int) := by omega
    simp only [F4_0]
    rw [dlt hlt, cond_true, wsucc j _ hlt (by omega)]
    cases f with
    | true => rw [cond_true]; exact key true (fun _ => .inl rfl)
    | false =>
      rw [cond_false, if_pos (inR hlt), wi, if_pos q1, show Int.toNat (j : Int) = j from rfl, show Int.toNat ((i - 1 : Nat) : Int) = i - 1 from rfl, show Int.toNat (i : Int) = i from rfl, getD_lt s.2.2.2.1 j _ hlt]
      by_cases g : s.2.2.2.1[j].1 = List.getD p (i - 1) 0
      · rw [show (s.2.2.2.1[j].1 == List.getD p (i - 1) 0) = true by rw [g]; simp, cond_true, if_pos (inR hlt), if_pos (inR hi)]
        refine key _ (fun h => ?_)
        rcases h with h | ⟨a, ha, a1, a2⟩
        · cases h
        · rw [hdr] at ha
          rcases List.mem_cons.1 ha with q | q
          · left
            rw [q] at a2
            rw [a2]
            simp
          · exact .inr ⟨a, q, a1, a2⟩
      · rw [beq_false_of_ne g, cond_false]
        refine key _ (fun h => ?_)
        rcases h with h | ⟨a, ha, a1, a2⟩
        · cases h
        · rw [hdr] at ha
          rcases List.mem_cons.1 ha with q | q
          · rw [q] at a1
            exact absurd a1 g
          · exact .inr ⟨a, q, a1, a2⟩
theorem F4_1_ok (k : Nat) (hk : 10000000 ≤ k) (s : SideT) (p c46 : List Int) (hs : s.2.2.2.1.length ≤ 20000) (hp : p.length ≤ 20000) (hw : ∀ i, i + 1 < p.length → ∃ a ∈ s.2.2.2.1, a.1 = List.getD p i 0 ∧ a.2.1 = List.getD p (i + 1) 0) (t12 : Int) (t70 : Bool) (t72 : Int) (t73 t74 : Bool) (t92 : Int) (t93 : Bool) (t98 t101 : Int) (t102 : Bool) (t109 t111 : Int) (t112 : Bool) : ∀ (d m i : Nat), 0 < i → p.length ≤ i + d → d < m →
    F4_1 k m t12 (i : Int) t70 t72 t73 t74 t92 t93 t98 t101 t102 t109 t111 t112 s c46 p = some (.inl ((t12, t70, t72, t73, t74, t92, t93, t98, t101, t102, t109, t111, t112, ()), (s, c46, p, ())))
  | d, m, i, h0, hi, hm => by
    obtain ⟨m, rfl⟩ : ∃ m', m = m' + 1 := ⟨m - 1, by omega⟩
    by_cases hlt : i < p.length
    · obtain ⟨d, rfl⟩ : ∃ d', d = d' + 1 := ⟨d - 1, by omega⟩
      obtain ⟨f', e, hf⟩ := F4_0_ok k s p c46 i h0 hlt hs hp t12 t70 t72 t73 t74 t92 t93 t98 t101 t102 t109 t111 t112 s.2.2.2.1.length k 0 false (by omega) (by omega)
      have hf' : f' = true := hf (.inr (by
        obtain ⟨a, ha, a1, a2⟩ := hw (i - 1) (by omega)
        rw [show i - 1 + 1 = i by omega] at a2
        exact ⟨a, by rw [List.drop_zero]; exact ha, a1, a2⟩))
      subst hf'
      rw [show ((0 : Nat) : Int) = 0 from rfl] at e
      simp only [F4_1]
      rw [dlt hlt, cond_true, e, Option.bind_some]
      simp only
      rw [Bool.not_true, cond_false, wsucc i _ hlt (by omega), F4_1_ok k hk s p c46 hs hp hw t12 t70 t72 t73 t74 t92 t93 t98 t101 t102 t109 t111 t112 d m (i + 1) (by omega) (by omega) (by omega)]
      rfl
    · simp only [F4_1]
      rw [decide_eq_false (by omega), cond_false]
theorem F4_2_ok {n : Nat} (k : Nat) (hk : 10000000 ≤ k) (s : SideT) (hn : n ≤ 120) (hls : s.1.length = n) (hlf : s.2.1.length = n) (hl : ArcsP n s.2.2.2.1) (hs : s.2.2.2.1.length ≤ 20000) (c : List Int) (hc : c.length = 2) : ∀ (d m i : Nat), i + d = 2 → d < m → F4_2 k m (i : Int) s c = some (.inl ((), ()))
  | 0, m, i, hi, hm => by
    obtain ⟨m, rfl⟩ : ∃ m', m = m' + 1 := ⟨m - 1, by omega⟩
    simp only [F4_2]
    rw [decide_eq_false (by omega), cond_false]
  | d + 1, m, i, hi, hm => by
    obtain ⟨m, rfl⟩ : ∃ m', m = m' + 1 := ⟨m - 1, by omega⟩
    have hlt : i < c.length := by omega
    have wi : IntKind.wrap .i64 ((i : Int) + 1) = ((i + 1 : Nat) : Int) := by rw [w64 _ (by omega) (by omega)]; omega
    have ih := F4_2_ok k hk s hn hls hlf hl hs c hc d m (i + 1) (by omega) (by omega)
    simp only [F4_2]
    rw [decide_eq_true (by omega), cond_true, if_pos (inR hlt), show Int.toNat (i : Int) = i from rfl]
    rcases ways_ok k s (List.getD c i 0) hk hn hls hlf hl hs with ⟨e19, e20⟩ | ⟨u, l, et, e19, e20, hq⟩
    · rw [e19, Option.bind_some, if_pos (inR hlt), e20, Option.bind_some]
      simp only
      rw [show ((((([] : List Int).length : Nat) : Int)) != 0) = false from rfl, cond_false, show (decide (((([] : List Int).length : Nat) : Int) > 0)) = false from rfl, show (!(false == false)) = false from rfl, cond_false, Bool.not_false, cond_true, wi, ih]
      rfl
    · obtain ⟨p1, p2, p3, ⟨v, p4, p5, p6⟩, p7⟩ := hq
      have wl : IntKind.wrap .i64 (((l.length : Nat) : Int) - 1) = ((l.length - 1 : Nat) : Int) := by rw [w64 _ (by omega) (by omega)]; omega
      have q1 : (0 : Int) ≤ ((l.length - 1 : Nat) : Int) ∧ ((l.length - 1 : Nat) : Int) < ((l.length : Nat) : Int) := by omega
      have q2 : (0 : Int) ≤ 0 ∧ (0 : Int) < ((l.length : Nat) : Int) := by omega
      have q3 : (0 : Int) ≤ (v : Int) ∧ (v : Int) < ((s.2.1.length : Nat) : Int) := by omega
      rw [e19, Option.bind_some, if_pos (inR hlt), e20, Option.bind_some]
      simp only
      rw [show ((((l.length : Nat) : Int)) != ((l.length : Nat) : Int)) = false by simp, cond_false, decide_eq_true (show ((l.length : Nat) : Int) > 0 by omega), show (!(true == true)) = false from rfl, cond_false, Bool.not_true, cond_false, wl, if_pos q1, show Int.toNat ((l.length - 1 : Nat) : Int) = l.length - 1 from rfl, p3, if_pos (inR hlt), et, show (((u : Nat) : Int) != ((u : Nat) : Int)) = false by simp, cond_false, if_pos q2, show Int.toNat 0 = 0 from rfl, p4, decide_eq_false (show ¬ (v : Int) < 0 by omega), cond_false, if_pos q2, decide_eq_false (show ¬ (v : Int) ≥ ((s.2.1.length : Nat) : Int) by omega), cond_false, if_pos q2, if_pos q3, show Int.toNat (v : Int) = v from rfl, decide_eq_false (show ¬ List.getD s.2.1 v 0 ≥ 1152921504606846976 by omega), cond_false]
      have e1 := F4_1_ok k hk s l c hs (by omega) p7 (i : Int) true ((l.length : Nat) : Int) true false (v : Int) false (v : Int) ((s.2.1.length : Nat) : Int) false (v : Int) (List.getD s.2.1 v 0) false l.length k 1 (by omega) (by omega) (by omega)
      rw [show ((1 : Nat) : Int) = 1 from rfl] at e1
      rw [e1, Option.bind_some]
      simp only
      rw [wi, ih]
      rfl
theorem twin_ways (a0 : List RawT) (a1 : List Int) (a2 a3 : Int) : ∃ k, F4 k a0 a1 a2 a3 = some ((true, ()), ()) := by
  obtain ⟨k, hk2, h11⟩ := start2
  have hk : 10000000 ≤ k := by omega
  refine ⟨k, ?_⟩
  obtain ⟨b12, e12, h12⟩ := F12_ok k a0 (by omega)
  unfold F4
  rw [h11, Option.bind_some]
  simp only
  rw [Bool.not_true, cond_false, e12, Option.bind_some]
  simp only
  cases b12 with
  | false => rw [Bool.not_false, cond_true]
  | true =>
    obtain ⟨hl, hr⟩ := h12 rfl
    rw [Bool.not_true, cond_false]
    by_cases h0 : a0.length = 0
    · rw [show (((a0.length : Nat) : Int) == 0) = true by rw [h0]; rfl, cond_true]
    · rw [beq_false_of_ne (show ¬ ((a0.length : Nat) : Int) = 0 by omega), cond_false, if_pos (show (0 : Int) ≤ 0 ∧ (0 : Int) < ((a0.length : Nat) : Int) by omega), show Int.toNat 0 = 0 from rfl]
      obtain ⟨s, b, e13, h13⟩ := F13_R k (List.getD a0 0 (Tree.mk ((0 : Int), ((0 : Int), ())) [])) a1 (hr _ (getD_mem (by omega))) hk2
      rw [e13, Option.bind_some]
      simp only
      cases b with
      | false => rw [Bool.not_false, cond_true]
      | true =>
        obtain ⟨n, hn, g1, g2, r1, r2, r3, r4⟩ := h13 rfl
        rw [Bool.not_true, cond_false, w64 (((s.1.length : Nat) : Int) + 3) (by omega) (by omega), F18_eq k _ _ (by omega) (by omega), Option.bind_some]
        simp only
        have e2 := F4_2_ok k hk s hn g1 g2 r1 r4 (List.set (List.set (List.replicate 2 (0 : Int)) 0 (IntKind.wrap .i64 (a2 % (((s.1.length : Nat) : Int) + 3) - 1))) 1 a3) (by simp) 2 k 0 (by omega) (by omega)
        rw [show ((0 : Nat) : Int) = 0 from rfl] at e2
        rw [e2, Option.bind_some]
end Go.Proofs.YtgojfdimbciaiaaE
namespace Go.Proofs.Ytgojfdimbciaiaa.Pure
open Go.Proofs.YtgojfdimbciaiaaE
theorem TwinWays (a0 : List (Tree (Int × (Int × Unit)))) (a1 : List Int) (a2 : Int) (a3 : Int) : (a1.length * 8 ≤ 140737488351232) → (∀ x ∈ a1, IntKind.min .i64 ≤ x ∧ x ≤ IntKind.max .i64) → (IntKind.min .i64 ≤ a2 ∧ a2 ≤ IntKind.max .i64) → (IntKind.min .i64 ≤ a3 ∧ a3 ≤ IntKind.max .i64) → ∃ k, F4 k a0 a1 a2 a3 = some ((true, ()), ()) := by
  intros
  exact twin_ways a0 a1 a2 a3
end Go.Proofs.Ytgojfdimbciaiaa.Pure
