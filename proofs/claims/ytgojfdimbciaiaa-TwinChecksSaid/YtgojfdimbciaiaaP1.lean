/- Plain laws. Conditions: none. -/
import Derived.Test.YtgojfdimbciaiaaP0
/- Plain laws of sides: what is left of one that is trimmed. Conditions: none. -/
set_option linter.unusedSimpArgs false
set_option linter.unusedVariables false
set_option maxRecDepth 20000
namespace Go.Proofs.YtgojfdimbciaiaaE
abbrev sd0 : SideT := (([] : (List Int)), (([] : (List Int)), (([] : (List Int)), (([] : (List (Int × (Int × (Int × Unit))))), ((0 : Int), ())))))
/-- How many are not. -/
def offs : List Bool → Nat
  | [] => 0
  | b :: l => (if b then 0 else 1) + offs l
theorem offs_le : ∀ l : List Bool, offs l ≤ l.length
  | [] => Nat.le_refl _
  | b :: l => by
    have := offs_le l
    unfold offs
    simp only [List.length_cons]
    split <;> omega
theorem offs_set : ∀ (l : List Bool) (i : Nat), i < l.length → offs (List.set l i true) + (if List.getD l i false then 0 else 1) = offs l
  | [], i, h => by simp at h
  | b :: l, 0, h => by
    cases b <;> simp [offs]
    omega
  | b :: l, i + 1, h => by
    have := offs_set l i (by simpa using h)
    simp only [List.set_cons_succ, offs, List.getD_cons_succ]
    omega
theorem F30_0_ok {n M0 : Nat} {C : Int} (k : Nat) (M : List (List Bool)) (s c4 : SideT) (hk : 10000000 ≤ k) (hn : n ≤ 500) (hs : SideG n C M0 s) (hM : M0 ≤ M.length) (hr : ∀ r ∈ M, r.length ≤ 2000000) : ∀ (d m i : Nat) (a b c : List Bool), i + d = n → d < m → a.length = n → b.length = n → c.length = n →
    ∃ a' b' c', F30_0 k m M (n : Int) (i : Int) s c4 a b c = some (((n : Int), ()), (s, (c4, (a', (b', (c', ())))))) ∧ a'.length = n ∧ b'.length = n ∧ c'.length = n
  | 0, m, i, a, b, c, hi, hm, ha, hb, hc => by
    obtain ⟨m, rfl⟩ : ∃ m', m = m' + 1 := ⟨m - 1, by omega⟩
    refine ⟨a, b, c, ?_, ha, hb, hc⟩
    simp only [F30_0]
    rw [decide_eq_false (by omega), cond_false]
  | d + 1, m, i, a, b, c, hi, hm, ha, hb, hc => by
    obtain ⟨m, rfl⟩ : ∃ m', m = m' + 1 := ⟨m - 1, by omega⟩
    have hls := hs.ls
    have hlf := hs.lf
    have hle := hs.le
    have hx := hs.sets (List.getD s.1 i 0) (getD_mem (by omega))
    obtain ⟨v, e⟩ := F49_ok k M i s hk (by omega) (by omega) hr
    have key : ∀ a' b' c' : List Bool, a'.length = n → b'.length = n → c'.length = n → ∃ a2 b2 c2, (F30_0 k m M (n : Int) ((i + 1 : Nat) : Int) s c4 a' b' c').bind some = some (((n : Int), ()), (s, (c4, (a2, (b2, (c2, ())))))) ∧ a2.length = n ∧ b2.length = n ∧ c2.length = n := fun a' b' c' g1 g2 g3 => by
      obtain ⟨a2, b2, c2, e, h⟩ := F30_0_ok k M s c4 hk hn hs hM hr d m (i + 1) a' b' c' (by omega) (by omega) g1 g2 g3
      exact ⟨a2, b2, c2, by rw [e]; rfl, h⟩
    have wi : IntKind.wrap .i64 ((i : Int) + 1) = ((i + 1 : Nat) : Int) := by rw [w64 _ (by omega) (by omega)]; omega
    have q1 : (0 : Int) ≤ (i : Int) ∧ (i : Int) < ((c.length : Nat) : Int) := by omega
    have q2 : (0 : Int) ≤ (i : Int) ∧ (i : Int) < (((List.set c (Int.toNat (i : Int)) v).length : Nat) : Int) := by rw [List.length_set]; omega
    have q3 : (0 : Int) ≤ (i : Int) ∧ (i : Int) < ((s.2.1.length : Nat) : Int) := by omega
    have q4 : (0 : Int) ≤ (i : Int) ∧ (i : Int) < ((s.2.2.1.length : Nat) : Int) := by omega
    have q5 : (0 : Int) ≤ (i : Int) ∧ (i : Int) < ((a.length : Nat) : Int) := by omega
    have q6 : (0 : Int) ≤ (i : Int) ∧ (i : Int) < ((b.length : Nat) : Int) := by omega
    simp only [F30_0]
    rw [decide_eq_true (by omega), cond_true, e, Option.bind_some]
    simp only
    rw [if_pos q1, if_pos q2, wi]
    cases List.getD (List.set c (Int.toNat (i : Int)) v) (Int.toNat (i : Int)) false with
    | true =>
      rw [cond_true, if_pos q3, if_pos q2, cond_true, if_pos q4, if_pos q5, if_pos q6]
      exact key _ _ _ (by rw [List.length_set]; exact ha) (by rw [List.length_set]; exact hb) (by rw [List.length_set]; exact hc)
    | false =>
      rw [cond_false, if_pos q2, cond_false, if_pos q5, if_pos q6]
      exact key _ _ _ (by rw [List.length_set]; exact ha) (by rw [List.length_set]; exact hb) (by rw [List.length_set]; exact hc)
theorem F30_1_ok {n M0 : Nat} {C : Int} (k : Nat) (s c4 : SideT) (c : List Bool) (hn : n ≤ 500) (hs : SideG n C M0 s) (hc : c.length = n) : ∀ (d m i : Nat) (t : Bool) (a b : List Bool), i + d = s.2.2.2.1.length → d < m → a.length = n → b.length = n →
    ∃ t' a' b', F30_1 k m (n : Int) t (i : Int) s c4 a b c = some (((n : Int), (t', ())), (s, (c4, (a', (b', (c, ())))))) ∧ a'.length = n ∧ b'.length = n ∧ offs a' + offs b' ≤ offs a + offs b ∧ (t' = true → t = true ∨ offs a' + offs b' < offs a + offs b)
  | 0, m, i, t, a, b, hi, hm, ha, hb => by
    obtain ⟨m, rfl⟩ : ∃ m', m = m' + 1 := ⟨m - 1, by omega⟩
    refine ⟨t, a, b, ?_, ha, hb, Nat.le_refl _, fun h => .inl h⟩
    simp only [F30_1]
    rw [decide_eq_false (by omega), cond_false]
  | d + 1, m, i, t, a, b, hi, hm, ha, hb => by
    obtain ⟨m, rfl⟩ : ∃ m', m = m' + 1 := ⟨m - 1, by omega⟩
    have hlt : i < s.2.2.2.1.length := by omega
    have hlen := srt_len hs.srt hs.arcs
    have hnn : n * n ≤ 500 * 500 := Nat.mul_le_mul hn hn
    have hx := hs.arcs _ (List.getElem_mem hlt)
    have key : ∀ (t1 : Bool) (a1 b1 : List Bool), a1.length = n → b1.length = n → offs a1 + offs b1 ≤ offs a + offs b → (t1 = true → t = true ∨ offs a1 + offs b1 < offs a + offs b) →
        ∃ t' a' b', (F30_1 k m (n : Int) t1 ((i + 1 : Nat) : Int) s c4 a1 b1 c).bind some = some (((n : Int), (t', ())), (s, (c4, (a', (b', (c, ())))))) ∧ a'.length = n ∧ b'.length = n ∧ offs a' + offs b' ≤ offs a + offs b ∧ (t' = true → t = true ∨ offs a' + offs b' < offs a + offs b) := fun t1 a1 b1 g1 g2 g3 g4 => by
      obtain ⟨t', a', b', e, h1, h2, h3, h4⟩ := F30_1_ok k s c4 c hn hs hc d m (i + 1) t1 a1 b1 (by omega) (by omega) g1 g2
      refine ⟨t', a', b', by rw [e]; rfl, h1, h2, by omega, fun q => ?_⟩
      rcases h4 q with r | r
      · rcases g4 r with r | r
        · exact .inl r
        · exact .inr (by omega)
      · exact .inr (by omega)
    obtain ⟨⟨x1, x2⟩, ⟨x3, x4⟩, _⟩ := hx
    have sa := offs_set a (Int.toNat s.2.2.2.1[i].2.1) (by omega)
    have sb := offs_set b (Int.toNat s.2.2.2.1[i].1) (by omega)
    have q1 : (0 : Int) ≤ s.2.2.2.1[i].1 ∧ s.2.2.2.1[i].1 < ((a.length : Nat) : Int) := by omega
    have q2 : (0 : Int) ≤ s.2.2.2.1[i].2.1 ∧ s.2.2.2.1[i].2.1 < ((a.length : Nat) : Int) := by omega
    have q3 : (0 : Int) ≤ s.2.2.2.1[i].1 ∧ s.2.2.2.1[i].1 < ((b.length : Nat) : Int) := by omega
    have q4 : (0 : Int) ≤ s.2.2.2.1[i].2.1 ∧ s.2.2.2.1[i].2.1 < ((b.length : Nat) : Int) := by omega
    have q5 : (0 : Int) ≤ s.2.2.2.1[i].1 ∧ s.2.2.2.1[i].1 < ((c.length : Nat) : Int) := by omega
    have q6 : (0 : Int) ≤ s.2.2.2.1[i].2.1 ∧ s.2.2.2.1[i].2.1 < ((c.length : Nat) : Int) := by omega
    have la : (List.set a (Int.toNat s.2.2.2.1[i].2.1) true).length = n := by rw [List.length_set]; exact ha
    have lb : (List.set b (Int.toNat s.2.2.2.1[i].1) true).length = n := by rw [List.length_set]; exact hb
    have fa : List.getD a (Int.toNat s.2.2.2.1[i].2.1) false = false → offs (List.set a (Int.toNat s.2.2.2.1[i].2.1) true) + 1 = offs a := fun h => by
      rw [h] at sa; exact sa
    have fb : List.getD b (Int.toNat s.2.2.2.1[i].1) false = false → offs (List.set b (Int.toNat s.2.2.2.1[i].1) true) + 1 = offs b := fun h => by
      rw [h] at sb; exact sb
    have none' := key t a b ha hb (Nat.le_refl _) (fun h => .inl h)
    have both : List.getD a (Int.toNat s.2.2.2.1[i].2.1) false = false → List.getD b (Int.toNat s.2.2.2.1[i].1) false = false → _ := fun h1 h2 => key true _ _ la lb (by have := fa h1; have := fb h2; omega) (fun _ => .inr (by have := fa h1; have := fb h2; omega))
    have onlyA : List.getD a (Int.toNat s.2.2.2.1[i].2.1) false = false → _ := fun h1 => key true _ b la hb (by have := fa h1; omega) (fun _ => .inr (by have := fa h1; omega))
    have onlyB : List.getD b (Int.toNat s.2.2.2.1[i].1) false = false → _ := fun h1 => key true a _ ha lb (by have := fb h1; omega) (fun _ => .inr (by have := fb h1; omega))
    simp only [F30_1]
    rw [dlt hlt, cond_true, if_pos (inR hlt), show Int.toNat (i : Int) = i from rfl, getD_lt s.2.2.2.1 i _ hlt, wsucc i _ hlt (by omega), if_pos q1]
    cases h1 : List.getD a (Int.toNat s.2.2.2.1[i].1) false with
    | true =>
      rw [cond_true, if_pos q6]
      cases h2 : List.getD c (Int.toNat s.2.2.2.1[i].2.1) false with
      | true =>
        rw [cond_true, if_pos q2]
        cases h3 : List.getD a (Int.toNat s.2.2.2.1[i].2.1) false with
        | false =>
          rw [Bool.not_false, cond_true, if_pos q2, if_pos q4]
          cases h4 : List.getD b (Int.toNat s.2.2.2.1[i].2.1) false with
          | true =>
            rw [cond_true, if_pos q5]
            cases h5 : List.getD c (Int.toNat s.2.2.2.1[i].1) false with
            | true =>
              rw [cond_true, if_pos q3]
              cases h6 : List.getD b (Int.toNat s.2.2.2.1[i].1) false with
              | true => rw [Bool.not_true, cond_false]; exact onlyA h3
              | false => rw [Bool.not_false, cond_true, if_pos q3]; exact both h3 h6
            | false => rw [cond_false]; exact onlyA h3
          | false => rw [cond_false]; exact onlyA h3
        | true =>
          rw [Bool.not_true, cond_false, if_pos q4]
          cases h4 : List.getD b (Int.toNat s.2.2.2.1[i].2.1) false with
          | true =>
            rw [cond_true, if_pos q5]
            cases h5 : List.getD c (Int.toNat s.2.2.2.1[i].1) false with
            | true =>
              rw [cond_true, if_pos q3]
              cases h6 : List.getD b (Int.toNat s.2.2.2.1[i].1) false with
              | true => rw [Bool.not_true, cond_false]; exact none'
              | false => rw [Bool.not_false, cond_true, if_pos q3]; exact onlyB h6
            | false => rw [cond_false]; exact none'
          | false => rw [cond_false]; exact none'
      | false =>
        rw [cond_false, if_pos q4]
        cases h4 : List.getD b (Int.toNat s.2.2.2.1[i].2.1) false with
        | true =>
          rw [cond_true, if_pos q5]
          cases h5 : List.getD c (Int.toNat s.2.2.2.1[i].1) false with
          | true =>
            rw [cond_true, if_pos q3]
            cases h6 : List.getD b (Int.toNat s.2.2.2.1[i].1) false with
            | true => rw [Bool.not_true, cond_false]; exact none'
            | false => rw [Bool.not_false, cond_true, if_pos q3]; exact onlyB h6
          | false => rw [cond_false]; exact none'
        | false => rw [cond_false]; exact none'
    | false =>
      rw [cond_false, if_pos q4]
      cases h4 : List.getD b (Int.toNat s.2.2.2.1[i].2.1) false with
      | true =>
        rw [cond_true, if_pos q5]
        cases h5 : List.getD c (Int.toNat s.2.2.2.1[i].1) false with
        | true =>
          rw [cond_true, if_pos q3]
          cases h6 : List.getD b (Int.toNat s.2.2.2.1[i].1) false with
          | true => rw [Bool.not_true, cond_false]; exact none'
          | false => rw [Bool.not_false, cond_true, if_pos q3]; exact onlyB h6
        | false => rw [cond_false]; exact none'
      | false => rw [cond_false]; exact none'
theorem F30_2_ok {n M0 : Nat} {C : Int} (k : Nat) (s c4 : SideT) (c : List Bool) (hk : 10000000 ≤ k) (hn : n ≤ 500) (hs : SideG n C M0 s) (hc : c.length = n) : ∀ (d m : Nat) (t : Bool) (a b : List Bool), offs a + offs b < d → d < m → a.length = n → b.length = n →
    ∃ a' b', F30_2 k m (n : Int) t s c4 a b c = some (((n : Int), ()), (s, (c4, (a', (b', ()))))) ∧ a'.length = n ∧ b'.length = n
  | 0, m, t, a, b, hd, hm, ha, hb => by omega
  | d + 1, m, t, a, b, hd, hm, ha, hb => by
    obtain ⟨m, rfl⟩ : ∃ m', m = m' + 1 := ⟨m - 1, by omega⟩
    cases t with
    | false =>
      refine ⟨a, b, ?_, ha, hb⟩
      simp only [F30_2]
      rw [cond_false]
    | true =>
      have hlen := srt_len hs.srt hs.arcs
      have hnn : n * n ≤ 500 * 500 := Nat.mul_le_mul hn hn
      obtain ⟨t', a', b', e, h1, h2, h3, h4⟩ := F30_1_ok k s c4 c hn hs hc s.2.2.2.1.length k 0 false a b (Nat.zero_add _) (by omega) ha hb
      rw [show ((0 : Nat) : Int) = 0 from rfl] at e
      have fin : ∃ a2 b2, F30_2 k m (n : Int) t' s c4 a' b' c = some (((n : Int), ()), (s, (c4, (a2, (b2, ()))))) ∧ a2.length = n ∧ b2.length = n := by
        cases t' with
        | true =>
          rcases h4 rfl with q | q
          · cases q
          · exact F30_2_ok k s c4 c hk hn hs hc d m true a' b' (by omega) (by omega) h1 h2
        | false =>
          obtain ⟨m, rfl⟩ : ∃ m', m = m' + 1 := ⟨m - 1, by omega⟩
          refine ⟨a', b', ?_, h1, h2⟩
          simp only [F30_2]
          rw [cond_false]
      obtain ⟨a2, b2, e2, h⟩ := fin
      refine ⟨a2, b2, ?_, h⟩
      simp only [F30_2]
      rw [cond_true, e, Option.bind_some]
      simp only
      rw [e2]
      rfl
end Go.Proofs.YtgojfdimbciaiaaE
/- Plain laws of sides: what is left of one that is trimmed; a pattern's side. Conditions: none. -/
set_option linter.unusedSimpArgs false
set_option linter.unusedVariables false
set_option maxRecDepth 20000
namespace Go.Proofs.YtgojfdimbciaiaaE
/-- New names of so many positions: those that stay are told in their order. -/
structure RenP (n i : Nat) (j : Nat) (z : List Int) : Prop where
  len : z.length = n
  rng : ∀ x, x < i → -1 ≤ List.getD z x 0 ∧ List.getD z x 0 < (j : Int)
  mon : ∀ x y, x < y → y < i → 0 ≤ List.getD z x 0 → 0 ≤ List.getD z y 0 → List.getD z x 0 < List.getD z y 0
theorem getS_ne {α : Type} {l : List α} {i x : Nat} {v d : α} (h : x ≠ i) : List.getD (List.set l i v) x d = List.getD l x d := by
  rw [List.getD_eq_getElem?_getD, List.getD_eq_getElem?_getD, List.getElem?_set_ne (fun q => h q.symm)]
theorem getS_eq {α : Type} {l : List α} {i : Nat} {v d : α} (h : i < l.length) : List.getD (List.set l i v) i d = v := by
  rw [List.getD_eq_getElem?_getD, List.getElem?_set_self h]
  rfl
theorem RenP.no {n i j : Nat} {z : List Int} (h : RenP n i j z) (hi : i < n) : RenP n (i + 1) j (List.set z i (-1)) := by
  have hl := h.len
  refine ⟨by rw [List.length_set]; exact hl, fun x hx => ?_, fun x y hxy hy h0 h1 => ?_⟩
  · by_cases e : x = i
    · subst e
      rw [getS_eq (by omega)]; omega
    · rw [getS_ne e]
      exact h.rng x (by omega)
  · by_cases e : y = i
    · subst e
      rw [getS_eq (by omega)] at h1; omega
    · rw [getS_ne e] at h1 ⊢
      rw [getS_ne (by omega)] at h0 ⊢
      exact h.mon x y hxy (by omega) h0 h1
theorem RenP.yes {n i j : Nat} {z : List Int} (h : RenP n i j z) (hi : i < n) : RenP n (i + 1) (j + 1) (List.set (List.set z i (-1)) i ((j : Nat) : Int)) := by
  have hl := h.len
  refine ⟨by rw [List.length_set, List.length_set]; exact hl, fun x hx => ?_, fun x y hxy hy h0 h1 => ?_⟩
  · by_cases e : x = i
    · subst e
      rw [getS_eq (by rw [List.length_set]; omega)]; omega
    · rw [getS_ne e, getS_ne e]
      have := h.rng x (by omega)
      omega
  · have ex : x ≠ i := by omega
    rw [getS_ne ex, getS_ne ex] at h0 ⊢
    by_cases e : y = i
    · subst e
      rw [getS_eq (by rw [List.length_set]; omega)]
      exact (h.rng x (by omega)).2
    · rw [getS_ne e, getS_ne e] at h1 ⊢
      exact h.mon x y hxy (by omega) h0 h1
theorem F30_3_ok {n M0 : Nat} {C : Int} (k : Nat) (s c4 : SideT) (a b : List Bool) (R : List (Int × (Int × (Int × Unit))) × (Int × Unit)) (hn : n ≤ 500) (hs : SideG n C M0 s) (ha : a.length = n) (hb : b.length = n) : ∀ (d m i j : Nat) (l1 l2 l3 z : List Int), i + d = n → d < m → l1.length = j → l2.length = j → l3.length = j → j ≤ i → RenP n i j z → (∀ x ∈ l1, -1 ≤ x ∧ x < (M0 : Int)) → (∀ x ∈ l2, CB C x) → (∀ x ∈ l3, CB C x) →
    ∃ (j' : Nat) (l1' l2' l3' z' : List Int), F30_3 k m (n : Int) (i : Int) s c4 (l1, (l2, (l3, R))) a b z = some ((), (s, (c4, ((l1', (l2', (l3', R))), (z', ()))))) ∧ l1'.length = j' ∧ l2'.length = j' ∧ l3'.length = j' ∧ j' ≤ n ∧ RenP n n j' z' ∧ (∀ x ∈ l1', -1 ≤ x ∧ x < (M0 : Int)) ∧ (∀ x ∈ l2', CB C x) ∧ (∀ x ∈ l3', CB C x)
  | 0, m, i, j, l1, l2, l3, z, hi, hm, e1, e2, e3, hj, hz, g1, g2, g3 => by
    obtain ⟨m, rfl⟩ : ∃ m', m = m' + 1 := ⟨m - 1, by omega⟩
    obtain rfl : i = n := by omega
    refine ⟨j, l1, l2, l3, z, ?_, e1, e2, e3, hj, hz, g1, g2, g3⟩
    simp only [F30_3]
    rw [decide_eq_false (by omega), cond_false]
  | d + 1, m, i, j, l1, l2, l3, z, hi, hm, e1, e2, e3, hj, hz, g1, g2, g3 => by
    obtain ⟨m, rfl⟩ : ∃ m', m = m' + 1 := ⟨m - 1, by omega⟩
    have hls := hs.ls
    have hlf := hs.lf
    have hle := hs.le
    have hzl := hz.len
    have wi : IntKind.wrap .i64 ((i : Int) + 1) = ((i + 1 : Nat) : Int) := by rw [w64 _ (by omega) (by omega)]; omega
    have q1 : (0 : Int) ≤ (i : Int) ∧ (i : Int) < ((z.length : Nat) : Int) := by omega
    have q2 : (0 : Int) ≤ (i : Int) ∧ (i : Int) < ((a.length : Nat) : Int) := by omega
    have q3 : (0 : Int) ≤ (i : Int) ∧ (i : Int) < ((b.length : Nat) : Int) := by omega
    have q4 : (0 : Int) ≤ (i : Int) ∧ (i : Int) < (((List.set z i (-1)).length : Nat) : Int) := by rw [List.length_set]; omega
    have q5 : (0 : Int) ≤ (i : Int) ∧ (i : Int) < ((s.1.length : Nat) : Int) := by omega
    have q6 : (0 : Int) ≤ (i : Int) ∧ (i : Int) < ((s.2.1.length : Nat) : Int) := by omega
    have q7 : (0 : Int) ≤ (i : Int) ∧ (i : Int) < ((s.2.2.1.length : Nat) : Int) := by omega
    have no : ∃ (j' : Nat) (l1' l2' l3' z' : List Int), (F30_3 k m (n : Int) ((i + 1 : Nat) : Int) s c4 (l1, (l2, (l3, R))) a b (List.set z i (-1))).bind some = some ((), (s, (c4, ((l1', (l2', (l3', R))), (z', ()))))) ∧ l1'.length = j' ∧ l2'.length = j' ∧ l3'.length = j' ∧ j' ≤ n ∧ RenP n n j' z' ∧ (∀ x ∈ l1', -1 ≤ x ∧ x < (M0 : Int)) ∧ (∀ x ∈ l2', CB C x) ∧ (∀ x ∈ l3', CB C x) := by
      obtain ⟨j', l1', l2', l3', z', e, h⟩ := F30_3_ok k s c4 a b R hn hs ha hb d m (i + 1) j l1 l2 l3 (List.set z i (-1)) (by omega) (by omega) e1 e2 e3 (by omega) (hz.no (by omega)) g1 g2 g3
      exact ⟨j', l1', l2', l3', z', by rw [e]; rfl, h⟩
    have k1 : ∀ (l : List Int) (x : Int), l.length = j → (l.length + [x].length) * (8 * 2) ≤ 281474976710656 ∧ l.length + [x].length ≤ 9223372036854775807 := fun l x h => by rw [h, List.length_singleton]; omega
    simp only [F30_3]
    rw [decide_eq_true (by omega), cond_true, if_pos q1, show Int.toNat (i : Int) = i from rfl, if_pos q2, wi]
    cases List.getD a i false with
    | false => rw [cond_false]; exact no
    | true =>
      rw [cond_true, if_pos q3]
      cases List.getD b i false with
      | false => rw [cond_false]; exact no
      | true =>
        simp only [one_list]
        rw [cond_true, if_pos q4, if_pos q5, if_pos q6, if_pos q7, if_pos (k1 l1 _ e1), if_pos (k1 l2 _ e2), if_pos (k1 l3 _ e3), e1]
        have add : ∀ {P : Int → Prop} {l : List Int} {x : Int}, (∀ y ∈ l, P y) → P x → ∀ y ∈ l ++ [x], P y := fun h1 h2 y hy => by
          rcases List.mem_append.1 hy with g | g
          · exact h1 y g
          · rw [List.mem_singleton.1 g]; exact h2
        obtain ⟨j', l1', l2', l3', z', e, h⟩ := F30_3_ok k s c4 a b R hn hs ha hb d m (i + 1) (j + 1) (l1 ++ [List.getD s.1 i 0]) (l2 ++ [List.getD s.2.1 i 0]) (l3 ++ [List.getD s.2.2.1 i 0]) (List.set (List.set z i (-1)) i ((j : Nat) : Int)) (by omega) (by omega) (by simp [e1]) (by simp [e2]) (by simp [e3]) (by omega) (hz.yes (by omega)) (add (P := fun x => -1 ≤ x ∧ x < (M0 : Int)) g1 (hs.sets _ (getD_mem (by omega)))) (add g2 (hs.cf _ (getD_mem (by omega)))) (add g3 (hs.ce _ (getD_mem (by omega))))
        exact ⟨j', l1', l2', l3', z', by rw [e]; rfl, h⟩
/-- Arcs with new names. -/
def renA (z : List Int) (x : ArcT) : ArcT := (List.getD z (Int.toNat x.1) 0, (List.getD z (Int.toNat x.2.1) 0, (x.2.2.1, ())))
theorem ren_lt {n j : Nat} {z : List Int} (hz : RenP n n j z) {B : Int} {l : List ArcT} (hl : ArcG n B l) {x y : ArcT} (hx : x ∈ l) (hy : y ∈ l) (h : Lt x y) (h1 : 0 ≤ (renA z x).1) (h2 : 0 ≤ (renA z x).2.1) (h3 : 0 ≤ (renA z y).1) (h4 : 0 ≤ (renA z y).2.1) : Lt (renA z x) (renA z y) := by
  have ax := hl x hx
  have ay := hl y hy
  unfold Lt at *
  unfold renA at *
  simp only at *
  rcases h with h | ⟨e, h⟩
  · left
    exact hz.mon _ _ (by omega) (by omega) h1 h3
  · right
    rw [e]
    exact ⟨rfl, hz.mon _ _ (by omega) (by omega) h2 h4⟩
theorem F30_4_ok {n M0 j : Nat} {C : Int} (k : Nat) (s c4 : SideT) (z : List Int) (l1 l2 l3 : List Int) (R : Int × Unit) (hn : n ≤ 500) (hs : SideG n C M0 s) (hz : RenP n n j z) : ∀ (d m i : Nat) (o : List ArcT), i + d = s.2.2.2.1.length → d < m → o.length ≤ i → Srt o → ArcG j (2 * C) o → (∀ y ∈ o, ∃ x ∈ s.2.2.2.1.take i, y = renA z x) →
    ∃ o', F30_4 k m (i : Int) s c4 (l1, (l2, (l3, (o, R)))) z = some ((), (c4, ((l1, (l2, (l3, (o', R)))), ()))) ∧ Srt o' ∧ ArcG j (2 * C) o'
  | 0, m, i, o, hi, hm, ho, h1, h2, h3 => by
    obtain ⟨m, rfl⟩ : ∃ m', m = m' + 1 := ⟨m - 1, by omega⟩
    refine ⟨o, ?_, h1, h2⟩
    simp only [F30_4]
    rw [decide_eq_false (by omega), cond_false]
  | d + 1, m, i, o, hi, hm, ho, h1, h2, h3 => by
    obtain ⟨m, rfl⟩ : ∃ m', m = m' + 1 := ⟨m - 1, by omega⟩
    have hlt : i < s.2.2.2.1.length := by omega
    have hlen := srt_len hs.srt hs.arcs
    have hnn : n * n ≤ 500 * 500 := Nat.mul_le_mul hn hn
    have hx := hs.arcs _ (List.getElem_mem hlt)
    have hzl := hz.len
    have tk : s.2.2.2.1.take (i + 1) = s.2.2.2.1.take i ++ [s.2.2.2.1[i]] := List.take_succ_eq_append_getElem hlt
    have up : ∀ y ∈ o, ∃ x ∈ s.2.2.2.1.take (i + 1), y = renA z x := fun y hy => by
      obtain ⟨x, hx, e⟩ := h3 y hy
      exact ⟨x, by rw [tk]; exact List.mem_append_left _ hx, e⟩
    have skip : ∃ o', (F30_4 k m ((i + 1 : Nat) : Int) s c4 (l1, (l2, (l3, (o, R)))) z).bind some = some ((), (c4, ((l1, (l2, (l3, (o', R)))), ()))) ∧ Srt o' ∧ ArcG j (2 * C) o' := by
      obtain ⟨o', e, h⟩ := F30_4_ok k s c4 z l1 l2 l3 R hn hs hz d m (i + 1) o (by omega) (by omega) (by omega) h1 h2 up
      exact ⟨o', by rw [e]; rfl, h⟩
    have q1 : (0 : Int) ≤ s.2.2.2.1[i].1 ∧ s.2.2.2.1[i].1 < ((z.length : Nat) : Int) := by omega
    have q2 : (0 : Int) ≤ s.2.2.2.1[i].2.1 ∧ s.2.2.2.1[i].2.1 < ((z.length : Nat) : Int) := by omega
    simp only [F30_4]
    rw [dlt hlt, cond_true, if_pos (inR hlt), show Int.toNat (i : Int) = i from rfl, getD_lt s.2.2.2.1 i _ hlt, wsucc i _ hlt (by omega), if_pos q1]
    by_cases g1 : List.getD z (Int.toNat s.2.2.2.1[i].1) 0 ≥ 0
    · rw [decide_eq_true g1, cond_true, if_pos q2]
      by_cases g2 : List.getD z (Int.toNat s.2.2.2.1[i].2.1) 0 ≥ 0
      · rw [decide_eq_true g2, cond_true, if_pos q1, if_pos q2]
        simp only [one_list]
        have k1 : (o.length + [renA z s.2.2.2.1[i]].length) * (24 * 2) ≤ 281474976710656 ∧ o.length + [renA z s.2.2.2.1[i]].length ≤ 9223372036854775807 := by rw [List.length_singleton]; omega
        have k1' : (o.length + [((List.getD z (Int.toNat s.2.2.2.1[i].1) 0), (List.getD z (Int.toNat s.2.2.2.1[i].2.1) 0, (s.2.2.2.1[i].2.2.1, ())))].length) * (24 * 2) ≤ 281474976710656 ∧ o.length + [((List.getD z (Int.toNat s.2.2.2.1[i].1) 0), (List.getD z (Int.toNat s.2.2.2.1[i].2.1) 0, (s.2.2.2.1[i].2.2.1, ())))].length ≤ 9223372036854775807 := k1
        rw [if_pos k1']
        have r1 := hz.rng (Int.toNat s.2.2.2.1[i].1) (by omega)
        have r2 := hz.rng (Int.toNat s.2.2.2.1[i].2.1) (by omega)
        obtain ⟨o', e, h⟩ := F30_4_ok k s c4 z l1 l2 l3 R hn hs hz d m (i + 1) (o ++ [renA z s.2.2.2.1[i]]) (by omega) (by omega) (by simp; omega) (by
          refine List.pairwise_append.2 ⟨h1, List.pairwise_singleton _ _, fun y hy y2 hy2 => ?_⟩
          rw [List.mem_singleton.1 hy2]
          obtain ⟨x, hx2, e⟩ := h3 y hy
          have hy3 := h2 y hy
          have hs2 := hs.srt
          unfold Srt at hs2
          rw [← List.take_append_drop i s.2.2.2.1, List.drop_eq_getElem_cons hlt] at hs2
          have lt := (List.pairwise_append.1 hs2).2.2 x hx2 s.2.2.2.1[i] List.mem_cons_self
          rw [e] at hy3 ⊢
          exact ren_lt hz hs.arcs (List.mem_of_mem_take hx2) (List.getElem_mem hlt) lt hy3.1.1 hy3.2.1.1 g1 g2) (fun y hy => by
          rcases List.mem_append.1 hy with g | g
          · exact h2 y g
          · rw [List.mem_singleton.1 g]
            exact ⟨⟨g1, r1.2⟩, ⟨g2, r2.2⟩, hx.2.2⟩) (fun y hy => by
          rcases List.mem_append.1 hy with g | g
          · exact up y g
          · exact ⟨_, by rw [tk]; exact List.mem_append_right _ (List.mem_singleton.2 rfl), List.mem_singleton.1 g⟩)
        refine ⟨o', ?_, h⟩
        have e' : F30_4 k m ((i + 1 : Nat) : Int) s c4 (l1, (l2, (l3, (o ++ [((List.getD z (Int.toNat s.2.2.2.1[i].1) 0), (List.getD z (Int.toNat s.2.2.2.1[i].2.1) 0, (s.2.2.2.1[i].2.2.1, ())))], R)))) z = _ := e
        rw [e']
        rfl
      · rw [decide_eq_false g2, cond_false]
        exact skip
    · rw [decide_eq_false g1, cond_false]
      exact skip
/-- A side, trimmed. -/
theorem F30_ok {n M0 : Nat} {C : Int} (k : Nat) (s : SideT) (M : List (List Bool)) (hk : 10000000 ≤ k) (hn : n ≤ 500) (hs : SideG n C M0 s) (hM : M0 ≤ M.length) (hr : ∀ r ∈ M, r.length ≤ 2000000) : ∃ (j : Nat) (s' : SideT), F30 k s M = some ((s', ()), ()) ∧ j ≤ n ∧ SideG j C M0 s' := by
  have hls := hs.ls
  have hlen := srt_len hs.srt hs.arcs
  have hnn : n * n ≤ 500 * 500 := Nat.mul_le_mul hn hn
  obtain ⟨a, b, c, e1, ha, hb, hc⟩ := F30_0_ok k M s sd0 hk hn hs hM hr n k 0 (List.replicate n false) (List.replicate n false) (List.replicate n false) (Nat.zero_add _) (by omega) (by simp) (by simp) (by simp)
  rw [show ((0 : Nat) : Int) = 0 from rfl] at e1
  have oa := offs_le a
  have ob := offs_le b
  obtain ⟨a2, b2, e2, ha2, hb2⟩ := F30_2_ok k s sd0 c hk hn hs hc (offs a + offs b + 1) k true a b (by omega) (by omega) ha hb
  obtain ⟨j, l1, l2, l3, z, e3, h1, h2, h3, hj, hz, g1, g2, g3⟩ := F30_3_ok k s sd0 a2 b2 ([], (s.2.2.2.2.1, ())) hn hs ha2 hb2 n k 0 0 [] [] [] (List.replicate n 0) (Nat.zero_add _) (by omega) rfl rfl rfl (Nat.le_refl _) ⟨by simp, fun x hx => by omega, fun x y _ hy => by omega⟩ (fun x hx => by cases hx) (fun x hx => by cases hx) (fun x hx => by cases hx)
  rw [show ((0 : Nat) : Int) = 0 from rfl] at e3
  obtain ⟨o, e4, h4, h5⟩ := F30_4_ok k s sd0 z l1 l2 l3 (s.2.2.2.2.1, ()) hn hs hz s.2.2.2.1.length k 0 [] (Nat.zero_add _) (by omega) (Nat.le_refl _) List.Pairwise.nil (fun x hx => by cases hx) (fun x hx => by cases hx)
  rw [show ((0 : Nat) : Int) = 0 from rfl] at e4
  refine ⟨j, (l1, (l2, (l3, (o, (s.2.2.2.2.1, ()))))), ?_, hj, ⟨h1, h2, h3, g2, g3, hs.cn, h4, h5, g1⟩⟩
  have q1 : ((0 : Int) ≤ (n : Int) ∧ (n : Int) < (n : Int) + 1) ∧ (n : Int) ≤ 9223372036854775807 ∧ ((1 : Nat) : Int) * (n : Int) ≤ 281474976710656 := by omega
  have q2 : ((0 : Int) ≤ (n : Int) ∧ (n : Int) < (n : Int) + 1) ∧ (n : Int) ≤ 9223372036854775807 ∧ ((8 : Nat) : Int) * (n : Int) ≤ 281474976710656 := by omega
  unfold F30
  simp only
  rw [hls, if_pos q1, if_pos q1, if_pos q1, show Int.toNat ((n : Nat) : Int) = n from rfl, e1, Option.bind_some]
  simp only
  rw [e2, Option.bind_some]
  simp only
  rw [if_pos q2, show Int.toNat ((n : Nat) : Int) = n from rfl, e3, Option.bind_some]
  simp only
  rw [e4, Option.bind_some]
/-- A pattern's side: none, or one of at most 120 positions. -/
theorem F13_ok (k : Nat) (r : RawT) (ds : List Int) (hr : RawH 5 r) (hk : 20000000 ≤ k) : ∃ (s : SideT) (b : Bool), F13 k r ds = some ((s, (b, ())), ()) ∧ (b = true → ∃ n M, n ≤ 120 ∧ SideG n (cB 5) M s) := by
  obtain ⟨ds', e1, h1, h2, h3⟩ := F21_ok k ds (by omega)
  obtain ⟨x, e2, hx⟩ := F27_ok k r false 5 hr (by omega)
  have e2' : F27 k (Tree.mk ((Tree.a r).1, ((Tree.a r).2.1, ())) (Tree.l r)) false = some ((x, ()), ()) := by
    rw [← e2]
    cases r
    rfl
  have e3 := F22_ok k x (ds', (([] : List RuleT), ())) (show ds'.length ≤ 1000 by omega) hx hk
  obtain ⟨sets, e4, h4, h5⟩ := F28_ok k (ds', (([] : List RuleT), ())) (show ds'.length ≤ 1000 by omega) h3 hk
  have h4' : sets.length = ds'.length := h4
  obtain ⟨bs, cs, e5, h6, h7, h8⟩ := F29_ok k sets (by omega) (by omega) h5
  obtain ⟨M, e6, h9, h10⟩ := F31_ok k sets bs cs (by omega) (by omega) h5 h6 (by omega) h8
  unfold F13
  rw [e1, Option.bind_some]
  simp only
  rw [e2', Option.bind_some]
  simp only
  rw [e3, Option.bind_some]
  by_cases hsz : sizeR 5 x > 120
  · rw [if_pos hsz]
    exact ⟨_, false, rfl, fun q => by cases q⟩
  · rw [if_neg hsz]
    have hG := side_G (fnd ds') ds'.length (fnd_range ds') 5 x (by omega) hx
    obtain ⟨j, s', e7, hj, hs'⟩ := F30_ok k _ M (by omega) (by omega) hG (by omega) h10
    have e7' : F30 k (sideS (fnd (ds', (([] : List RuleT), ())).1) 5 x) M = some ((s', ()), ()) := e7
    refine ⟨s', true, ?_, fun _ => ⟨j, ds'.length, by omega, hs'⟩⟩
    simp only [Bool.not_true, cond_false]
    rw [e4, Option.bind_some]
    simp only
    rw [e5, Option.bind_some]
    simp only
    rw [e6, Option.bind_some]
    simp only
    rw [e7', Option.bind_some]
end Go.Proofs.YtgojfdimbciaiaaE
/- Plain laws of sides: what the laws of rounds ask of a pattern's side; Check of any positions. Conditions: none. -/
set_option linter.unusedSimpArgs false
set_option linter.unusedVariables false
set_option maxRecDepth 20000
namespace Go.Proofs.YtgojfdimbciaiaaE
/-- What the laws of rounds ask. -/
structure SideR (n : Nat) (s : SideT) : Prop where
  le : n ≤ 120
  len : s.1.length = n
  fst : s.2.1.length = n
  arcs : ArcsP n s.2.2.2.1
  uniq : UniqP s.2.2.2.1
  wgt : WgtP s.2.2.2.1
  num : s.2.2.2.1.length ≤ 20000
theorem SideG.r {n M : Nat} {s : SideT} (hn : n ≤ 120) (h : SideG n (cB 5) M s) : SideR n s := by
  have hc : cB 5 = 2046 := rfl
  have hlen := srt_len h.srt h.arcs
  have hnn : n * n ≤ 120 * 120 := Nat.mul_le_mul hn hn
  refine ⟨hn, h.ls, h.lf, fun a ha => ?_, fun a ha b hb e1 e2 => ?_, fun a ha => ?_, by omega⟩
  · have := h.arcs a ha
    omega
  · obtain ⟨i, hi, rfl⟩ := List.getElem_of_mem ha
    obtain ⟨j, hj, rfl⟩ := List.getElem_of_mem hb
    have hs := List.pairwise_iff_getElem.1 h.srt
    by_cases hij : i < j
    · have := hs i j hi hj hij
      unfold Lt at this
      omega
    · by_cases hji : j < i
      · have := hs j i hj hi hji
        unfold Lt at this
        omega
      · have : i = j := by omega
        subst this
        rfl
  · have := h.arcs a ha
    omega
theorem F13_R (k : Nat) (r : RawT) (ds : List Int) (hr : RawH 5 r) (hk : 20000000 ≤ k) : ∃ (s : SideT) (b : Bool), F13 k r ds = some ((s, (b, ())), ()) ∧ (b = true → ∃ n, SideR n s) := by
  obtain ⟨s, b, e, h⟩ := F13_ok k r ds hr hk
  refine ⟨s, b, e, fun hb => ?_⟩
  obtain ⟨n, M, hn, hs⟩ := h hb
  exact ⟨n, hs.r hn⟩
/-- What positions cost, one behind the other and back; none if there is no arc. -/
def csF (l : List ArcT) (p : List Int) : Nat → Nat → Int → Option Int
  | 0, _, t => some t
  | d + 1, i, t => (cst l (List.getD p i 0) (List.getD p ((i + 1) % p.length) 0)).bind fun w => csF l p d (i + 1) (t + w)
theorem cst_wgt {l : List ArcT} (h : WgtP l) {u v w : Int} (e : cst l u v = some w) : 0 ≤ w ∧ w ≤ 20000 := by
  unfold cst at e
  obtain ⟨a, h1, h2⟩ := Option.map_eq_some_iff.1 e
  rw [← h2]
  exact h a (List.mem_of_find?_eq_some h1)
theorem tmod_succ {i n : Nat} (h : i < n) : Int.tmod ((i + 1 : Nat) : Int) ((n : Nat) : Int) = (((i + 1) % n : Nat) : Int) := by
  rw [Int.tmod_eq_emod_of_nonneg (by omega)]
  first | exact (Int.natCast_emod (i + 1) n).symm | exact (Int.ofNat_emod (i + 1) n).symm | rfl
theorem F16_any (k : Nat) (s : SideT) (p : List Int) (hs : s.2.2.2.1.length ≤ 20000) (hw : WgtP s.2.2.2.1) (hk : 10000000 ≤ k) (hp : p.length ≤ 20000) : ∀ (d m i : Nat) (t : Int), i + d = p.length → d < m → 0 ≤ t → t ≤ 20000 * (i : Int) →
    F16_0 k m p t (i : Int) s = some (match csF s.2.2.2.1 p d i t with | none => .inr ((0, false, ()), ()) | some r => .inl ((p, r, ()), ()))
  | 0, m, i, t, hi, hm, h0, h1 => by
    obtain ⟨m, rfl⟩ : ∃ m', m = m' + 1 := ⟨m - 1, by omega⟩
    obtain rfl : i = p.length := by omega
    simp only [F16_0, csF]
    rw [dnlt, cond_false]
  | d + 1, m, i, t, hi, hm, h0, h1 => by
    obtain ⟨m, rfl⟩ : ∃ m', m = m' + 1 := ⟨m - 1, by omega⟩
    have hlt : i < p.length := by omega
    have hml := Nat.mod_lt (i + 1) (show 0 < p.length by omega)
    have e36 := F36_ok k s (List.getD p i 0) (List.getD p ((i + 1) % p.length) 0) hs hk
    simp only [F16_0, csF]
    rw [dlt hlt, cond_true, if_pos (inR hlt), if_pos (by omega), wsucc i _ hlt (by omega), tmod_succ hlt, if_pos (inR hml), show Int.toNat (i : Int) = i from rfl, show Int.toNat (((i + 1) % p.length : Nat) : Int) = (i + 1) % p.length from rfl, e36, Option.bind_some]
    cases e : cst s.2.2.2.1 (List.getD p i 0) (List.getD p ((i + 1) % p.length) 0) with
    | none => rfl
    | some w =>
      have h2 := cst_wgt hw e
      have ih := F16_any k s p hs hw hk hp d m (i + 1) (t + w) (by omega) (by omega) (by omega) (by omega)
      simp only
      rw [Bool.not_true, cond_false, F37_eq k _ _ (by omega) (by omega), Option.bind_some, Option.bind_some]
      simp only
      rw [ih, Option.bind_some]
theorem F17_0_no (k : Nat) (s : SideT) (t1 t12 : List Int) (t6 t13 t14 u v : Int) (hs : s.2.2.2.1.length ≤ 100000) : ∀ (d m i : Nat), i + d = s.2.2.2.1.length → d < m → cst (s.2.2.2.1.drop i) u v = none →
    F17_0 k m t1 t6 u v t12 t13 t14 s.2.2.2.1 ((s.2.2.2.1.length : Nat) : Int) (i : Int) s = some (.inr ((), ()))
  | 0, m, i, hi, hm, h => by
    obtain ⟨m, rfl⟩ : ∃ m', m = m' + 1 := ⟨m - 1, by omega⟩
    simp only [F17_0]
    rw [decide_eq_false (by omega), cond_false]
  | d + 1, m, i, hi, hm, h => by
    obtain ⟨m, rfl⟩ : ∃ m', m = m' + 1 := ⟨m - 1, by omega⟩
    have hlt : i < s.2.2.2.1.length := by omega
    rw [List.drop_eq_getElem_cons hlt] at h
    unfold cst at h
    rw [List.find?_cons] at h
    simp only [F17_0]
    rw [dlt hlt, cond_true, if_pos (inR hlt), show Int.toNat (i : Int) = i from rfl, getD_lt _ _ _ hlt, wsucc i _ hlt (by omega)]
    cases h1 : (s.2.2.2.1[i].1 == u)
    · rw [h1, Bool.false_and] at h
      rw [cond_false, Option.bind_fun_some]
      exact F17_0_no k s t1 t12 t6 t13 t14 u v hs d m (i + 1) (by omega) (by omega) h
    · rw [h1, Bool.true_and] at h
      rw [cond_true]
      cases h2 : (s.2.2.2.1[i].2.1 == v)
      · rw [h2] at h
        rw [cond_false, Option.bind_fun_some]
        exact F17_0_no k s t1 t12 t6 t13 t14 u v hs d m (i + 1) (by omega) (by omega) h
      · rw [h2] at h
        cases h
theorem F17_any (k : Nat) (s : SideT) (p : List Int) (hs : s.2.2.2.1.length ≤ 20000) (hw : WgtP s.2.2.2.1) (hk : 10000000 ≤ k) (hp : p.length ≤ 20000) : ∀ (d m i : Nat) (t : Int), i + d = p.length → d < m → 0 ≤ t → t ≤ 20000 * (i : Int) →
    F17_1 k m p t p ((p.length : Nat) : Int) (i : Int) s = some (match csF s.2.2.2.1 p d i t with | none => .inr ((0, false, ()), ()) | some r => .inl ((p, r, ()), ()))
  | 0, m, i, t, hi, hm, h0, h1 => by
    obtain ⟨m, rfl⟩ : ∃ m', m = m' + 1 := ⟨m - 1, by omega⟩
    obtain rfl : i = p.length := by omega
    simp only [F17_1, csF]
    rw [dnlt, cond_false]
  | d + 1, m, i, t, hi, hm, h0, h1 => by
    obtain ⟨m, rfl⟩ : ∃ m', m = m' + 1 := ⟨m - 1, by omega⟩
    have hlt : i < p.length := by omega
    have hml := Nat.mod_lt (i + 1) (show 0 < p.length by omega)
    simp only [F17_1, csF]
    rw [dlt hlt, cond_true, if_pos (inR hlt), if_pos (by omega), wsucc i _ hlt (by omega), tmod_succ hlt, if_pos (inR hml), show Int.toNat (i : Int) = i from rfl, show Int.toNat (((i + 1) % p.length : Nat) : Int) = (i + 1) % p.length from rfl]
    cases e : cst s.2.2.2.1 (List.getD p i 0) (List.getD p ((i + 1) % p.length) 0) with
    | none =>
      have e17 := F17_0_no k s p p t ((p.length : Nat) : Int) (i : Int) (List.getD p i 0) (List.getD p ((i + 1) % p.length) 0) (by omega) s.2.2.2.1.length k 0 (by omega) (by omega) (by rw [List.drop_zero]; exact e)
      rw [show ((0 : Nat) : Int) = 0 from rfl] at e17
      rw [e17]
      rfl
    | some w =>
      have h2 := cst_wgt hw e
      have ih := F17_any k s p hs hw hk hp d m (i + 1) (t + w) (by omega) (by omega) (by omega) (by omega)
      obtain ⟨z, x, e17⟩ := F17_0_ok k s p p t ((p.length : Nat) : Int) (i : Int) (List.getD p i 0) (List.getD p ((i + 1) % p.length) 0) w (by omega) (by omega) h2 s.2.2.2.1.length k 0 (by omega) (by omega) (by rw [List.drop_zero]; exact e)
      rw [show ((0 : Nat) : Int) = 0 from rfl] at e17
      rw [e17, Option.bind_some, Option.bind_some]
      simp only
      rw [wsucc i _ hlt (by omega), ih, Option.bind_some]
theorem F17_F16 (k : Nat) (s : SideT) (p : List Int) (hs : s.2.2.2.1.length ≤ 20000) (hw : WgtP s.2.2.2.1) (hk : 10000000 ≤ k) (hp : p.length ≤ 20000) : ∃ c b, F17 k s p = some ((c, b, ()), ()) ∧ F16 k s p = some ((c, b, ()), ()) := by
  have h1 := F16_any k s p hs hw hk hp p.length k 0 0 (by omega) (by omega) (by omega) (by omega)
  have h2 := F17_any k s p hs hw hk hp p.length k 0 0 (by omega) (by omega) (by omega) (by omega)
  rw [show ((0 : Nat) : Int) = 0 from rfl] at h1 h2
  unfold F16 F17
  rw [h1, h2, Option.bind_some]
  cases csF s.2.2.2.1 p p.length 0 0 with
  | none => exact ⟨_, _, rfl, rfl⟩
  | some r => exact ⟨_, _, rfl, rfl⟩
end Go.Proofs.YtgojfdimbciaiaaE
