/- Plain laws. Conditions: none. -/
import Derived.Test.YtibammoednhnoaaP0
set_option linter.unusedSimpArgs false
set_option linter.unusedVariables false
set_option maxRecDepth 20000
namespace Go.Proofs.YtibammoednhnoaaE
theorem drop_eq_step {α : Type} {l m : List α} {i : Nat} (hi : i < l.length) (hm : i < m.length) (h : l[i] = m[i]) : l.drop i = m.drop i ↔ l.drop (i + 1) = m.drop (i + 1) := by
 rw [List.drop_eq_getElem_cons hi, List.drop_eq_getElem_cons hm, h]
 constructor
 ·intro e; injection e
 ·intro e; rw [e]
theorem F25_0_ok (k : Nat) (a b : List Bool) (hl : a.length = b.length) (hn : a.length ≤ 1000000000) : ∀ (d m i : Nat), i + d = a.length → d < m → F25_0 k m a b (i : Int) = if a.drop i = b.drop i then some (.inl ((), ())) else some (.inr ((false, ()), ()))
 | 0, m, i, hi, hm => by
  obtain ⟨m, rfl⟩ := pos1 (m := m) (by omega)
  rw [if_pos (by rw [List.drop_eq_nil_of_le (by omega), List.drop_eq_nil_of_le (by omega)])]
  simp only [F25_0]
  rw [decide_eq_false (by omega), cond_false]
 | d + 1, m, i, hi, hm => by
  obtain ⟨m, rfl⟩ := pos1 (m := m) (by omega)
  have hlt : i < a.length := by omega
  have hlt2 : i < b.length := by omega
  have ih := F25_0_ok k a b hl hn d m (i + 1) (by omega) (by omega)
  simp only [F25_0]
  rw [dlt hlt, cond_true, if_pos (inR hlt), if_pos (inR hlt2), tnI i, getD_lt _ _ _ hlt, getD_lt _ _ _ hlt2, wsucc i _ hlt (by omega)]
  by_cases h : a[i] = b[i]
  ·rw [show (!(a[i] == b[i])) = false by simpa using h, cond_false, ih]
   by_cases h2 : a.drop (i + 1) = b.drop (i + 1)
   ·rw [if_pos h2, if_pos ((drop_eq_step hlt hlt2 h).2 h2)]
    rfl
   ·rw [if_neg h2, if_neg fun e => h2 ((drop_eq_step hlt hlt2 h).1 e)]
    rfl
  ·rw [show (!(a[i] == b[i])) = true by simpa using h, cond_true, if_neg fun e => h ?_]
   rw [List.drop_eq_getElem_cons hlt, List.drop_eq_getElem_cons hlt2] at e
   injection e
theorem F25_ok (k : Nat) (a b : List Bool) (hk : 10000000 ≤ k) (hn : a.length ≤ 5000000) : F25 k a b = some ((decide (a = b), ()), ()) := by
 unfold F25
 by_cases hl : a.length = b.length
 ·have e := F25_0_ok k a b hl (by omega) a.length k 0 (Nat.zero_add _) (by omega)
  rw [show ((0 : Nat) : Int) = 0 from rfl, List.drop_zero, List.drop_zero] at e
  rw [show ((((List.length a : Nat) : Int) != ((List.length b : Nat) : Int))) = false by rw [hl]; simp, cond_false, e]
  by_cases h : a = b
  ·rw [if_pos h, decide_eq_true h]; rfl
  ·rw [if_neg h, decide_eq_false h]; rfl
 ·rw [show ((((List.length a : Nat) : Int) != ((List.length b : Nat) : Int))) = true from bne_iff_ne.2 (by omega), cond_true, decide_eq_false fun e => hl (by rw [e])]
theorem F44_0_ok (k : Nat) (a b : Live) (hk : 10000000 ≤ k) (hl : a.length = b.length) (hn : a.length ≤ 1000000) (hr : ∀ r ∈ a, r.length ≤ 5000000) : ∀ (d m i : Nat), i + d = a.length → d < m → F44_0 k m a b (i : Int) = if a.drop i = b.drop i then some (.inl ((), ())) else some (.inr ((false, ()), ()))
 | 0, m, i, hi, hm => by
  obtain ⟨m, rfl⟩ := pos1 (m := m) (by omega)
  rw [if_pos (by rw [List.drop_eq_nil_of_le (by omega), List.drop_eq_nil_of_le (by omega)])]
  simp only [F44_0]
  rw [decide_eq_false (by omega), cond_false]
 | d + 1, m, i, hi, hm => by
  obtain ⟨m, rfl⟩ := pos1 (m := m) (by omega)
  have hlt : i < a.length := by omega
  have hlt2 : i < b.length := by omega
  have ih := F44_0_ok k a b hk hl hn hr d m (i + 1) (by omega) (by omega)
  simp only [F44_0]
  rw [dlt hlt, cond_true, if_pos (inR hlt), if_pos (inR hlt2), tnI i, getD_lt _ _ _ hlt, getD_lt _ _ _ hlt2, F25_ok k _ _ hk (hr _ (List.getElem_mem hlt)), Option.bind_some, wsucc i _ hlt (by omega)]
  simp only
  by_cases h : a[i] = b[i]
  ·rw [decide_eq_true h, Bool.not_true, cond_false, ih]
   by_cases h2 : a.drop (i + 1) = b.drop (i + 1)
   ·rw [if_pos h2, if_pos ((drop_eq_step hlt hlt2 h).2 h2)]
    rfl
   ·rw [if_neg h2, if_neg fun e => h2 ((drop_eq_step hlt hlt2 h).1 e)]
    rfl
  ·rw [decide_eq_false h, Bool.not_false, cond_true, if_neg fun e => h ?_]
   rw [List.drop_eq_getElem_cons hlt, List.drop_eq_getElem_cons hlt2] at e
   injection e
theorem shp_row {ss : List SideT} {L : Live} (h : Shp ss L) (hs : ∀ s ∈ ss, s.1.length ≤ 100000) : ∀ r ∈ L, r.length ≤ 5000000 := fun r hr => by
 have : r.length ∈ L.map List.length := List.mem_map.2 ⟨r, hr, rfl⟩
 rw [h] at this
 obtain ⟨s, hs', e⟩ := List.mem_map.1 this
 have := hs s hs'
 omega
theorem shp_len {ss : List SideT} {L : Live} (h : Shp ss L) : L.length = ss.length := by have := congrArg List.length h; simpa using this
theorem F44_ok (k : Nat) (ss : List SideT) (a b : Live) (hk : 10000000 ≤ k) (hs : ∀ s ∈ ss, SOK s) (hn : ss.length ≤ 1000000) (ha : Shp ss a) (hb : Shp ss b) : F44 k a b = some ((decide (a = b), ()), ()) := by
 have la := shp_len ha
 have lb := shp_len hb
 have e := F44_0_ok k a b hk (by omega) (by omega) (shp_row ha fun s h => (hs s h).ln) a.length k 0 (Nat.zero_add _) (by omega)
 rw [show ((0 : Nat) : Int) = 0 from rfl, List.drop_zero, List.drop_zero] at e
 unfold F44
 rw [e]
 by_cases h : a = b
 ·rw [if_pos h, decide_eq_true h]; rfl
 ·rw [if_neg h, decide_eq_false h]; rfl
theorem ix_first {α : Type} [DecidableEq α] {l : List α} {x : α} {i : Nat} (hi : i < l.length) (h : l[i] = x) (hn : x ∉ l.take i) : ix l x = i := by
 have e : l = l.take i ++ (x :: l.drop (i + 1)) := by rw [← h, ← List.drop_eq_getElem_cons hi, List.take_append_drop]
 unfold ix
 rw [e, List.idxOf_append, if_neg hn, List.idxOf_cons]
 simp
 omega
theorem take_notin {α : Type} {l : List α} {x : α} {i : Nat} (hi : i < l.length) (h : l[i] ≠ x) (hn : x ∉ l.take i) : x ∉ l.take (i + 1) := by
 rw [List.take_succ_eq_append_getElem hi]
 intro hm
 rcases List.mem_append.1 hm with q | q
 ·exact hn q
 ·exact h (List.mem_singleton.1 q).symm
section
variable (k : Nat) (ss : List SideT) (I : InT) (N : Nat) (t2 t3 : Int)
theorem F17_1_ok (hk : 10000000 ≤ k) (hs : ∀ s ∈ ss, SOK s) (hn : ss.length ≤ 1000000) (t16 t18 t53 : Int) (t54 : Bool) (c8 c14 : BackT) (x : Live) (hx : Shp ss x) (l : List Live) (hl : ∀ y ∈ l, Shp ss y) (hll : l.length ≤ 6000000) (se : List (List Bool)) (r : List Int) : ∀ (d m i : Nat), i + d = l.length → d < m → x ∉ l.take i →
  F17_1 k m ss I t2 t3 t16 t18 (i : Int) t53 t54 c8 c14 x l se r = some ((ss, I, t2, t3, t16, t18, ((ix l x : Nat) : Int), t53, t54, ()), (c8, c14, x, l, se, r, ()))
 | 0, m, i, hi, hm, hnot => by
  obtain ⟨m, rfl⟩ := pos1 (m := m) (by omega)
  rw [List.take_of_length_le (by omega)] at hnot
  have := ix_no hnot
  have hil : i = l.length := by omega
  simp only [F17_1]
  rw [decide_eq_false (by omega), cond_false, this, hil]
 | d + 1, m, i, hi, hm, hnot => by
  obtain ⟨m, rfl⟩ := pos1 (m := m) (by omega)
  have hlt : i < l.length := by omega
  simp only [F17_1]
  rw [dlt hlt, cond_true, if_pos (inR hlt), tnI i, getD_lt _ _ _ hlt, F44_ok k ss _ _ hk hs hn (hl _ (List.getElem_mem hlt)) hx, Option.bind_some]
  simp only
  by_cases h : l[i] = x
  ·rw [decide_eq_true h, Bool.not_true, cond_false, ix_first hlt h hnot]
  ·rw [decide_eq_false h, Bool.not_false, cond_true, wsucc i _ hlt (by omega), F17_1_ok hk hs hn t16 t18 t53 t54 c8 c14 x hx l hl hll se r d m (i + 1) (by omega) (by omega) (take_notin hlt h hnot)]
   rfl
theorem F17_3_ok (hk : 10000000 ≤ k) (t16 t53 : Int) (t54 : Bool) (c8 c14 : BackT) (x : List Bool) (l : List Live) (se : List (List Bool)) (hse : ∀ y ∈ se, y.length ≤ 5000000) (hll : se.length ≤ 6000000) (r : List Int) : ∀ (d m i : Nat), i + d = se.length → d < m → x ∉ se.take i →
  F17_3 k m ss I t2 t3 t16 (i : Int) t53 t54 c8 c14 x l se r = some ((ss, I, t2, t3, t16, ((ix se x : Nat) : Int), t53, t54, ()), (c8, c14, x, l, se, r, ()))
 | 0, m, i, hi, hm, hnot => by
  obtain ⟨m, rfl⟩ := pos1 (m := m) (by omega)
  rw [List.take_of_length_le (by omega)] at hnot
  have := ix_no hnot
  have hil : i = se.length := by omega
  simp only [F17_3]
  rw [decide_eq_false (by omega), cond_false, this, hil]
 | d + 1, m, i, hi, hm, hnot => by
  obtain ⟨m, rfl⟩ := pos1 (m := m) (by omega)
  have hlt : i < se.length := by omega
  simp only [F17_3]
  rw [dlt hlt, cond_true, if_pos (inR hlt), tnI i, getD_lt _ _ _ hlt, F25_ok k _ _ hk (hse _ (List.getElem_mem hlt)), Option.bind_some]
  simp only
  by_cases h : se[i] = x
  ·rw [decide_eq_true h, Bool.not_true, cond_false, ix_first hlt h hnot]
  ·rw [decide_eq_false h, Bool.not_false, cond_true, wsucc i _ hlt (by omega), F17_3_ok hk t16 t53 t54 c8 c14 x l se hse hll r d m (i + 1) (by omega) (by omega) (take_notin hlt h hnot)]
   rfl
theorem F17_2_ok (hk : 10000000 ≤ k) (hs : ∀ s ∈ ss, SOK s) (hI : ∀ s ∈ ss, InOK I N s) (hn : ss.length ≤ 1000000) (hN : N ≤ 5000000) (ht2 : t2 ≤ (N : Int)) (ht2' : (N : Int) ≤ t2 ∨ N = 0) (j : Nat) (s : Live) (t53 : Int) (t54 : Bool) (c8 c14 : BackT) (se : List (List Bool)) : ∀ (d m i : Nat) (l : List Live) (r : List Int), i + d = N → d < m → (∀ y ∈ l, Shp ss y) → j < l.length → List.getD l j [] = s → l.length ≤ 100000 + i → r.length = i →
  F17_2 k m ss I t2 t3 (j : Int) (i : Int) t53 t54 c8 c14 l se r = some ((ss, I, t2, t3, (j : Int), t53, t54, ()), (c8, c14, (rowA (stepL I ss) s (List.range' i d) l).1, se, r ++ (rowA (stepL I ss) s (List.range' i d) l).2, ()))
 | 0, m, i, l, r, hi, hm, hl, hj, hsj, hll, hr => by
  obtain ⟨m, rfl⟩ := pos1 (m := m) (by omega)
  simp only [List.range'_zero, rowA, F17_2]
  rw [decide_eq_false (by omega), cond_false, List.append_nil]
 | d + 1, m, i, l, r, hi, hm, hl, hj, hsj, hll, hr => by
  obtain ⟨m, rfl⟩ := pos1 (m := m) (by omega)
  have hlt : i < N := by omega
  have hsS : Shp ss s := by
   rw [← hsj, getD_lt _ _ _ hj]
   exact hl _ (List.getElem_mem hj)
  have hxS : Shp ss (stepL I ss s i) := stepL_shp hsS
  have hle := put1_le l (stepL I ss s i)
  obtain ⟨tl, htl⟩ := put1_pre l (stepL I ss s i)
  have e1 := F17_1_ok k ss I t2 t3 hk hs hn (j : Int) (i : Int) t53 t54 c8 c14 (stepL I ss s i) hxS l hl (by omega) se r l.length k 0 (Nat.zero_add _) (by omega) (by simp)
  rw [show ((0 : Nat) : Int) = 0 from rfl] at e1
  have ih := F17_2_ok hk hs hI hn hN ht2 ht2' j s t53 t54 c8 c14 se d m (i + 1) (put1 l (stepL I ss s i)) (r ++ [((ix l (stepL I ss s i) : Nat) : Int)]) (by omega) (by omega) (put1_shp hl hxS) (by omega) (by rw [getD_pre htl hj]; exact hsj) (by omega) (by simp [hr])
  have hap2 : (List.length l + List.length [stepL I ss s i]) * (24 * 2) ≤ 281474976710656 ∧ List.length l + List.length [stepL I ss s i] ≤ 9223372036854775807 := by rw [List.length_singleton]; omega
  have hap : (List.length r + List.length [((ix l (stepL I ss s i) : Nat) : Int)]) * (8 * 2) ≤ 281474976710656 ∧ List.length r + List.length [((ix l (stepL I ss s i) : Nat) : Int)] ≤ 9223372036854775807 := by rw [List.length_singleton]; omega
  rw [List.range'_succ, rowA_1, rowA_2]
  simp only [F17_2]
  rw [decide_eq_true (show (i : Int) < t2 by omega), cond_true, if_pos (inR hj), tnI j, hsj, F43_ok k I N ss i s hk hs hI hlt hsS hn, Option.bind_some]
  simp only
  rw [e1, Option.bind_some]
  simp only
  rw [show List.set (List.replicate 1 (0 : Int)) 0 ((ix l (stepL I ss s i) : Nat) : Int) = [((ix l (stepL I ss s i) : Nat) : Int)] from rfl, wsucc i _ hlt (by omega)]
  by_cases hx : stepL I ss s i ∈ l
  ·have h1 := ix_lt hx
   rw [put1_in hx] at ih ⊢
   rw [show ((((ix l (stepL I ss s i) : Nat) : Int) == ((List.length l : Nat) : Int))) = false from beq_false_of_ne (by omega), cond_false, if_pos hap, ih, List.append_assoc]
   rfl
  ·have h1 := ix_no hx
   rw [put1_no hx] at ih ⊢
   rw [show ((((ix l (stepL I ss s i) : Nat) : Int) == ((List.length l : Nat) : Int))) = true from by rw [h1]; simp, cond_true, if_pos hap2, if_pos hap, ih, List.append_assoc]
   rfl
theorem F17_4_ok (hk : 10000000 ≤ k) (hs : ∀ s ∈ ss, SOK s) (hI : ∀ s ∈ ss, InOK I N s) (hn : ss.length ≤ 1000000) (hN : N ≤ 5000000) (ht2 : t2 ≤ (N : Int)) (ht2' : (N : Int) ≤ t2 ∨ N = 0) (c8 : BackT) (B : Int) (hB : B = minI t3 100000) : ∀ (f m i : Nat) (l : List Live) (nx : List (List Int)) (ou : List Int) (se : List (List Bool)), B.toNat + 2 ≤ i + f → B.toNat + 2 ≤ i + m → i ≤ B.toNat → i ≤ l.length → (∀ y ∈ l, Shp ss y) → nx.length = i → ou.length = i → se.length ≤ i → (∀ y ∈ se, y.length ≤ 5000000) →
  F17_4 k m ss I t2 t3 (i : Int) c8 (nx, (ou, ())) l se = match mkA (stepL I ss) (holdL ss) [] B N f i l nx ou se with
   | none => some (.inr none4)
   | some q => some (.inl ((), (c8, (q.2.1, (q.2.2.1, ())), q.2.2.2, ())))
 | 0, m, i, l, nx, ou, se, hf, hm, hi, hil, hl, hnx, hou, hse, hsel => by omega
 | f + 1, m, i, l, nx, ou, se, hf, hm, hi, hil, hl, hnx, hou, hse, hsel => by
  obtain ⟨m, rfl⟩ := pos1 (m := m) (by omega)
  have hB2 : B ≤ 100000 ∧ B ≤ t3 ∧ (B = t3 ∨ B = 100000) := by rw [hB]; unfold minI; split <;> omega
  simp only [F17_4, mkA]
  by_cases hlt : i < l.length
  ·rw [if_pos hlt, dlt hlt, cond_true]
   by_cases h1 : ((l.length : Nat) : Int) > t3
   ·rw [decide_eq_true h1, cond_true, if_pos (by omega)]
   ·rw [decide_eq_false h1, cond_false]
    by_cases h2 : ((l.length : Nat) : Int) > 100000
    ·rw [decide_eq_true h2, cond_true, if_pos (by omega)]
    ·rw [decide_eq_false h2, cond_false, if_neg (by omega)]
     have hsi : Shp ss (l.getD i []) := by rw [getD_lt _ _ _ hlt]; exact hl _ (List.getElem_mem hlt)
     have e1 := F17_2_ok k ss I N t2 t3 hk hs hI hn hN ht2 ht2' i (l.getD i []) ((l.length : Nat) : Int) false c8 (nx, (ou, ())) se N k 0 l [] (Nat.zero_add _) (by omega) hl hlt rfl (by omega) rfl
     rw [← List.range_eq_range', List.nil_append, show ((0 : Nat) : Int) = 0 from rfl] at e1
     have hstp := fun y hy => rowA_shp (ss := ss) (I := I) (s := l.getD i []) hsi (List.range N) l hl y hy
     obtain ⟨tl, htl⟩ := rowA_pre (stepL I ss) (l.getD i []) (List.range N) l
     have hle := rowA_le (stepL I ss) (l.getD i []) (List.range N) l
     have hrw := rowA_row (stepL I ss) (l.getD i []) (List.range N) l
     rw [List.length_range] at hrw hle
     generalize hq : rowA (stepL I ss) (l.getD i []) (List.range N) l = q at *
     obtain ⟨l', r'⟩ := q
     simp only at *
     rw [e1, Option.bind_some]
     simp only
     have hlt' : i < l'.length := by omega
     have hg : List.getD l' i [] = l.getD i [] := getD_pre htl hlt
     have hh := holdL_len hsi
     have e3 := F17_3_ok k ss I t2 t3 hk (i : Int) ((l.length : Nat) : Int) false c8 (nx, (ou, ())) (holdL ss (l.getD i [])) l' se hsel (by omega) r' se.length k 0 (Nat.zero_add _) (by omega) (by simp)
     rw [show ((0 : Nat) : Int) = 0 from rfl] at e3
     rw [if_pos (inR hlt'), tnI i, hg, F45_ok k ss _ hk hs hsi hn, Option.bind_some]
     simp only
     rw [e3, Option.bind_some]
     simp only
     have hput := put1_le se (holdL ss (l.getD i []))
     have hiw : IntKind.wrap .i64 ((i : Int) + 1) = ((i + 1 : Nat) : Int) := wsucc i l.length hlt (by omega)
     have ha1 : (List.length nx + List.length [r']) * (24 * 2) ≤ 281474976710656 ∧ List.length nx + List.length [r'] ≤ 9223372036854775807 := by rw [List.length_singleton]; omega
     have ha2 : (List.length ou + List.length [((ix se (holdL ss (l.getD i [])) : Nat) : Int)]) * (8 * 2) ≤ 281474976710656 ∧ List.length ou + List.length [((ix se (holdL ss (l.getD i [])) : Nat) : Int)] ≤ 9223372036854775807 := by rw [List.length_singleton]; omega
     have ha3 : (List.length se + List.length [holdL ss (l.getD i [])]) * (24 * 2) ≤ 281474976710656 ∧ List.length se + List.length [holdL ss (l.getD i [])] ≤ 9223372036854775807 := by rw [List.length_singleton]; omega
     rw [show List.set (List.replicate 1 (0 : Int)) 0 ((ix se (holdL ss (l.getD i [])) : Nat) : Int) = [((ix se (holdL ss (l.getD i [])) : Nat) : Int)] from rfl, hiw]
     have hsel' : ∀ y ∈ put1 se (holdL ss (l.getD i [])), y.length ≤ 5000000 := by
      unfold put1
      split
      ·exact hsel
      ·exact all_append hsel (by omega)
     -- both ways to go on
     have next : ∀ (se' : List (List Bool)), put1 se (holdL ss (l.getD i [])) = se' → (F17_4 k m ss I t2 t3 ((i + 1 : Nat) : Int) c8 (nx ++ [r'], (ou ++ [((ix se (holdL ss (l.getD i [])) : Nat) : Int)], ())) l' se').bind some = match mkA (stepL I ss) (holdL ss) [] B N f (i + 1) l' (nx ++ [r']) (ou ++ [((ix se (holdL ss (l.getD i [])) : Nat) : Int)]) se' with
       | none => some (.inr none4)
       | some q => some (.inl ((), (c8, (q.2.1, (q.2.2.1, ())), q.2.2.2, ()))) := by
      intro se' hse'
      subst hse'
      rw [F17_4_ok hk hs hI hn hN ht2 ht2' c8 B hB f m (i + 1) l' (nx ++ [r']) (ou ++ [((ix se (holdL ss (l.getD i [])) : Nat) : Int)]) (put1 se (holdL ss (l.getD i []))) (by omega) (by omega) (by omega) (by omega) hstp (by simp [hnx]) (by simp [hou]) (by omega) hsel']
      cases mkA (stepL I ss) (holdL ss) [] B N f (i + 1) l' (nx ++ [r']) (ou ++ [((ix se (holdL ss (l.getD i [])) : Nat) : Int)]) (put1 se (holdL ss (l.getD i []))) <;> rfl
     by_cases hx : holdL ss (l.getD i []) ∈ se
     ·have h1 := ix_lt hx
      rw [show ((((ix se (holdL ss (l.getD i [])) : Nat) : Int) == ((List.length se : Nat) : Int))) = false from beq_false_of_ne (by omega), cond_false, if_pos ha1, if_pos ha2]
      have := next se (put1_in hx)
      rw [put1_in hx]
      exact this
     ·have h1 := ix_no hx
      rw [show ((((ix se (holdL ss (l.getD i [])) : Nat) : Int) == ((List.length se : Nat) : Int))) = true from by rw [h1]; simp, cond_true, if_pos ha3, if_pos ha1, if_pos ha2]
      have := next (se ++ [holdL ss (l.getD i [])]) (put1_no hx)
      rw [put1_no hx]
      exact this
  ·rw [if_neg hlt, decide_eq_false (by omega), cond_false]
end
theorem F17_0_ok (k : Nat) (ss : List SideT) (I : InT) (t2 t3 : Int) (c : BackT) (hs : ∀ s ∈ ss, SOK s) (hn : ss.length ≤ 1000000) : ∀ (d m i : Nat), i + d = ss.length → d < m →
  F17_0 k m ss I t2 t3 (i : Int) c (zeroL (ss.take i)) = some ((ss, I, t2, t3, ()), (c, zeroL ss, ()))
 | 0, m, i, hi, hm => by
  obtain ⟨m, rfl⟩ := pos1 (m := m) (by omega)
  simp only [F17_0]
  rw [decide_eq_false (by omega), cond_false, List.take_of_length_le (by omega)]
 | d + 1, m, i, hi, hm => by
  obtain ⟨m, rfl⟩ := pos1 (m := m) (by omega)
  have hlt : i < ss.length := by omega
  have hln := (hs _ (List.getElem_mem hlt)).ln
  have hz : zeroL (ss.take (i + 1)) = zeroL (ss.take i) ++ [List.replicate ss[i].1.length false] := by
   rw [List.take_succ_eq_append_getElem hlt]
   unfold zeroL
   rw [List.map_append]
   rfl
  have hzl : (zeroL (ss.take i)).length = i := by simp [zeroL]; omega
  have k1 : (0 ≤ ((List.length ss[i].1 : Nat) : Int) ∧ ((List.length ss[i].1 : Nat) : Int) < ((List.length ss[i].1 : Nat) : Int) + 1) ∧ ((List.length ss[i].1 : Nat) : Int) ≤ 9223372036854775807 ∧ ((1 : Nat) : Int) * ((List.length ss[i].1 : Nat) : Int) ≤ 281474976710656 := by omega
  have k2 : (List.length (zeroL (ss.take i)) + List.length [List.replicate ss[i].1.length false]) * (24 * 2) ≤ 281474976710656 ∧ List.length (zeroL (ss.take i)) + List.length [List.replicate ss[i].1.length false] ≤ 9223372036854775807 := by rw [List.length_singleton, hzl]; omega
  simp only [F17_0]
  rw [dlt hlt, cond_true, if_pos (inR hlt), tnI i, getD_lt _ _ _ hlt, if_pos k1, show Int.toNat ((List.length ss[i].1 : Nat) : Int) = ss[i].1.length from rfl, if_pos k2, ← hz, wsucc i _ hlt (by omega), F17_0_ok k ss I t2 t3 c hs hn d m (i + 1) (by omega) (by omega)]
  rfl
theorem F17_ok (k : Nat) (ss : List SideT) (I : InT) (N : Nat) (hk : 10000000 ≤ k) (hs : ∀ s ∈ ss, SOK s) (hI : ∀ s ∈ ss, InOK I N s) (hn : ss.length ≤ 1000000) (hN : N ≤ 5000000) (t2 : Int) (ht2 : maxI t2 0 = (N : Int)) (b : Int) :
  F17 k ss I t2 b = some (outA (mkA (stepL I ss) (holdL ss) [] (minI b 100000) N ((minI b 100000).toNat + 2) 0 [zeroL ss] [] [] []), ()) := by
 have hB : minI b 100000 ≤ 100000 := by unfold minI; split <;> omega
 have h2 : t2 ≤ (N : Int) ∧ ((N : Int) ≤ t2 ∨ N = 0) := by unfold maxI at ht2; split at ht2 <;> omega
 have e0 := F17_0_ok k ss I t2 b (([] : (List (List Int))), (([] : (List Int)), ())) hs hn ss.length k 0 (Nat.zero_add _) (by omega)
 rw [show ((0 : Nat) : Int) = 0 from rfl, List.take_zero, show zeroL [] = [] from rfl] at e0
 have e2 := F17_4_ok k ss I N t2 b hk hs hI hn hN h2.1 h2.2 (([] : (List (List Int))), (([] : (List Int)), ())) (minI b 100000) rfl ((minI b 100000).toNat + 2) k 0 [zeroL ss] [] [] [] (by omega) (by omega) (by omega) (Nat.zero_le _) (fun y hy => by rw [List.mem_singleton.1 hy]; exact zeroL_shp ss) rfl rfl (Nat.le_refl _) (fun y hy => by cases hy)
 rw [show ((0 : Nat) : Int) = 0 from rfl] at e2
 unfold F17
 rw [e0, Option.bind_some]
 simp only
 rw [e2]
 cases mkA (stepL I ss) (holdL ss) [] (minI b 100000) N ((minI b 100000).toNat + 2) 0 [zeroL ss] [] [] [] with
 | none => rfl
 | some q => rfl
end Go.Proofs.YtibammoednhnoaaE
set_option linter.unusedSimpArgs false
set_option linter.unusedVariables false
set_option maxRecDepth 20000
namespace Go.Proofs.YtibammoednhnoaaE
theorem F12_known (k : Nat) (hk : 200 ≤ k) : F12 k = some ((true, ()), ()) := by
 obtain ⟨k, rfl⟩ : ∃ k', k = k' + 200 := ⟨k - 200, by omega⟩
 kernel_rfl
theorem F47_eq (k : Nat) (a n : Int) (h0 : 0 < n) (h1 : n ≤ 4611686018427387904) : F47 k a n = some ((a % n, ()), ()) := F15_eq k a n h0 h1
theorem F21_0_ok (k : Nat) (ts : List Int) (n : Nat) (hn : n ≤ 1000) (hl : ts.length ≤ 100000000000000) : ∀ (d m i : Nat) (acc : List Int), i + d = n → d < m → i ≤ ts.length → acc.length = i → ∃ l, F21_0 k m ts (n : Int) (i : Int) acc = some ((), (l, ())) ∧ l.length ≤ n
 | 0, m, i, acc, hi, hm, hil, ha => by
  obtain ⟨m, rfl⟩ := pos1 (m := m) (by omega)
  refine ⟨acc, ?_, by omega⟩
  simp only [F21_0]
  rw [decide_eq_false (show ¬ (i : Int) < (n : Int) by omega), cond_false]
  cases (decide ((i : Int) < ((List.length ts : Nat) : Int))) <;> rfl
 | d + 1, m, i, acc, hi, hm, hil, ha => by
  obtain ⟨m, rfl⟩ := pos1 (m := m) (by omega)
  simp only [F21_0]
  by_cases hlt : i < ts.length
  ·have hm0 : 0 ≤ (List.getD ts i 0) % 12 := Int.emod_nonneg _ (by decide)
   have hm1 : (List.getD ts i 0) % 12 < 12 := Int.emod_lt_of_pos _ (by decide)
   generalize hx2 : (List.set (List.set (List.set (List.set (List.set (List.set (List.set (List.set (List.set (List.set (List.set (List.set (List.replicate 12 (0 : Int)) 0 (97 : Int)) 1 (97 : Int)) 2 (98 : Int)) 3 (99 : Int)) 4 (49 : Int)) 5 (55 : Int)) 6 (32 : Int)) 7 (120 : Int)) 8 (19969 : Int)) 9 (128512 : Int)) 10 (45 : Int)) 11 (50 : Int)) = x2
   have hx : x2.length = 12 := by rw [← hx2]; rfl
   obtain ⟨l, e, h⟩ := F21_0_ok k ts n hn hl d m (i + 1) (acc ++ [List.getD x2 (Int.toNat (List.getD ts i 0 % 12)) 0]) (by omega) (by omega) (by omega) (by simp [ha])
   refine ⟨l, ?_, h⟩
   rw [dlt hlt, cond_true, decide_eq_true (show (i : Int) < (n : Int) by omega), cond_true, if_pos (inR hlt), tnI i, F47_eq k _ 12 (by decide) (by decide), Option.bind_some]
   simp only
   rw [if_pos ⟨hm0, by rw [hx]; exact hm1⟩]
   have ha1 : ∀ v : Int, (List.length acc + List.length (List.set (List.replicate 1 (0 : Int)) 0 v)) * (8 * 2) ≤ 281474976710656 ∧ List.length acc + List.length (List.set (List.replicate 1 (0 : Int)) 0 v) ≤ 9223372036854775807 := fun v => by simp; omega
   rw [if_pos (ha1 _), wsucc i _ hlt (by omega)]
   rw [show ∀ v : Int, List.set (List.replicate 1 (0 : Int)) 0 v = [v] from fun v => rfl, e]
   rfl
  ·exact ⟨acc, by rw [decide_eq_false (by omega), cond_false], by omega⟩
theorem F21_ok (k : Nat) (ts : List Int) (n : Nat) (hn : n ≤ 1000) (hk : 10000000 ≤ k) (hl : ts.length ≤ 100000000000000) : ∃ l, F21 k ts (n : Int) = some ((l, ()), ()) ∧ l.length ≤ n := by
 obtain ⟨l, e, h⟩ := F21_0_ok k ts n hn hl n k 0 [] (Nat.zero_add _) (by omega) (Nat.zero_le _) rfl
 rw [show ((0 : Nat) : Int) = 0 from rfl] at e
 refine ⟨l, ?_, h⟩
 unfold F21
 rw [e, Option.bind_some]
theorem F46_0_ok (k : Nat) (b c : List Int) (x : Int) (hb : b.length ≤ 5000000) : ∀ (d m i : Nat), i + d + 1 = b.length → d < m → ∃ j : Nat, F46_0 k m b c x (i : Int) = some ((c, ((j : Int), ())), ()) ∧ j < b.length
 | 0, m, i, hi, hm => by
  obtain ⟨m, rfl⟩ := pos1 (m := m) (by omega)
  refine ⟨i, ?_, by omega⟩
  simp only [F46_0]
  rw [wsucc i b.length (by omega) (by omega), decide_eq_false (by omega), cond_false]
 | d + 1, m, i, hi, hm => by
  obtain ⟨m, rfl⟩ := pos1 (m := m) (by omega)
  have hlt : i + 1 < b.length := by omega
  obtain ⟨j, e, h⟩ := F46_0_ok k b c x hb d m (i + 1) (by omega) (by omega)
  simp only [F46_0]
  rw [wsucc i b.length (by omega) (by omega), dlt hlt, cond_true, if_pos (inR hlt)]
  cases (decide (List.getD b (Int.toNat ((i + 1 : Nat) : Int)) 0 ≤ x)) with
  | true => exact ⟨j, by rw [cond_true, e]; rfl, h⟩
  | false => exact ⟨i, by rw [cond_false], by omega⟩
theorem F46_ok (k : Nat) (b c : List Int) (x : Int) (hk : 10000000 ≤ k) (hb : b.length ≤ 5000000) (hbc : b.length = c.length) (hne : c ≠ []) : ∃ v ∈ c, F46 k b c x = some ((v, ()), ()) := by
 have hpos : 0 < c.length := by cases c with
  | nil => exact absurd rfl hne
  | cons y c => simp
 obtain ⟨j, e, h⟩ := F46_0_ok k b c x hb (b.length - 1) k 0 (by omega) (by omega)
 rw [show ((0 : Nat) : Int) = 0 from rfl] at e
 have hj : j < c.length := by omega
 refine ⟨c[j], List.getElem_mem hj, ?_⟩
 unfold F46
 rw [e, Option.bind_some]
 simp only
 rw [if_pos (inR hj), tnI j, getD_lt _ _ _ hj]
abbrev WorT := (FileT × ((List Int) × ((List Int) × ((List (List Bool)) × ((List SideT) × ((List SideT) × (Int × Unit)))))))
theorem F20_0_ok (k : Nat) (t : List Int) (w : WorT) (hk : 10000000 ≤ k) (ht : t.length ≤ 1000000) (hb : w.2.1.length ≤ 5000000) (hbc : w.2.1.length = w.2.2.1.length) (hne : w.2.2.1 ≠ []) : ∀ (d m i : Nat) (acc : List Int), i + d = t.length → d < m → acc.length = i → (∀ x ∈ acc, x ∈ w.2.2.1) → ∃ l, F20_0 k m t (i : Int) w acc = some ((), (l, ())) ∧ l.length = t.length ∧ ∀ x ∈ l, x ∈ w.2.2.1
 | 0, m, i, acc, hi, hm, ha, hx => by
  obtain ⟨m, rfl⟩ := pos1 (m := m) (by omega)
  refine ⟨acc, ?_, by omega, hx⟩
  simp only [F20_0]
  rw [decide_eq_false (by omega), cond_false]
 | d + 1, m, i, acc, hi, hm, ha, hx => by
  obtain ⟨m, rfl⟩ := pos1 (m := m) (by omega)
  have hlt : i < t.length := by omega
  obtain ⟨v, hv, e46⟩ := F46_ok k w.2.1 w.2.2.1 (List.getD t i 0) hk hb hbc hne
  obtain ⟨l, e, h⟩ := F20_0_ok k t w hk ht hb hbc hne d m (i + 1) (acc ++ [v]) (by omega) (by omega) (by simp [ha]) (all_append hx hv)
  refine ⟨l, ?_, h⟩
  simp only [F20_0]
  rw [dlt hlt, cond_true, if_pos (inR hlt), tnI i, e46, Option.bind_some]
  simp only
  rw [show List.set (List.replicate 1 (0 : Int)) 0 v = [v] from rfl, if_pos (by rw [List.length_singleton]; omega), wsucc i _ hlt (by omega), e]
  rfl
theorem F20_ok (k : Nat) (t : List Int) (w : WorT) (hk : 10000000 ≤ k) (ht : t.length ≤ 1000000) (hb : w.2.1.length ≤ 5000000) (hbc : w.2.1.length = w.2.2.1.length) (hne : w.2.2.1 ≠ []) : ∃ l, F20 k w t = some ((l, ()), ()) ∧ l.length = t.length ∧ ∀ x ∈ l, x ∈ w.2.2.1 := by
 obtain ⟨l, e, h⟩ := F20_0_ok k t w hk ht hb hbc hne t.length k 0 [] (Nat.zero_add _) (by omega) rfl (fun x hx => by cases hx)
 rw [show ((0 : Nat) : Int) = 0 from rfl] at e
 refine ⟨l, ?_, h⟩
 unfold F20
 rw [e, Option.bind_some]
theorem F30_1_ne (k : Nat) (t0 : List RgT) (p : List Int) (hk : 10000000 ≤ k) (hn : t0.length ≤ 40) (hs : RgL t0) (hp : p.length ≤ 2000000) : ∀ (d m i : Nat) (t8 : Int) (b c s : List Int), i + d = p.length → d < m → b.length = c.length → c.length ≤ i → s.length ≤ i → LetP s.length c →
  ∃ b' c', F30_1 k m t0 t8 (i : Int) p b c s = some ((), (b', (c', ()))) ∧ c.length ≤ c'.length ∧ (t8 < 0 → 0 < d → 0 < c'.length)
 | 0, m, i, t8, b, c, s, hi, hm, hb, hc, hl, hL => by
  obtain ⟨m, rfl⟩ := pos1 (m := m) (by omega)
  refine ⟨b, c, ?_, Nat.le_refl _, fun _ h => by omega⟩
  simp only [F30_1]
  rw [decide_eq_false (by omega), cond_false]
 | d + 1, m, i, t8, b, c, s, hi, hm, hb, hc, hl, hL => by
  obtain ⟨m, rfl⟩ := pos1 (m := m) (by omega)
  have hlt : i < p.length := by omega
  simp only [F30_1]
  rw [dlt hlt, cond_true, if_pos (inR hlt), tnI i, F54_ok k t0 _ hk hn hs, Option.bind_some]
  simp only
  have hv0 := keyF_range (List.getD p i 0) t0 0 (Int.le_refl _)
  generalize keyF (List.getD p i 0) t0 0 = v at hv0 ⊢
  rw [wsucc i _ hlt (by omega)]
  cases hv : (v == t8) with
  | true =>
   have : v = t8 := by simpa using hv
   obtain ⟨b', c', e, h⟩ := F30_1_ne k t0 p hk hn hs hp d m (i + 1) t8 b c s (by omega) (by omega) hb (by omega) (by omega) hL
   exact ⟨b', c', by rw [cond_true, e]; rfl, h.1, fun h0 => by omega⟩
  | false =>
   obtain ⟨j, e, hj⟩ := F30_0_ok k t0 v (i : Int) v p b c s (by omega) s.length k 0 (Nat.zero_add _) (by omega)
   rw [show ((0 : Nat) : Int) = 0 from rfl] at e
   rw [cond_false, e, Option.bind_some]
   simp only [one_list]
   have k1 : (s.length + [v].length) * (8 * 2) ≤ 281474976710656 ∧ s.length + [v].length ≤ 9223372036854775807 := by rw [List.length_singleton]; omega
   have k2 : (b.length + [List.getD p i 0].length) * (8 * 2) ≤ 281474976710656 ∧ b.length + [List.getD p i 0].length ≤ 9223372036854775807 := by rw [List.length_singleton]; omega
   have k3 : (c.length + [(j : Int)].length) * (8 * 2) ≤ 281474976710656 ∧ c.length + [(j : Int)].length ≤ 9223372036854775807 := by rw [List.length_singleton]; omega
   have hb2 : (b ++ [List.getD p i 0]).length = (c ++ [(j : Int)]).length := by simp [hb]
   have hc2 : (c ++ [(j : Int)]).length ≤ i + 1 := by simp; omega
   have hc3 : (c ++ [(j : Int)]).length = c.length + 1 := by simp
   rw [wsucc i _ hlt (by omega), tnI i]
   by_cases he : j = s.length
   ·subst he
    have hs2 : (s ++ [v]).length = s.length + 1 := by simp
    obtain ⟨b', c', e, h⟩ := F30_1_ne k t0 p hk hn hs hp d m (i + 1) v (b ++ [List.getD p i 0]) (c ++ [((s.length : Nat) : Int)]) (s ++ [v]) (by omega) (by omega) hb2 hc2 (by omega) (by
     rw [hs2]; exact hL.add (by omega) (by omega))
    refine ⟨b', c', ?_, by omega, fun _ _ => by omega⟩
    rw [show (((s.length : Nat) : Int) == ((s.length : Nat) : Int)) = true by simp, cond_true, if_pos k1, if_pos (inR hlt), if_pos k2, if_pos k3, e]
    rfl
   ·obtain ⟨b', c', e, h⟩ := F30_1_ne k t0 p hk hn hs hp d m (i + 1) v (b ++ [List.getD p i 0]) (c ++ [(j : Int)]) s (by omega) (by omega) hb2 hc2 (by omega) (hL.add (by omega) (by omega))
    refine ⟨b', c', ?_, by omega, fun _ _ => by omega⟩
    rw [beq_false_of_ne (show ¬ (j : Int) = ((s.length : Nat) : Int) by omega), cond_false, if_pos (inR hlt), if_pos k2, if_pos k3, e]
    rfl
theorem F30_ne (k : Nat) (t0 : List RgT) (hk : 10000000 ≤ k) (hn : t0.length ≤ 40) (hs : RgL t0) : ∃ b c, F30 k t0 = some ((b, (c, ())), ()) ∧ b.length = c.length ∧ c.length ≤ 2000000 ∧ LetP 2000000 c ∧ c ≠ [] := by
 obtain ⟨b0, c0, e0, h1, h2, h3⟩ := F30_ok k t0 hk hn hs
 refine ⟨b0, c0, e0, h1, h2, h3, fun hc => ?_⟩
 obtain ⟨p, e, hp, h0⟩ := F53_ok k t0 hk (by omega) hs
 have hl := risL_len hp
 have hpos : 0 < p.length := List.length_pos_of_mem h0
 obtain ⟨b, c, e2, _, h⟩ := F30_1_ne k t0 p hk hn hs (by omega) p.length k 0 (-1) [] [] [] (Nat.zero_add _) (by omega) rfl (Nat.le_refl _) (Nat.le_refl _) (fun x hx => by cases hx)
 rw [show ((0 : Nat) : Int) = 0 from rfl] at e2
 have e3 : F30 k t0 = some ((b, (c, ())), ()) := by
  unfold F30
  rw [e, Option.bind_some]
  simp only
  rw [e2, Option.bind_some]
 rw [e0] at e3
 simp only [Option.some.injEq, Prod.mk.injEq] at e3
 have := h (by decide) hpos
 rw [← e3.1.2.1, hc] at this
 simp at this
theorem F31_N (k : Nat) (t0 : List RgT) (p q : List Int) (hk : 10000000 ≤ k) (hn : t0.length ≤ 1000) (hs : RgL t0) (hpq : p.length = q.length) (hp : p.length ≤ 2000000) (hL : LetP 2000000 q) : ∃ (M : List (List Bool)) (N : Nat), F31 k t0 p q = some ((M, ()), ()) ∧ F32 k q = some (((N : Int), ()), ()) ∧ N ≤ 2000000 ∧ M.length = t0.length ∧ (∀ r ∈ M, r.length = N) ∧ ∀ x ∈ q, 0 ≤ x ∧ x < (N : Int) := by
 obtain ⟨c, e, h0, h1, h2⟩ := F32_ok k q hk (by omega) hL
 obtain ⟨M, e2, h3, h4⟩ := F31_1_ok k t0 p q c hk hn hs hpq hp e h0 h1 (fun x hx => ⟨(hL x hx).1, h2 x hx⟩) t0.length k 0 [] (Nat.zero_add _) (by omega) rfl (fun r hr => by cases hr)
 refine ⟨M, c.toNat, ?_, by rw [show ((c.toNat : Nat) : Int) = c by omega]; exact e, by omega, h3, fun r hr => h4 r hr, fun x hx => by have := h2 x hx; have := (hL x hx).1; omega⟩
 rw [show ((0 : Nat) : Int) = 0 from rfl] at e2
 unfold F31
 rw [e2, Option.bind_some]
end Go.Proofs.YtibammoednhnoaaE
set_option linter.unusedSimpArgs false
set_option linter.unusedVariables false
set_option maxRecDepth 20000
namespace Go.Proofs.YtibammoednhnoaaE
abbrev RulT := (Int × (Int × (RexT × (RexT × Unit))))
def RulP (r : RulT) : Prop := RexP true 5 r.2.2.1 ∧ RexP false 5 r.2.2.2.1
theorem w64n (a : Nat) (h : a ≤ 9223372036854775807) : IntKind.wrap .i64 (a : Int) = (a : Int) := w64 _ (by omega) (by omega)
theorem F28_0_ok (k : Nat) (l : List RawT) (ns : List Int) (c6 : FileT) (ds : List DefT) (hk : 20000000 ≤ k) (hl : ∀ r ∈ l, RawH 5 r) (hn : ns.length ≤ 100000000000000) : ∀ (d m j : Nat) (rs : List RulT), j + d = 4 → d < m → rs.length = j → (∀ r ∈ rs, RulP r) → ∃ rs', F28_0 k m l ns ((2 * j : Nat) : Int) c6 (ds, (rs, ())) = some ((), (c6, (ds, (rs', ())), ())) ∧ rs'.length ≤ 4 ∧ ∀ r ∈ rs', RulP r
 | 0, m, j, rs, hj, hm, hr, hp => by
  obtain ⟨m, rfl⟩ := pos1 (m := m) (by omega)
  refine ⟨rs, ?_, by omega, hp⟩
  simp only [F28_0]
  rw [decide_eq_false (show ¬ ((2 * j : Nat) : Int) < 8 by omega), cond_false]
  cases (decide (IntKind.wrap .i64 (((2 * j : Nat) : Int) + 1) < ((List.length l : Nat) : Int))) <;> rfl
 | d + 1, m, j, rs, hj, hm, hr, hp => by
  obtain ⟨m, rfl⟩ := pos1 (m := m) (by omega)
  have hw1 : IntKind.wrap .i64 (((2 * j : Nat) : Int) + 1) = ((2 * j + 1 : Nat) : Int) := by rw [w64 _ (by omega) (by omega)]; omega
  have hw2 : IntKind.wrap .i64 (((2 * j : Nat) : Int) + 2) = ((2 * (j + 1) : Nat) : Int) := by rw [w64 _ (by omega) (by omega)]; omega
  have hw3 : IntKind.wrap .i64 (Int.tdiv ((2 * j : Nat) : Int) 2) = (j : Int) := by
   have : Int.tdiv ((2 * j : Nat) : Int) 2 = (j : Int) := by
    rw [Int.tdiv_eq_ediv_of_nonneg (by omega)]
    omega
   rw [this]
   exact w64n j (by omega)
  simp only [F28_0]
  rw [hw1, hw3]
  by_cases h1 : 2 * j + 1 < l.length
  ·have h0 : 2 * j < l.length := by omega
   obtain ⟨x1, e1, p1⟩ := F51_ok k l[2 * j] false 5 (hl _ (List.getElem_mem h0)) (by omega)
   obtain ⟨x2, e2, p2⟩ := F51_ok k l[2 * j + 1] true 5 (hl _ (List.getElem_mem h1)) (by omega)
   have next : ∀ (u v : Int), ∃ rs', F28_0 k m l ns ((2 * (j + 1) : Nat) : Int) c6 (ds, (rs ++ [(u, (v, (x1, (x2, ()))))], ())) = some ((), (c6, (ds, (rs', ())), ())) ∧ rs'.length ≤ 4 ∧ ∀ r ∈ rs', RulP r := fun u v =>
    F28_0_ok k l ns c6 ds hk hl hn d m (j + 1) (rs ++ [(u, (v, (x1, (x2, ()))))]) (by omega) (by omega) (by simp [hr]) (all_append hp ⟨p1, p2⟩)
   have ha : ∀ y : RulT, (List.length rs + List.length [y]) * (160 * 2) ≤ 281474976710656 ∧ List.length rs + List.length [y] ≤ 9223372036854775807 := fun y => by rw [List.length_singleton]; omega
   have hset : ∀ y z : RulT, List.set (List.replicate 1 z) 0 y = [y] := fun y z => rfl
   rw [dlt h1, cond_true, decide_eq_true (show ((2 * j : Nat) : Int) < 8 by omega), cond_true]
   by_cases h2 : j < ns.length
   ·obtain ⟨rs', e, h⟩ := next (Int.tmod (List.getD ns j 0 % 1073741824) 3) (Int.tmod (IntKind.wrap .i64 (Int.tdiv (List.getD ns j 0 % 1073741824) 3)) 20)
    refine ⟨rs', ?_, h⟩
    rw [dlt h2, cond_true, if_pos (inR h2), tnI j, F50_eq k _ 1073741824 (by decide) (by decide), Option.bind_some]
    simp only
    rw [if_pos (inR h0), if_pos (inR h1), tnI (2 * j), tnI (2 * j + 1), getD_lt _ _ _ h0, getD_lt _ _ _ h1, e1, Option.bind_some]
    simp only
    rw [e2, Option.bind_some]
    simp only
    rw [hset, if_pos (ha _), hw2, e]
    rfl
   ·obtain ⟨rs', e, h⟩ := next (Int.tmod ((2 * j : Nat) : Int) 3) (Int.tmod (IntKind.wrap .i64 (Int.tdiv ((2 * j : Nat) : Int) 3)) 20)
    refine ⟨rs', ?_, h⟩
    rw [decide_eq_false (show ¬ (j : Int) < ((List.length ns : Nat) : Int) by omega), cond_false, if_pos (inR h0), if_pos (inR h1), tnI (2 * j), tnI (2 * j + 1), getD_lt _ _ _ h0, getD_lt _ _ _ h1, e1, Option.bind_some]
    simp only
    rw [e2, Option.bind_some]
    simp only
    rw [hset, if_pos (ha _), hw2, e]
    rfl
  ·refine ⟨rs, ?_, by omega, hp⟩
   rw [decide_eq_false (show ¬ ((2 * j + 1 : Nat) : Int) < ((List.length l : Nat) : Int) by omega), cond_false]
theorem F28_ok (k : Nat) (l : List RawT) (ns ds : List Int) (hk : 20000000 ≤ k) (hl : ∀ r ∈ l, RawH 5 r) (hn : ns.length ≤ 100000000000000) : ∃ (dd : List DefT) (rs : List RulT), F28 k l ns ds = some (((dd, (rs, ())), ()), ()) ∧ 4 ≤ dd.length ∧ dd.length ≤ 6 ∧ DefsP dd ∧ rs.length ≤ 4 ∧ ∀ r ∈ rs, RulP r := by
 obtain ⟨dd, e1, h1, h2, h3⟩ := F49_ok k ds (by omega)
 obtain ⟨rs, e2, h4, h5⟩ := F28_0_ok k l ns (([] : List DefT), (([] : List RulT), ())) dd hk hl hn 4 k 0 [] rfl (by omega) rfl (fun r hr => by cases hr)
 refine ⟨dd, rs, ?_, h1, h2, h3, h4, h5⟩
 unfold F28
 rw [e1, Option.bind_some]
 simp only
 rw [show F28_0 k k l ns 0 (([] : List DefT), (([] : List RulT), ())) (dd, (([] : List RulT), ())) = _ from e2, Option.bind_some]
structure SideW (I : InT) (N M : Nat) (s : SideT) : Prop where
 g : ∃ n, n ≤ 120 ∧ SideG n (cB 5) M s
 ok : SOK s
 io : InOK I N s
theorem sideW {I : InT} {N M : Nat} {s : SideT} (hI : I.length = M) (hr : ∀ r ∈ I, r.length = N) {n : Nat} (hn : n ≤ 120) (h : SideG n (cB 5) M s) : SideW I N M s := by
 have h1 := h.ls
 have h2 := h.lf
 have h3 := h.le
 have h4 := srt_len h.srt h.arcs
 have hnn : n * n ≤ 120 * 120 := Nat.mul_le_mul hn hn
 refine ⟨⟨n, hn, h⟩, ⟨by omega, by omega, fun x hx => ?_, by omega, by omega⟩, ⟨fun x hx => ?_, hr⟩⟩
 ·have := h.arcs x hx
  rw [h1]
  exact ⟨this.1, this.2.1⟩
 ·have := h.sets x hx
  rw [hI]
  omega
structure WG (w : WorT) (N M : Nat) : Prop where
 left : ∀ s ∈ w.2.2.2.2.1, SideW w.2.2.2.1 N M s
 right : ∀ s ∈ w.2.2.2.2.2.1, SideW w.2.2.2.1 N M s
 nl : w.2.2.2.2.1.length = w.1.2.1.length
 nr : w.2.2.2.2.2.1.length = w.1.2.1.length
 nrules : w.1.2.1.length ≤ 4
 num : w.2.2.2.2.2.2.1 = (N : Int)
 le : N ≤ 2000000
 bc : w.2.1.length = w.2.2.1.length
 cl : w.2.2.1.length ≤ 2000000
 ne : w.2.2.1 ≠ []
 lets : ∀ x ∈ w.2.2.1, 0 ≤ x ∧ x < (N : Int)
theorem F14_0_ok (k : Nat) (fl : FileT) (cu nm : List Int) (I : InT) (Nv : Int × Unit) (c6 : WorT) (N M : Nat) (hk : 20000000 ≤ k) (hfl : fl.1.length ≤ 1000) (hM : fl.1.length = M) (hI : I.length = M) (hrow : ∀ r ∈ I, r.length = N) (hN : N ≤ 2000000) (hrs : ∀ r ∈ fl.2.1, RulP r) (hrl : fl.2.1.length ≤ 4) : ∀ (d m i : Nat) (A B : List SideT), i + d = fl.2.1.length → d < m → A.length = i → B.length = i → (∀ s ∈ A, SideW I N M s) → (∀ s ∈ B, SideW I N M s) →
  (∃ w, F14_0 k m (i : Int) c6 (fl, (cu, (nm, (I, (A, (B, Nv)))))) = some (.inr ((false, ()), (w, ())))) ∨
  ∃ A' B', F14_0 k m (i : Int) c6 (fl, (cu, (nm, (I, (A, (B, Nv)))))) = some (.inl ((), (c6, (fl, (cu, (nm, (I, (A', (B', Nv)))))), ()))) ∧ A'.length = fl.2.1.length ∧ B'.length = fl.2.1.length ∧ (∀ s ∈ A', SideW I N M s) ∧ ∀ s ∈ B', SideW I N M s
 | 0, m, i, A, B, hi, hm, hA, hB, pA, pB => by
  obtain ⟨m, rfl⟩ := pos1 (m := m) (by omega)
  right
  refine ⟨A, B, ?_, by omega, by omega, pA, pB⟩
  simp only [F14_0]
  rw [decide_eq_false (by omega), cond_false]
 | d + 1, m, i, A, B, hi, hm, hA, hB, pA, pB => by
  obtain ⟨m, rfl⟩ := pos1 (m := m) (by omega)
  have hlt : i < fl.2.1.length := by omega
  obtain ⟨p1, p2⟩ := hrs _ (List.getElem_mem hlt)
  have e1 := F33_ok k fl.2.1[i].2.2.1 fl hfl p1 hk
  have e2 := F33_ok k fl.2.1[i].2.2.2.1 fl hfl p2 hk
  have hir : ∀ r ∈ I, r.length ≤ 2000000 := fun r hr => by rw [hrow r hr]; exact hN
  simp only [F14_0]
  rw [dlt hlt, cond_true, if_pos (inR hlt), tnI i, getD_lt _ _ _ hlt, e1, Option.bind_some, if_pos (inR hlt), e2, Option.bind_some]
  by_cases h1 : sizeR 5 fl.2.1[i].2.2.1 > 120
  ·left
   rw [if_pos h1]
   exact ⟨_, rfl⟩
  ·rw [if_neg h1]
   by_cases h2 : sizeR 5 fl.2.1[i].2.2.2.1 > 120
   ·left
    rw [if_pos h2]
    exact ⟨_, rfl⟩
   ·rw [if_neg h2]
    simp only [Bool.not_true, cond_false]
    have g1 := side_G (fnd fl.1) M (fun nm => by have := fnd_range fl.1 nm; rw [hM] at this; exact this) 5 _ (by omega) p1
    have g2 := side_G (fnd fl.1) M (fun nm => by have := fnd_range fl.1 nm; rw [hM] at this; exact this) 5 _ (by omega) p2
    obtain ⟨j1, s1, e3, hj1, hs1⟩ := F34_ok k _ I (by omega) (by omega) g1 (by omega) hir
    obtain ⟨j2, s2, e4, hj2, hs2⟩ := F34_ok k _ I (by omega) (by omega) g2 (by omega) hir
    have w1 : SideW I N M s1 := sideW hI hrow (by omega) hs1
    have w2 : SideW I N M s2 := sideW hI hrow (by omega) hs2
    have hset : ∀ y z : SideT, List.set (List.replicate 1 z) 0 y = [y] := fun y z => rfl
    have ha : ∀ y : SideT, (List.length A + List.length [y]) * (104 * 2) ≤ 281474976710656 ∧ List.length A + List.length [y] ≤ 9223372036854775807 := fun y => by rw [List.length_singleton]; omega
    have hb : ∀ y : SideT, (List.length B + List.length [y]) * (104 * 2) ≤ 281474976710656 ∧ List.length B + List.length [y] ≤ 9223372036854775807 := fun y => by rw [List.length_singleton]; omega
    rw [e3, Option.bind_some]
    simp only
    rw [hset, if_pos (ha _), e4, Option.bind_some]
    simp only
    rw [hset, if_pos (hb _), wsucc i _ hlt (by omega)]
    rcases F14_0_ok k fl cu nm I Nv c6 N M hk hfl hM hI hrow hN hrs hrl d m (i + 1) (A ++ [s1]) (B ++ [s2]) (by omega) (by omega) (by simp [hA]) (by simp [hB]) (all_append pA w1) (all_append pB w2) with ⟨w, e⟩ | ⟨A', B', e, h⟩
    ·left
     exact ⟨w, by rw [e]; rfl⟩
    ·right
     exact ⟨A', B', by rw [e]; rfl, h⟩
theorem F14_ok (k : Nat) (l : List RawT) (ns ds : List Int) (hk : 20000000 ≤ k) (hl : ∀ r ∈ l, RawH 5 r) (hn : ns.length ≤ 100000000000000) : ∃ (w : WorT) (b : Bool), F14 k l ns ds = some ((w, b, ()), ()) ∧ (b = true → ∃ N M, WG w N M) := by
 obtain ⟨dd, rs, e1, h1, h2, h3, h4, h5⟩ := F28_ok k l ns ds hk hl hn
 obtain ⟨sets, e4, h6, h7⟩ := F29_ok k (dd, (rs, ())) (show dd.length ≤ 1000 by omega) h3 hk
 have h6' : sets.length = dd.length := h6
 obtain ⟨bs, cs, e5, g1, g2, g3, g4⟩ := F30_ne k sets (by omega) (by omega) h7
 obtain ⟨I, N, e6, e7, g5, g6, g7, g8⟩ := F31_N k sets bs cs (by omega) (by omega) h7 g1 (by omega) g3
 have e8 := F14_0_ok k (dd, (rs, ())) bs cs I ((N : Int), ()) ((([] : List DefT), (([] : List RulT), ())), (([] : (List Int)), (([] : (List Int)), (([] : (List (List Bool))), (([] : List SideT), (([] : List SideT), ((0 : Int), ()))))))) N dd.length hk (show dd.length ≤ 1000 by omega) rfl (by omega) g7 (by omega) h5 h4 rs.length k 0 [] [] (Nat.zero_add _) (by omega) rfl rfl (fun s hs => by cases hs) (fun s hs => by cases hs)
 rw [show ((0 : Nat) : Int) = 0 from rfl] at e8
 unfold F14
 simp only
 rw [e1, Option.bind_some]
 simp only
 rw [e4, Option.bind_some]
 simp only
 rw [e5, Option.bind_some]
 simp only
 rw [e6, Option.bind_some]
 simp only
 rw [e7, Option.bind_some]
 simp only
 rcases e8 with ⟨w, e8⟩ | ⟨A, B, e8, a1, a2, a3, a4⟩
 ·refine ⟨w, false, ?_, fun q => by cases q⟩
  rw [e8, Option.bind_some]
 ·refine ⟨((dd, (rs, ())), (bs, (cs, (I, (A, (B, ((N : Int), ()))))))), true, ?_, fun _ => ⟨N, dd.length, ⟨a3, a4, a1, a2, h4, rfl, g5, g1, g2, g4, g8⟩⟩⟩
  rw [e8, Option.bind_some]
end Go.Proofs.YtibammoednhnoaaE
set_option linter.unusedSimpArgs false
set_option linter.unusedVariables false
set_option maxRecDepth 20000
namespace Go.Proofs.YtibammoednhnoaaE
theorem get_preA {σ : Type} {l l' t : List σ} {i : Nat} {x : σ} (e : l' = l ++ t) (h : l[i]? = some x) : l'[i]? = some x := by
 rw [e, List.getElem?_append_left (List.getElem?_eq_some_iff.1 h).1]
 exact h
theorem nodup_get {σ : Type} {l : List σ} (h : l.Nodup) {i j : Nat} {x : σ} (h1 : l[i]? = some x) (h2 : l[j]? = some x) : i = j := by
 obtain ⟨h3, h4⟩ := List.getElem?_eq_some_iff.1 h1
 obtain ⟨h5, h6⟩ := List.getElem?_eq_some_iff.1 h2
 exact (List.getElem_inj h).1 (h4.trans h6.symm)
section
variable {σ : Type} [DecidableEq σ]
theorem put1_nodup {l : List σ} (h : l.Nodup) (x : σ) : (put1 l x).Nodup := by
 unfold put1
 split
 ·exact h
 ·rename_i hx
  rw [List.nodup_append]
  refine ⟨h, by simp, fun a ha b hb => ?_⟩
  rw [List.mem_singleton.1 hb]
  exact fun e => hx (e ▸ ha)
theorem put1_get (l : List σ) (x : σ) : (put1 l x)[ix l x]? = some x := by
 unfold put1
 split
 ·rename_i hx
  rw [List.getElem?_eq_getElem (ix_lt hx), ix_get hx]
 ·rename_i hx
  rw [ix_no hx]
  simp
theorem ix_of_get {l : List σ} (h : l.Nodup) {i : Nat} {x : σ} (h1 : l[i]? = some x) : ix l x = i := by
 have hm : x ∈ l := List.mem_of_getElem? h1
 refine nodup_get h ?_ h1
 rw [List.getElem?_eq_getElem (ix_lt hm), ix_get hm]
theorem rowA_spec (step : σ → Nat → σ) (s : σ) : ∀ (al : List Nat) (l : List σ), l.Nodup → (rowA step s al l).1.Nodup ∧ ∀ (p a : Nat), al[p]? = some a → ∃ t : Nat, (rowA step s al l).2[p]? = some (t : Int) ∧ (rowA step s al l).1[t]? = some (step s a)
 | [], l, h => ⟨h, fun p a e => by simp at e⟩
 | b :: al, l, h => by
  obtain ⟨h1, h2⟩ := rowA_spec step s al (put1 l (step s b)) (put1_nodup h _)
  obtain ⟨t1, e1⟩ := rowA_pre step s al (put1 l (step s b))
  refine ⟨h1, fun p a e => ?_⟩
  cases p with
  | zero =>
   simp only [List.getElem?_cons_zero, Option.some.injEq] at e
   subst e
   exact ⟨ix l (step s b), by rw [rowA_2]; rfl, by rw [rowA_1]; exact get_preA e1 (put1_get l (step s b))⟩
  | succ p =>
   simp only [List.getElem?_cons_succ] at e
   obtain ⟨t, e2, e3⟩ := h2 p a e
   exact ⟨t, by rw [rowA_2]; exact e2, by rw [rowA_1]; exact e3⟩
theorem rowA_sub (step : σ → Nat → σ) (s : σ) {P : σ → Prop} : ∀ (al : List Nat) (l : List σ), (∀ x ∈ l, P x) → (∀ a ∈ al, P (step s a)) → ∀ x ∈ (rowA step s al l).1, P x
 | [], l, h, _ => h
 | b :: al, l, h, h2 => by
  rw [rowA_1]
  refine rowA_sub step s al _ (fun x hx => ?_) fun a ha => h2 a (List.mem_cons_of_mem _ ha)
  unfold put1 at hx
  split at hx
  ·exact h x hx
  ·rcases List.mem_append.1 hx with q | q
   ·exact h x q
   ·rw [List.mem_singleton.1 q]; exact h2 b List.mem_cons_self
variable (step : σ → Nat → σ) (hold : σ → List Bool) (d0 : σ) (N : Nat)
structure Mach (i : Nat) (l : List σ) (nx : List (List Int)) (ou : List Int) (se : List (List Bool)) : Prop where
 nd : l.Nodup
 sd : se.Nodup
 il : i ≤ l.length
 nl : nx.length = i
 ol : ou.length = i
 rows : ∀ j x, j < i → l[j]? = some x → ∃ r, nx[j]? = some r ∧ r.length = N ∧ ∀ a, a < N → ∃ t : Nat, r[a]? = some (t : Int) ∧ l[t]? = some (step x a)
 outs : ∀ j x, j < i → l[j]? = some x → ∃ t : Nat, ou[j]? = some (t : Int) ∧ se[t]? = some (hold x)
 hs : ∀ h ∈ se, ∃ x ∈ l, h = hold x
variable {step hold d0 N}
theorem Mach.next {i : Nat} {l : List σ} {nx : List (List Int)} {ou : List Int} {se : List (List Bool)} (m : Mach step hold N i l nx ou se) (hi : i < l.length) :
  Mach step hold N (i + 1) (rowA step (l.getD i d0) (List.range N) l).1 (nx ++ [(rowA step (l.getD i d0) (List.range N) l).2]) (ou ++ [((ix se (hold (l.getD i d0)) : Nat) : Int)]) (put1 se (hold (l.getD i d0))) := by
 obtain ⟨r1, r2⟩ := rowA_spec step (l.getD i d0) (List.range N) l m.nd
 obtain ⟨t, e⟩ := rowA_pre step (l.getD i d0) (List.range N) l
 have hle := rowA_le step (l.getD i d0) (List.range N) l
 have hrl := rowA_row step (l.getD i d0) (List.range N) l
 rw [List.length_range] at hrl
 have hgi : l[i]? = some (l.getD i d0) := by rw [getD_lt _ _ _ hi, List.getElem?_eq_getElem hi]
 obtain ⟨ts, es⟩ := put1_pre se (hold (l.getD i d0))
 have hlt : ∀ j x, j < i + 1 → (rowA step (l.getD i d0) (List.range N) l).1[j]? = some x → l[j]? = some x := fun j x hj hx => by
  rw [e, List.getElem?_append_left (by omega)] at hx
  exact hx
 refine ⟨r1, put1_nodup m.sd _, by omega, by rw [List.length_append, m.nl]; rfl, by rw [List.length_append, m.ol]; rfl, fun j x hj hx => ?_, fun j x hj hx => ?_, fun h hm => ?_⟩
 ·have hx' := hlt j x hj hx
  by_cases he : j = i
  ·subst he
   rw [hgi] at hx'
   injection hx' with hx'
   refine ⟨(rowA step (l.getD j d0) (List.range N) l).2, by rw [← m.nl]; simp, hrl, fun a ha => ?_⟩
   rw [← hx']
   exact r2 a a (by rw [List.getElem?_range ha])
  ·obtain ⟨r, q1, q2, q3⟩ := m.rows j x (by omega) hx'
   refine ⟨r, get_preA rfl q1, q2, fun a ha => ?_⟩
   obtain ⟨u, q4, q5⟩ := q3 a ha
   exact ⟨u, q4, get_preA e q5⟩
 ·have hx' := hlt j x hj hx
  by_cases he : j = i
  ·subst he
   rw [hgi] at hx'
   injection hx' with hx'
   rw [← hx']
   exact ⟨ix se (hold (l.getD j d0)), by rw [← m.ol]; simp, put1_get se _⟩
  ·obtain ⟨u, q1, q2⟩ := m.outs j x (by omega) hx'
   exact ⟨u, get_preA rfl q1, get_preA es q2⟩
 ·unfold put1 at hm
  have up : ∀ {x : σ}, x ∈ l → x ∈ (rowA step (l.getD i d0) (List.range N) l).1 := fun hx => by rw [e]; exact List.mem_append_left _ hx
  split at hm
  ·obtain ⟨x, hx, q⟩ := m.hs h hm
   exact ⟨x, up hx, q⟩
  ·rcases List.mem_append.1 hm with q | q
   ·obtain ⟨x, hx, q⟩ := m.hs h q
    exact ⟨x, up hx, q⟩
   ·exact ⟨l.getD i d0, up (List.mem_of_getElem? hgi), List.mem_singleton.1 q⟩
theorem mkA_mach {B : Int} {P : σ → Prop} (hP : ∀ x a, P x → a < N → P (step x a)) : ∀ (f i : Nat) (l : List σ) (nx : List (List Int)) (ou : List Int) (se : List (List Bool)) {q : List σ × List (List Int) × List Int × List (List Bool)}, Mach step hold N i l nx ou se → (∀ x ∈ l, P x) → mkA step hold d0 B N f i l nx ou se = some q → Mach step hold N q.1.length q.1 q.2.1 q.2.2.1 q.2.2.2 ∧ (∃ t, q.1 = l ++ t) ∧ (∀ x ∈ q.1, P x) ∧ (i < l.length → (q.1.length : Int) ≤ B)
 | 0, i, l, nx, ou, se, q, m, hp, h => by cases h
 | f + 1, i, l, nx, ou, se, q, m, hp, h => by
  simp only [mkA] at h
  split at h
  ·rename_i hi
   split at h
   ·cases h
   ·rename_i hB
    have hps : P (l.getD i d0) := hp _ (by rw [getD_lt _ _ _ hi]; exact List.getElem_mem hi)
    obtain ⟨t, e⟩ := rowA_pre step (l.getD i d0) (List.range N) l
    obtain ⟨h1, ⟨t2, e2⟩, h3, h4⟩ := mkA_mach hP f _ _ _ _ _ (m.next (d0 := d0) hi) (rowA_sub step (l.getD i d0) (List.range N) l hp fun a ha => hP _ a hps (List.mem_range.1 ha)) h
    have hle := rowA_le step (l.getD i d0) (List.range N) l
    refine ⟨h1, ⟨t ++ t2, by rw [e2, e, List.append_assoc]⟩, h3, fun _ => ?_⟩
    by_cases hc : i + 1 < (rowA step (l.getD i d0) (List.range N) l).1.length
    ·exact h4 hc
    · -- nothing more is there
     cases f with
     | zero => cases h
     | succ f =>
      rw [mkA, if_neg hc] at h
      injection h with h
      rw [← h]
      simp only
      omega
  ·rename_i hi
   injection h with h
   subst h
   simp only
   have : i = l.length := Nat.le_antisymm m.il (by omega)
   refine ⟨by rw [this] at m; exact m, ⟨[], (List.append_nil _).symm⟩, hp, fun q => by omega⟩
theorem nodup_le : ∀ {l S : List σ}, l.Nodup → (∀ x ∈ l, x ∈ S) → l.length ≤ S.length
 | [], S, _, _ => Nat.zero_le _
 | x :: l, S, h, hs => by
  obtain ⟨h1, h2⟩ := List.nodup_cons.1 h
  have hx := hs x List.mem_cons_self
  have := nodup_le (l := l) (S := S.erase x) h2 fun y hy => (List.mem_erase_of_ne (fun e => h1 (by rw [← e]; exact hy))).2 (hs y (List.mem_cons_of_mem _ hy))
  rw [List.length_erase_of_mem hx] at this
  have := List.length_pos_of_mem hx
  simp only [List.length_cons]
  omega
def stR (step : σ → Nat → σ) (z : σ) : List Nat → σ
 | [] => z
 | a :: t => step (stR step z t) a
end
end Go.Proofs.YtibammoednhnoaaE
set_option linter.unusedSimpArgs false
set_option linter.unusedVariables false
set_option maxRecDepth 20000
namespace Go.Proofs.YtibammoednhnoaaE
section
variable {σ : Type} {step : σ → Nat → σ} {hold : σ → List Bool} {N : Nat} {l : List σ} {nx : List (List Int)} {ou : List Int} {se : List (List Bool)} {z : σ}
def outV (step : σ → Nat → σ) (hold : σ → List Bool) (se : List (List Bool)) (z : σ) (x : List Nat) (i : Nat) : Int := ((ix se (hold (stR step z (x.drop i))) : Nat) : Int)
def outL (step : σ → Nat → σ) (hold : σ → List Bool) (se : List (List Bool)) (z : σ) (x : List Nat) : List Int := (List.range (x.length + 1)).map (outV step hold se z x)
theorem outL_len (x : List Nat) : (outL step hold se z x).length = x.length + 1 := by simp [outL]
def fromL (f : Nat → Int) (n i : Nat) : List Int := (List.range n).map fun j => if i ≤ j then f j else 0
theorem fromL_len (f : Nat → Int) (n i : Nat) : (fromL f n i).length = n := by simp [fromL]
theorem fromL_n (f : Nat → Int) (n : Nat) : fromL f n n = List.replicate n 0 := by
 refine List.ext_getElem (by simp [fromL]) fun j h1 h2 => ?_
 have : j < n := by simpa [fromL] using h1
 simp [fromL, Nat.not_le.2 this]
theorem fromL_0 (f : Nat → Int) (n : Nat) : fromL f n 0 = (List.range n).map f := by simp [fromL]
theorem fromL_set (f : Nat → Int) (n i : Nat) : List.set (fromL f n (i + 1)) i (f i) = fromL f n i := by
 refine List.ext_getElem (by simp [fromL]) fun j h1 h2 => ?_
 rw [List.getElem_set]
 simp only [fromL, List.getElem_map, List.getElem_range]
 split
 ·rename_i e; subst e; simp
 ·rename_i e
  by_cases q : i ≤ j
  ·rw [if_pos (by omega), if_pos q]
  ·rw [if_neg (by omega), if_neg q]
theorem getDN {x : List Nat} {i : Nat} (h : i < x.length) : List.getD (x.map fun n : Nat => (n : Int)) i 0 = ((x[i] : Nat) : Int) := by
 rw [getD_lt _ _ _ (by simpa using h), List.getElem_map]
theorem F22_0_ok (k : Nat) (m : Mach step hold N l.length l nx ou se) (hl : l.length ≤ 1000000) (x : List Nat) (hx : ∀ a ∈ x, a < N) (hxl : x.length ≤ 1000000) : ∀ (i mm t : Nat), i < mm → i ≤ x.length → l[t]? = some (stR step z (x.drop i)) →
  F22_0 k mm (x.map fun n : Nat => (n : Int)) (t : Int) (i : Int) (nx, (ou, ())) (fromL (outV step hold se z x) (x.length + 1) (i + 1)) = some ((), (outL step hold se z x, ()))
 | i, mm, t, hm, hi, ht => by
  obtain ⟨mm, rfl⟩ : ∃ m', mm = m' + 1 := ⟨mm - 1, by omega⟩
  have htl : t < l.length := (List.getElem?_eq_some_iff.1 ht).1
  obtain ⟨o, e1, e2⟩ := m.outs t _ htl ht
  obtain ⟨r, e3, e4, e5⟩ := m.rows t _ htl ht
  have hol := m.ol
  have hnl := m.nl
  have ho : List.getD ou t 0 = (o : Int) := by rw [List.getD_eq_getElem?_getD, e1]; rfl
  have hov : ((o : Nat) : Int) = outV step hold se z x i := by
   unfold outV
   rw [ix_of_get m.sd e2]
  have hto : t < ou.length := by omega
  have htn : t < nx.length := by omega
  have hc : i < (fromL (outV step hold se z x) (x.length + 1) (i + 1)).length := by rw [fromL_len]; omega
  simp only [F22_0]
  rw [decide_eq_true (show (t : Int) ≥ 0 by omega), cond_true, dlt hto, cond_true, if_pos (inR hto), if_pos (inR hc), tnI i, tnI t, ho, hov, fromL_set]
  cases i with
  | zero =>
   rw [show (((0 : Nat) : Int) == 0) = true from rfl, cond_true, fromL_0]
   rfl
  | succ i =>
   have hlt : i < x.length := by omega
   have hlt' : i < (x.map fun n : Nat => (n : Int)).length := by simpa using hlt
   have ha : x[i] < N := hx _ (List.getElem_mem hlt)
   obtain ⟨u, e6, e7⟩ := e5 x[i] ha
   have har : x[i] < r.length := by omega
   have hw : IntKind.wrap .i64 (((i + 1 : Nat) : Int) - 1) = (i : Int) := by rw [w64 _ (by omega) (by omega)]; omega
   have hnr : List.getD nx t [] = r := by rw [List.getD_eq_getElem?_getD, e3]; rfl
   have hru : List.getD r x[i] 0 = (u : Int) := by rw [List.getD_eq_getElem?_getD, e6]; rfl
   have hst : l[u]? = some (stR step z (x.drop i)) := by
    rw [e7, List.drop_eq_getElem_cons hlt]
    rfl
   have ih := F22_0_ok k m hl x hx hxl i mm u (by omega) (by omega) hst
   rw [show (((i + 1 : Nat) : Int) == 0) = false from beq_false_of_ne (by omega), cond_false]
   rw [dlt htn, cond_true, hw, if_pos (inR hlt'), tnI i, getDN hlt, decide_eq_true (show ((x[i] : Nat) : Int) ≥ 0 by omega), cond_true, if_pos (inR hlt'), if_pos (inR htn), hnr, dlt har, cond_true, if_pos (inR htn), if_pos (inR hlt'), if_pos (inR har), tnI (x[i]), hru, ih]
   rfl
theorem F22_ok (k : Nat) (hk : 10000000 ≤ k) (m : Mach step hold N l.length l nx ou se) (hl : l.length ≤ 1000000) (hz : l[0]? = some z) (x : List Nat) (hx : ∀ a ∈ x, a < N) (hxl : x.length ≤ 1000000) : F22 k (nx, (ou, ())) (x.map fun n : Nat => (n : Int)) = some ((outL step hold se z x, ()), ()) := by
 have e := F22_0_ok k m hl x hx hxl x.length k 0 (by omega) (Nat.le_refl _) (by rw [List.drop_length]; exact hz)
 rw [fromL_n, show ((0 : Nat) : Int) = 0 from rfl] at e
 unfold F22
 have hw : IntKind.wrap .i64 (((List.length (x.map fun n : Nat => (n : Int)) : Nat) : Int) + 1) = ((x.length + 1 : Nat) : Int) := by rw [w64 _ (by simp; omega) (by simp; omega)]; simp
 rw [hw, if_pos (by omega), List.length_map, tnI (x.length + 1), e, Option.bind_some]
theorem F23_0_ok (k : Nat) (m : Mach step hold N l.length l nx ou se) (hl : l.length ≤ 1000000) (x : List Nat) (hx : ∀ a ∈ x, a < N) (hxl : x.length ≤ 1000000) : ∀ (i mm t : Nat), i < mm → i ≤ x.length → l[t]? = some (stR step z (x.drop i)) →
  F23_0 k mm (x.map fun n : Nat => (n : Int)) (t : Int) ((i : Int) - 1) (nx, (ou, ())) (fromL (outV step hold se z x) (x.length + 1) i) = some ((), (outL step hold se z x, ()))
 | 0, mm, t, hm, hi, ht => by
  obtain ⟨mm, rfl⟩ : ∃ m', mm = m' + 1 := ⟨mm - 1, by omega⟩
  simp only [F23_0]
  rw [decide_eq_false (by omega), cond_false, fromL_0]
  rfl
 | i + 1, mm, t, hm, hi, ht => by
  obtain ⟨mm, rfl⟩ : ∃ m', mm = m' + 1 := ⟨mm - 1, by omega⟩
  have htl : t < l.length := (List.getElem?_eq_some_iff.1 ht).1
  obtain ⟨r, e3, e4, e5⟩ := m.rows t _ htl ht
  have hol := m.ol
  have hnl := m.nl
  have htn : t < nx.length := by omega
  have hlt : i < x.length := by omega
  have hlt' : i < (x.map fun n : Nat => (n : Int)).length := by simpa using hlt
  have ha : x[i] < N := hx _ (List.getElem_mem hlt)
  obtain ⟨u, e6, e7⟩ := e5 x[i] ha
  have har : x[i] < r.length := by omega
  have hnr : List.getD nx t [] = r := by rw [List.getD_eq_getElem?_getD, e3]; rfl
  have hru : List.getD r x[i] 0 = (u : Int) := by rw [List.getD_eq_getElem?_getD, e6]; rfl
  have hst : l[u]? = some (stR step z (x.drop i)) := by
   rw [e7, List.drop_eq_getElem_cons hlt]
   rfl
  have hul : u < l.length := (List.getElem?_eq_some_iff.1 hst).1
  obtain ⟨o, q1, q2⟩ := m.outs u _ hul hst
  have huo : u < ou.length := by omega
  have ho : List.getD ou u 0 = (o : Int) := by rw [List.getD_eq_getElem?_getD, q1]; rfl
  have hov : ((o : Nat) : Int) = outV step hold se z x i := by
   unfold outV
   rw [ix_of_get m.sd q2]
  have hc : i < (fromL (outV step hold se z x) (x.length + 1) (i + 1)).length := by rw [fromL_len]; omega
  have hw : IntKind.wrap .i64 ((i : Int) - 1) = (i : Int) - 1 := w64 _ (by omega) (by omega)
  have ih := F23_0_ok k m hl x hx hxl i mm u (by omega) (by omega) hst
  simp only [F23_0]
  rw [show ((i + 1 : Nat) : Int) - 1 = (i : Int) by omega, decide_eq_true (show (i : Int) ≥ 0 by omega), cond_true, if_pos (inR htn), tnI t, hnr, if_pos (inR hlt'), tnI i, getDN hlt, if_pos (inR har), tnI (x[i]), hru, if_pos (inR huo), if_pos (inR hc), tnI u, ho, hov, fromL_set, hw, ih]
  rfl
theorem F23_ok (k : Nat) (hk : 10000000 ≤ k) (m : Mach step hold N l.length l nx ou se) (hl : l.length ≤ 1000000) (hz : l[0]? = some z) (x : List Nat) (hx : ∀ a ∈ x, a < N) (hxl : x.length ≤ 1000000) : F23 k (nx, (ou, ())) (x.map fun n : Nat => (n : Int)) = some ((outL step hold se z x, ()), ()) := by
 have e := F23_0_ok k m hl x hx hxl x.length k 0 (by omega) (Nat.le_refl _) (by rw [List.drop_length]; exact hz)
 have h0 : 0 < l.length := (List.getElem?_eq_some_iff.1 hz).1
 obtain ⟨o, q1, q2⟩ := m.outs 0 _ h0 hz
 have hol := m.ol
 have huo : 0 < ou.length := by omega
 have ho : List.getD ou 0 0 = (o : Int) := by rw [List.getD_eq_getElem?_getD, q1]; rfl
 have hov : ((o : Nat) : Int) = outV step hold se z x x.length := by
  unfold outV
  rw [List.drop_length, ix_of_get m.sd]
  exact q2
 have hset := fromL_set (outV step hold se z x) (x.length + 1) x.length
 rw [fromL_n] at hset
 rw [show ((0 : Nat) : Int) = 0 from rfl] at e
 unfold F23
 have hw : IntKind.wrap .i64 (((List.length (x.map fun n : Nat => (n : Int)) : Nat) : Int) + 1) = ((x.length + 1 : Nat) : Int) := by rw [w64 _ (by simp; omega) (by simp; omega)]; simp
 have hw2 : IntKind.wrap .i64 (((x.length : Nat) : Int) - 1) = ((x.length : Nat) : Int) - 1 := w64 _ (by omega) (by omega)
 have hc : 0 ≤ ((x.length : Nat) : Int) ∧ ((x.length : Nat) : Int) < ((List.length (List.replicate (x.length + 1) (0 : Int)) : Nat) : Int) := by rw [List.length_replicate]; omega
 have h0p : (0 : Int) ≤ 0 ∧ (0 : Int) < ((List.length ou : Nat) : Int) := ⟨Int.le_refl _, by omega⟩
 rw [hw, if_pos (by omega)]
 simp only
 rw [if_pos h0p, List.length_map, tnI (x.length + 1), if_pos hc, tnI (x.length), hw2]
 rw [show List.getD ou (Int.toNat 0) 0 = outV step hold se z x x.length from ho.trans hov, hset, e, Option.bind_some]
end
end Go.Proofs.YtibammoednhnoaaE
set_option linter.unusedSimpArgs false
set_option linter.unusedVariables false
set_option maxRecDepth 20000
namespace Go.Proofs.YtibammoednhnoaaE
abbrev QT := List Live × List (List Int) × List Int × List (List Bool)
def mkM (I : InT) (ss : List SideT) (N : Nat) (b : Int) : Option QT := mkA (stepL I ss) (holdL ss) ([] : Live) (minI b 100000) N ((minI b 100000).toNat + 2) 0 [zeroL ss] [] [] []
theorem tot_le {ss : List SideT} (h : ∀ s ∈ ss, s.1.length ≤ 100000) : tot ss ≤ ss.length * 100000 := by
 induction ss with
 | nil => simp [tot]
 | cons s ss ih =>
  rw [tot_cons, List.length_cons]
  have := h s List.mem_cons_self
  have := ih fun x hx => h x (List.mem_cons_of_mem _ hx)
  omega
theorem maxI_nat (N : Nat) : maxI (N : Int) 0 = (N : Int) := by unfold maxI; split <;> omega
theorem F16_mk (k : Nat) (I : InT) (N M : Nat) (ss : List SideT) (hk : 20000000 ≤ k) (hs : ∀ s ∈ ss, SideW I N M s) (hn : ss.length ≤ 100) (hN : N ≤ 2000000) (b : Int) : F16 k ss I (N : Int) b = some (outA (mkM I ss N b), ()) := by
 have := tot_le fun s h => (hs s h).ok.ln
 exact F16_ok k ss I N (by omega) (fun s h => (hs s h).ok) (by omega) (by omega) (by omega) (N : Int) (maxI_nat N) b
theorem F17_mk (k : Nat) (I : InT) (N M : Nat) (ss : List SideT) (hk : 20000000 ≤ k) (hs : ∀ s ∈ ss, SideW I N M s) (hn : ss.length ≤ 100) (hN : N ≤ 2000000) (b : Int) : F17 k ss I (N : Int) b = some (outA (mkM I ss N b), ()) :=
 F17_ok k ss I N (by omega) (fun s h => (hs s h).ok) (fun s h => (hs s h).io) (by omega) (by omega) (N : Int) (maxI_nat N) b
structure MW (I : InT) (ss : List SideT) (N : Nat) (b : Int) (q : QT) : Prop where
 m : Mach (stepL I ss) (holdL ss) N q.1.length q.1 q.2.1 q.2.2.1 q.2.2.2
 z : q.1[0]? = some (zeroL ss)
 shp : ∀ x ∈ q.1, Shp ss x
 le : (q.1.length : Int) ≤ minI b 100000
theorem mach0 {σ : Type} [DecidableEq σ] {step : σ → Nat → σ} {hold : σ → List Bool} {N : Nat} (z : σ) : Mach step hold N 0 [z] [] [] [] :=
 ⟨by simp, List.nodup_nil, by simp, rfl, rfl, fun j x h => by omega, fun j x h => by omega, fun h hm => by cases hm⟩
theorem mkM_ok {I : InT} {ss : List SideT} {N : Nat} {b : Int} {q : QT} (h : mkM I ss N b = some q) : MW I ss N b q := by
 obtain ⟨h1, ⟨t, h2⟩, h3, h4⟩ := mkA_mach (P := Shp ss) (fun x a hx _ => stepL_shp hx) _ 0 [zeroL ss] [] [] [] (mach0 _) (fun x hx => by rw [List.mem_singleton.1 hx]; exact zeroL_shp ss) h
 exact ⟨h1, by rw [h2]; rfl, h3, h4 (Nat.zero_lt_succ _)⟩
theorem MW.len {I : InT} {ss : List SideT} {N : Nat} {b : Int} {q : QT} (h : MW I ss N b q) : q.1.length ≤ 100000 := by
 have := h.le
 unfold minI at this
 split at this <;> omega
theorem F19_0_self (k : Nat) (l : List (List Bool)) (hk : 10000000 ≤ k) (hl : l.length ≤ 1000000) (hr : ∀ r ∈ l, r.length ≤ 5000000) : ∀ (d m i : Nat), i + d = l.length → d < m → F19_0 k m l l (i : Int) = some (.inl ((), ()))
 | 0, m, i, hi, hm => by
  obtain ⟨m, rfl⟩ := pos1 (m := m) (by omega)
  simp only [F19_0]
  rw [decide_eq_false (by omega), cond_false]
 | d + 1, m, i, hi, hm => by
  obtain ⟨m, rfl⟩ := pos1 (m := m) (by omega)
  have hlt : i < l.length := by omega
  simp only [F19_0]
  rw [dlt hlt, cond_true, if_pos (inR hlt), if_pos (inR hlt), tnI i, getD_lt _ _ _ hlt, F25_ok k _ _ hk (hr _ (List.getElem_mem hlt)), Option.bind_some, wsucc i _ hlt (by omega)]
  simp only [decide_true, Bool.not_true, cond_false]
  rw [F19_0_self k l hk hl hr d m (i + 1) (by omega) (by omega)]
  rfl
theorem F19_self (k : Nat) (l : List (List Bool)) (hk : 10000000 ≤ k) (hl : l.length ≤ 1000000) (hr : ∀ r ∈ l, r.length ≤ 5000000) : F19 k l l = some ((true, ()), ()) := by
 have e := F19_0_self k l hk hl hr l.length k 0 (Nat.zero_add _) (by omega)
 rw [show ((0 : Nat) : Int) = 0 from rfl] at e
 unfold F19
 rw [show ((((List.length l : Nat) : Int) != ((List.length l : Nat) : Int))) = false by simp, cond_false, e]
 rfl
theorem F18_0_self (k : Nat) (c : BackT) (j : Nat) (hj : j < c.1.length) (hr : c.1[j].length ≤ 5000000) : ∀ (d m i : Nat), i + d = c.1[j].length → d < m → F18_0 k m (j : Int) (i : Int) c c = some (.inl (((j : Int), ()), (c, c, ())))
 | 0, m, i, hi, hm => by
  obtain ⟨m, rfl⟩ := pos1 (m := m) (by omega)
  simp only [F18_0]
  rw [if_pos (inR hj), tnI j, getD_lt _ _ _ hj, decide_eq_false (by omega), cond_false]
 | d + 1, m, i, hi, hm => by
  obtain ⟨m, rfl⟩ := pos1 (m := m) (by omega)
  have hlt : i < c.1[j].length := by omega
  simp only [F18_0]
  rw [if_pos (inR hj), tnI j, getD_lt _ _ _ hj, dlt hlt, cond_true, if_pos (inR hj), if_pos (inR hlt), if_pos (inR hj), if_pos (inR hlt)]
  simp only [bne_self_eq_false, cond_false]
  rw [wsucc i _ hlt (by omega), F18_0_self k c j hj hr d m (i + 1) (by omega) (by omega)]
  rfl
theorem F18_1_self (k : Nat) (c : BackT) (hk : 10000000 ≤ k) (hl : c.1.length ≤ 1000000) (hr : ∀ r ∈ c.1, r.length ≤ 5000000) : ∀ (d m i : Nat), i + d = c.1.length → d < m → F18_1 k m (i : Int) c c = some (.inl ((), (c, c, ())))
 | 0, m, i, hi, hm => by
  obtain ⟨m, rfl⟩ := pos1 (m := m) (by omega)
  simp only [F18_1]
  rw [decide_eq_false (by omega), cond_false]
 | d + 1, m, i, hi, hm => by
  obtain ⟨m, rfl⟩ := pos1 (m := m) (by omega)
  have hlt : i < c.1.length := by omega
  have hri := hr _ (List.getElem_mem hlt)
  have e := F18_0_self k c i hlt hri c.1[i].length k 0 (Nat.zero_add _) (by omega)
  rw [show ((0 : Nat) : Int) = 0 from rfl] at e
  simp only [F18_1]
  rw [dlt hlt, cond_true, if_pos (inR hlt), if_pos (inR hlt)]
  simp only [bne_self_eq_false, cond_false]
  rw [e, Option.bind_some]
  simp only
  rw [wsucc i _ hlt (by omega), F18_1_self k c hk hl hr d m (i + 1) (by omega) (by omega)]
  rfl
theorem F18_2_self (k : Nat) (c : BackT) (hl : c.2.1.length ≤ 1000000) : ∀ (d m i : Nat), i + d = c.2.1.length → d < m → F18_2 k m (i : Int) c c = some (.inl ((), ()))
 | 0, m, i, hi, hm => by
  obtain ⟨m, rfl⟩ := pos1 (m := m) (by omega)
  simp only [F18_2]
  rw [decide_eq_false (by omega), cond_false]
 | d + 1, m, i, hi, hm => by
  obtain ⟨m, rfl⟩ := pos1 (m := m) (by omega)
  have hlt : i < c.2.1.length := by omega
  simp only [F18_2]
  rw [dlt hlt, cond_true, if_pos (inR hlt), if_pos (inR hlt)]
  simp only [bne_self_eq_false, cond_false]
  rw [wsucc i _ hlt (by omega), F18_2_self k c hl d m (i + 1) (by omega) (by omega)]
  rfl
theorem F18_self (k : Nat) (c : BackT) (hk : 10000000 ≤ k) (hl : c.1.length ≤ 1000000) (hr : ∀ r ∈ c.1, r.length ≤ 5000000) (hl2 : c.2.1.length ≤ 1000000) : F18 k c c = some ((true, ()), ()) := by
 have e := F18_1_self k c hk hl hr c.1.length k 0 (Nat.zero_add _) (by omega)
 have e2 := F18_2_self k c hl2 c.2.1.length k 0 (Nat.zero_add _) (by omega)
 rw [show ((0 : Nat) : Int) = 0 from rfl] at e e2
 unfold F18
 simp only [bne_self_eq_false, cond_false]
 rw [e, Option.bind_some]
 simp only
 rw [e2, Option.bind_some]
theorem MW.small {I : InT} {ss : List SideT} {N : Nat} {b : Int} {q : QT} (h : MW I ss N b q) (hN : N ≤ 5000000) (hn : ss.length ≤ 5000000) : (∀ r ∈ q.2.1, r.length ≤ 5000000) ∧ q.2.1.length ≤ 1000000 ∧ q.2.2.1.length ≤ 1000000 ∧ q.2.2.2.length ≤ 1000000 ∧ ∀ r ∈ q.2.2.2, r.length = ss.length := by
 have h1 := h.len
 have h2 := h.m.nl
 have h3 := h.m.ol
 have h5 : ∀ r ∈ q.2.2.2, r.length = ss.length := fun r hr => by
  obtain ⟨x, hx, e⟩ := h.m.hs r hr
  rw [e]
  exact holdL_len (h.shp x hx)
 refine ⟨fun r hr => ?_, by omega, by omega, ?_, h5⟩
 ·obtain ⟨i, hi, e⟩ := List.mem_iff_getElem.1 hr
  obtain ⟨r', q1, q2, _⟩ := h.m.rows i _ (by omega) (List.getElem?_eq_getElem (by omega : i < q.1.length))
  rw [List.getElem?_eq_getElem hi, e] at q1
  injection q1 with q1
  rw [q1, q2]
  exact hN
 ·have := nodup_le h.m.sd (S := q.1.map (holdL ss)) fun x hx => by
   obtain ⟨y, hy, e⟩ := h.m.hs x hx
   exact List.mem_map.2 ⟨y, hy, e.symm⟩
  rw [List.length_map] at this
  omega
theorem lets_nat {l names : List Int} {N : Nat} (h : ∀ x ∈ l, x ∈ names) (hn : ∀ x ∈ names, 0 ≤ x ∧ x < (N : Int)) : ∃ x : List Nat, l = x.map (fun n : Nat => (n : Int)) ∧ ∀ a ∈ x, a < N := by
 refine ⟨l.map Int.toNat, ?_, fun a ha => ?_⟩
 ·rw [List.map_map]
  refine (List.map_id l).symm.trans (List.map_congr_left fun a ha => ?_)
  have := (hn a (h a ha)).1
  show a = ((a.toNat : Nat) : Int)
  omega
 ·obtain ⟨y, hy, e⟩ := List.mem_map.1 ha
  have := hn y (h y hy)
  omega
end Go.Proofs.YtibammoednhnoaaE

