/- The plain law of DetOwn. Conditions: none. -/
import Derived.Test.YtgmmopbpldgpcaaP1
set_option linter.unusedSimpArgs false
set_option linter.unusedVariables false
set_option maxRecDepth 20000
namespace Go.Proofs.YtgmmopbpldgpcaaE
/-- Rows of the same lengths. -/
def LenR {α : Type} (a b : List (List α)) : Prop := a.map List.length = b.map List.length
theorem LenR.len {α : Type} {a b : List (List α)} (h : LenR a b) : a.length = b.length := by have := congrArg List.length h; simpa using this
theorem getD_len {α : Type} (a : List (List α)) (i : Nat) : (List.getD a i []).length = List.getD (a.map List.length) i 0 := by
  rw [List.getD_eq_getElem?_getD, List.getD_eq_getElem?_getD, List.getElem?_map]
  cases a[i]? <;> rfl
theorem LenR.at {α : Type} {a b : List (List α)} (h : LenR a b) (i : Nat) : (List.getD a i []).length = (List.getD b i []).length := by
  rw [getD_len, getD_len, h]
theorem LenR.set {α : Type} {a b : List (List α)} (h : LenR a b) (i : Nat) (r : List α) (hr : r.length = (List.getD a i []).length) : LenR (List.set a i r) b := by
  unfold LenR at *
  rw [List.map_set, ← h]
  refine List.ext_getElem (by simp) fun j h1 h2 => ?_
  rw [List.getElem_set]
  split
  · rename_i e
    subst e
    have hj : i < a.length := by simpa using h2
    rw [hr, getD_lt _ _ _ hj, List.getElem_map]
  · rfl
theorem F12_0_ok (k : Nat) (t3 : Int) (w v : WorT) (s : List (List Bool)) (i n : Nat) (hn : n ≤ 1000000000) (E : List (List (List Int)) × Unit) : ∀ (d m j : Nat) (l : List (List Int)), i < l.length → (List.getD l i []).length = n → j + d = n → d < m → ∃ l', F12_0 k m t3 (i : Int) (j : Int) w v (l, E) s = some ((t3, (i : Int), ()), (w, v, (l', E), s, ())) ∧ LenR l' l
  | 0, m, j, l, hi, hl, hj, hm => by
    obtain ⟨m, rfl⟩ := pos1 (m := m) (by omega)
    refine ⟨l, ?_, rfl⟩
    simp only [F12_0]
    rw [if_pos (inR hi), tnI i, hl, decide_eq_false (by omega), cond_false]
  | d + 1, m, j, l, hi, hl, hj, hm => by
    obtain ⟨m, rfl⟩ := pos1 (m := m) (by omega)
    have hs : LenR (List.set l i (List.set (List.getD l i []) j t3)) l := LenR.set rfl i _ (by rw [List.length_set])
    obtain ⟨l', e, h⟩ := F12_0_ok k t3 w v s i n hn E d m (j + 1) (List.set l i (List.set (List.getD l i []) j t3)) (by rw [List.length_set]; exact hi) (by rw [hs.at i]; exact hl) (by omega) (by omega)
    refine ⟨l', ?_, h.trans hs⟩
    simp only [F12_0]
    rw [if_pos (inR hi), tnI i, tnI j, hl, decide_eq_true (by omega), cond_true, if_pos (inR hi), if_pos (by omega), wsucc j n (by omega) (by omega), e]
    rfl
theorem F12_1_ok (k : Nat) (t3 : Int) (w v : WorT) (s : List (List Bool)) (i n : Nat) (hn : n ≤ 1000000000) (A : List (List Int)) : ∀ (d m j : Nat) (l : List (List (List Int))), i < l.length → (List.getD l i []).length = n → j + d = n → d < m → ∃ l', F12_1 k m t3 (i : Int) (j : Int) w v (A, (l, ())) s = some ((t3, (i : Int), ()), (w, v, (A, (l', ())), s, ())) ∧ LenR l' l
  | 0, m, j, l, hi, hl, hj, hm => by
    obtain ⟨m, rfl⟩ := pos1 (m := m) (by omega)
    refine ⟨l, ?_, rfl⟩
    simp only [F12_1]
    rw [dlt hi, cond_true, if_pos (inR hi), tnI i, hl, decide_eq_false (by omega), cond_false]
  | d + 1, m, j, l, hi, hl, hj, hm => by
    obtain ⟨m, rfl⟩ := pos1 (m := m) (by omega)
    have hs : LenR (List.set l i (List.set (List.getD l i []) j [7, 7, 7])) l := LenR.set rfl i _ (by rw [List.length_set])
    obtain ⟨l', e, h⟩ := F12_1_ok k t3 w v s i n hn A d m (j + 1) (List.set l i (List.set (List.getD l i []) j [7, 7, 7])) (by rw [List.length_set]; exact hi) (by rw [hs.at i]; exact hl) (by omega) (by omega)
    refine ⟨l', ?_, h.trans hs⟩
    simp only [F12_1]
    rw [dlt hi, cond_true, if_pos (inR hi), tnI i, tnI j, hl, decide_eq_true (by omega), cond_true, if_pos (inR hi), if_pos (by omega), show List.set (List.set (List.set (List.replicate 3 (0 : Int)) 0 (7 : Int)) 1 (7 : Int)) 2 (7 : Int) = [7, 7, 7] from rfl, wsucc j n (by omega) (by omega), e]
    rfl
theorem F12_2_ok (k : Nat) (hk : 20000000 ≤ k) (t3 : Int) (w v : WorT) (s : List (List Bool)) (n : Nat) (hn : n ≤ 1000000) : ∀ (d m i : Nat) (l : List (List Int)) (e : List (List (List Int))), l.length = n → e.length = n → (∀ j, (List.getD l j []).length ≤ 5000000) → (∀ j, (List.getD e j []).length ≤ 5000000) → i + d = n → d < m → F12_2 k m t3 (i : Int) w v (l, (e, ())) s = some ((), (w, v, s, ()))
  | 0, m, i, l, e, hl, he, h1, h2, hi, hm => by
    obtain ⟨m, rfl⟩ := pos1 (m := m) (by omega)
    simp only [F12_2]
    rw [hl, decide_eq_false (by omega), cond_false]
  | d + 1, m, i, l, e, hl, he, h1, h2, hi, hm => by
    obtain ⟨m, rfl⟩ := pos1 (m := m) (by omega)
    have hlt : i < l.length := by omega
    have hlt2 : i < e.length := by omega
    have q1 := h1 i
    have q2 := h2 i
    obtain ⟨l', e1, g1⟩ := F12_0_ok k t3 w v s i (List.getD l i []).length (by omega) (e, ()) (List.getD l i []).length k 0 l hlt rfl (Nat.zero_add _) (by omega)
    obtain ⟨e', e2, g2⟩ := F12_1_ok k t3 w v s i (List.getD e i []).length (by omega) l' (List.getD e i []).length k 0 e hlt2 rfl (Nat.zero_add _) (by omega)
    have g3 := g1.len
    have g4 := g2.len
    rw [show ((0 : Nat) : Int) = 0 from rfl] at e1 e2
    simp only [F12_2]
    rw [dlt hlt, cond_true, e1, Option.bind_some]
    simp only
    rw [e2, Option.bind_some]
    simp only
    rw [wsucc i _ hlt (by omega), F12_2_ok k hk t3 w v s n hn d m (i + 1) l' e' (by omega) (by omega) (fun j => by rw [g1.at j]; exact h1 j) (fun j => by rw [g2.at j]; exact h2 j) (by omega) (by omega)]
    rfl
theorem getD_le {α : Type} {l : List (List α)} {n : Nat} (h : ∀ r ∈ l, r.length ≤ n) (j : Nat) : (List.getD l j []).length ≤ n := by
  by_cases hj : j < l.length
  · rw [getD_lt _ _ _ hj]
    exact h _ (List.getElem_mem hj)
  · rw [List.getD_eq_getElem?_getD, List.getElem?_eq_none (by omega)]
    exact Nat.zero_le _
theorem det_own (a0 : List RawT) (a1 a2 : List Int) (a3 : Int) (h1 : a1.length ≤ 100000000000000) : ∃ k, F12 k a0 a1 a2 a3 = some ((true, ()), ()) := by
  refine ⟨20000000, ?_⟩
  generalize hk : (20000000 : Nat) = k
  have hk' : 20000000 ≤ k := by omega
  have hk2 : 10000000 ≤ k := by omega
  unfold F12
  rw [F13_known k (by omega), Option.bind_some]
  simp only [Bool.not_true, cond_false]
  rcases start9 k hk' a0 a1 a2 h1 with e | ⟨e, ⟨w, e2⟩ | ⟨w, N, M, e2, hw⟩⟩
  · rw [e]; rfl
  · rw [e, Option.bind_some]
    simp only [Bool.not_true, cond_false]
    rw [e2]; rfl
  · rw [e, Option.bind_some]
    simp only [Bool.not_true, cond_false]
    rw [e2, Option.bind_some, Option.bind_some]
    simp only [Bool.not_true, cond_false]
    rcases F16_ok k hk2 w N M hw with e3 | e3
    · rw [e3, Option.bind_some]
      simp only [Bool.not_true, cond_false]
      rw [F17_wg k hk' hw, Option.bind_some]
      cases hq : mkM w.2.2.2.1 w.2.2.2.2.2.1 N 40 with
      | none => rfl
      | some q =>
        have mw := mkM_ok hq
        have dw := mw_dw hw mw
        have hsn := dw.hsn
        have hN := dw.hN
        simp only [outA, bne_self_eq_false, cond_false]
        rw [hw.num, F19_dw k hk2 dw, Option.bind_some]
        have fin : ∀ f : FwdT, f.1.length ≤ 100000 → f.2.1.length = f.1.length → (∀ r ∈ f.1, r.length ≤ 5000000) → (∀ r ∈ f.2.1, r.length ≤ 5000000) → F12_2 k k a3 0 w w f q.2.2.2 = some ((), (w, w, q.2.2.2, ())) := fun f f1 f2 f3 f4 =>
          F12_2_ok k hk' a3 w w q.2.2.2 f.1.length (by omega) f.1.length k 0 f.1 f.2.1 rfl f2 (getD_le f3) (getD_le f4) (Nat.zero_add _) (by omega)
        cases hd : mkN w.2.2.2.2.1 w.2.2.2.1 N 60 with
        | none =>
          simp only [outD]
          rw [fin _ (Nat.zero_le _) rfl (fun r hr => by cases hr) (fun r hr => by cases hr), Option.bind_some]
          simp only
          rw [hw.num, F19_dw k hk2 dw, Option.bind_some, F20_dw k hk2 dw, Option.bind_some, hd]
          simp only [outD, beq_self_eq_true, cond_true]
          rw [F21_self k hk2 _ (by simp) (fun r hr => by cases hr) (by simp) (fun r hr => by cases hr), Option.bind_some]
        | some d =>
          have nd := mkN_ok dw.hs hd
          have hl := nd.len
          have hnl := nd.m.nl
          simp only [outD]
          rw [fin _ (by simp only; omega) (by simp only [List.length_map]; omega) (fun r hr => by rw [nd.rows r hr]; exact hN) (fun r hr => by
            obtain ⟨y, _, e⟩ := List.mem_map.1 hr
            rw [← e, emW_len]
            omega), Option.bind_some]
          simp only
          rw [hw.num, F19_dw k hk2 dw, Option.bind_some, F20_dw k hk2 dw, Option.bind_some, hd]
          simp only [outD, beq_self_eq_true, cond_true]
          rw [F21_nd k hk2 nd hN hsn, Option.bind_some]
    · rw [e3]; rfl
end Go.Proofs.YtgmmopbpldgpcaaE
namespace Go.Proofs.Ytgmmopbpldgpcaa.Pure
open Go.Proofs.YtgmmopbpldgpcaaE
theorem DetOwn (a0 : List (Tree (Int × (Int × Unit)))) (a1 : List Int) (a2 : List Int) (a3 : Int) : (a1.length * 8 ≤ 140737488351232) → (∀ x ∈ a1, IntKind.min .i64 ≤ x ∧ x ≤ IntKind.max .i64) → (a2.length * 8 ≤ 140737488351232) → (∀ x ∈ a2, IntKind.min .i64 ≤ x ∧ x ≤ IntKind.max .i64) → (IntKind.min .i64 ≤ a3 ∧ a3 ≤ IntKind.max .i64) → ∃ k, F12 k a0 a1 a2 a3 = some ((true, ()), ()) := by
  intros
  exact det_own a0 a1 a2 a3 (by omega)
end Go.Proofs.Ytgmmopbpldgpcaa.Pure
