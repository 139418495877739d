/- The plain law of BackOwn. Conditions: none. -/
import Derived.Test.YtibammoednhnoaaP1
set_option linter.unusedSimpArgs false
set_option linter.unusedVariables false
set_option maxRecDepth 20000
namespace Go.Proofs.YtibammoednhnoaaE
theorem set_lens {α : Type} (l : List (List α)) (i j : Nat) (v : α) (d : List α) : (List.set l i (List.set (List.getD l i d) j v)).map List.length = l.map List.length := by
  refine List.ext_getElem (by simp) fun p h1 h2 => ?_
  have hp : p < l.length := by simpa using h2
  rw [List.getElem_map, List.getElem_map, List.getElem_set]
  split
  · rename_i e
    subst e
    rw [List.length_set, getD_lt _ _ _ hp]
  · rfl
theorem lens_len {α : Type} {l m : List (List α)} (h : l.map List.length = m.map List.length) : l.length = m.length := by
  have := congrArg List.length h
  simpa using this
theorem lens_get {α : Type} {l m : List (List α)} (h : l.map List.length = m.map List.length) (i : Nat) : (List.getD l i []).length = (List.getD m i []).length := by
  have := congrArg (fun q => q[i]?) h
  simp only [List.getElem?_map] at this
  rw [List.getD_eq_getElem?_getD, List.getD_eq_getElem?_getD]
  cases h1 : l[i]? <;> cases h2 : m[i]? <;> rw [h1, h2] at this <;> simp_all
theorem F11_0_ok (k : Nat) (t3 : Int) (i : Nat) (c9 c11 : WorT) (se : List (List Bool)) (R : List Int × Unit) (L : List (List Int)) (hi : i < L.length) (hn : (List.getD L i []).length ≤ 5000000) : ∀ (d m j : Nat) (nx : List (List Int)), j + d = (List.getD L i []).length → d < m → nx.map List.length = L.map List.length →
    ∃ nx', F11_0 k m t3 (i : Int) (j : Int) c9 c11 (nx, R) se = some ((t3, (i : Int), ()), (c9, c11, (nx', R), se, ())) ∧ nx'.map List.length = L.map List.length
  | 0, m, j, nx, hj, hm, hl => by
    obtain ⟨m, rfl⟩ := pos1 (m := m) (by omega)
    have h1 : i < nx.length := by rw [lens_len hl]; exact hi
    have h2 := lens_get hl i
    refine ⟨nx, ?_, hl⟩
    simp only [F11_0]
    rw [if_pos (inR h1), tnI, decide_eq_false (by omega), cond_false]
  | d + 1, m, j, nx, hj, hm, hl => by
    obtain ⟨m, rfl⟩ := pos1 (m := m) (by omega)
    have h1 : i < nx.length := by rw [lens_len hl]; exact hi
    have h2 := lens_get hl i
    have h3 : j < (List.getD nx i []).length := by omega
    obtain ⟨nx', e, h⟩ := F11_0_ok k t3 i c9 c11 se R L hi hn d m (j + 1) (List.set nx i (List.set (List.getD nx i []) j t3)) (by omega) (by omega) (by rw [set_lens]; exact hl)
    refine ⟨nx', ?_, h⟩
    simp only [F11_0]
    rw [if_pos (inR h1), tnI, dlt h3, cond_true, if_pos (inR h1), if_pos (inR h3), tnI, wsucc j _ h3 (by omega), e]
    rfl
theorem F11_1_ok (k : Nat) (hk : 10000000 ≤ k) (t3 : Int) (c9 c11 : WorT) (se : List (List Bool)) (R : List Int × Unit) (L : List (List Int)) (hn : ∀ r ∈ L, r.length ≤ 5000000) (hL : L.length ≤ 1000000) : ∀ (d m i : Nat) (nx : List (List Int)), i + d = L.length → d < m → nx.map List.length = L.map List.length →
    F11_1 k m t3 (i : Int) c9 c11 (nx, R) se = some ((), (c9, c11, se, ()))
  | 0, m, i, nx, hi, hm, hl => by
    obtain ⟨m, rfl⟩ := pos1 (m := m) (by omega)
    have := lens_len hl
    simp only [F11_1]
    rw [decide_eq_false (by omega), cond_false]
  | d + 1, m, i, nx, hi, hm, hl => by
    obtain ⟨m, rfl⟩ := pos1 (m := m) (by omega)
    have h0 := lens_len hl
    have hlt : i < nx.length := by omega
    have hiL : i < L.length := by omega
    have hni : (List.getD L i []).length ≤ 5000000 := by rw [getD_lt _ _ _ hiL]; exact hn _ (List.getElem_mem hiL)
    obtain ⟨nx', e, h⟩ := F11_0_ok k t3 i c9 c11 se R L hiL hni (List.getD L i []).length k 0 nx (Nat.zero_add _) (by omega) hl
    rw [show ((0 : Nat) : Int) = 0 from rfl] at e
    simp only [F11_1]
    rw [dlt hlt, cond_true, e, Option.bind_some]
    simp only
    rw [wsucc i _ hlt (by omega), F11_1_ok k hk t3 c9 c11 se R L hn hL d m (i + 1) nx' (by omega) (by omega) h]
    rfl
theorem F11_2_ok (k : Nat) (i : Nat) (c9 c11 : WorT) (L : List (List Bool)) (hi : i < L.length) (hn : (List.getD L i []).length ≤ 5000000) : ∀ (d m j : Nat) (nx : List (List Bool)), j + d = (List.getD L i []).length → d < m → nx.map List.length = L.map List.length →
    ∃ nx', F11_2 k m (i : Int) (j : Int) c9 c11 nx = some (((i : Int), ()), (c9, c11, nx', ())) ∧ nx'.map List.length = L.map List.length
  | 0, m, j, nx, hj, hm, hl => by
    obtain ⟨m, rfl⟩ := pos1 (m := m) (by omega)
    have h1 : i < nx.length := by rw [lens_len hl]; exact hi
    have h2 := lens_get hl i
    refine ⟨nx, ?_, hl⟩
    simp only [F11_2]
    rw [if_pos (inR h1), tnI, decide_eq_false (by omega), cond_false]
  | d + 1, m, j, nx, hj, hm, hl => by
    obtain ⟨m, rfl⟩ := pos1 (m := m) (by omega)
    have h1 : i < nx.length := by rw [lens_len hl]; exact hi
    have h2 := lens_get hl i
    have h3 : j < (List.getD nx i []).length := by omega
    obtain ⟨nx', e, h⟩ := F11_2_ok k i c9 c11 L hi hn d m (j + 1) (List.set nx i (List.set (List.getD nx i []) j (!(List.getD (List.getD nx i []) j false)))) (by omega) (by omega) (by rw [set_lens]; exact hl)
    refine ⟨nx', ?_, h⟩
    simp only [F11_2]
    rw [if_pos (inR h1), tnI, dlt h3, cond_true, if_pos (inR h1), if_pos (inR h1), if_pos (inR h3), tnI, if_pos (inR h3), wsucc j _ h3 (by omega), e]
    rfl
theorem F11_3_ok (k : Nat) (hk : 10000000 ≤ k) (c9 c11 : WorT) (L : List (List Bool)) (hn : ∀ r ∈ L, r.length ≤ 5000000) (hL : L.length ≤ 1000000) : ∀ (d m i : Nat) (nx : List (List Bool)), i + d = L.length → d < m → nx.map List.length = L.map List.length →
    F11_3 k m (i : Int) c9 c11 nx = some ((), (c9, c11, ()))
  | 0, m, i, nx, hi, hm, hl => by
    obtain ⟨m, rfl⟩ := pos1 (m := m) (by omega)
    have := lens_len hl
    simp only [F11_3]
    rw [decide_eq_false (by omega), cond_false]
  | d + 1, m, i, nx, hi, hm, hl => by
    obtain ⟨m, rfl⟩ := pos1 (m := m) (by omega)
    have h0 := lens_len hl
    have hlt : i < nx.length := by omega
    have hiL : i < L.length := by omega
    have hni : (List.getD L i []).length ≤ 5000000 := by rw [getD_lt _ _ _ hiL]; exact hn _ (List.getElem_mem hiL)
    obtain ⟨nx', e, h⟩ := F11_2_ok k i c9 c11 L hiL hni (List.getD L i []).length k 0 nx (Nat.zero_add _) (by omega) hl
    rw [show ((0 : Nat) : Int) = 0 from rfl] at e
    simp only [F11_3]
    rw [dlt hlt, cond_true, e, Option.bind_some]
    simp only
    rw [wsucc i _ hlt (by omega), F11_3_ok k hk c9 c11 L hn hL d m (i + 1) nx' (by omega) (by omega) h]
    rfl
theorem F26_0_self (k : Nat) (l : List Int) (hl : l.length ≤ 5000000) : ∀ (d m i : Nat), i + d = l.length → d < m → F26_0 k m l l (i : Int) = some (.inl ((), ()))
  | 0, m, i, hi, hm => by
    obtain ⟨m, rfl⟩ := pos1 (m := m) (by omega)
    simp only [F26_0]
    rw [decide_eq_false (by omega), cond_false]
  | d + 1, m, i, hi, hm => by
    obtain ⟨m, rfl⟩ := pos1 (m := m) (by omega)
    have hlt : i < l.length := by omega
    simp only [F26_0]
    rw [dlt hlt, cond_true, if_pos (inR hlt), if_pos (inR hlt)]
    simp only [bne_self_eq_false, cond_false]
    rw [wsucc i _ hlt (by omega), F26_0_self k l hl d m (i + 1) (by omega) (by omega)]
    rfl
theorem F26_self (k : Nat) (l : List Int) (hk : 10000000 ≤ k) (hl : l.length ≤ 5000000) : F26 k l l = some ((true, ()), ()) := by
  have e := F26_0_self k l hl l.length k 0 (Nat.zero_add _) (by omega)
  rw [show ((0 : Nat) : Int) = 0 from rfl] at e
  unfold F26
  simp only [bne_self_eq_false, cond_false]
  rw [e, Option.bind_some]
theorem back_own (a0 : List RawT) (a1 a2 : List Int) (a3 : Int) (h1 : a1.length ≤ 100000000000000) : ∃ k, F11 k a0 a1 a2 a3 = some ((true, ()), ()) := by
  refine ⟨20000000, ?_⟩
  generalize hk : (20000000 : Nat) = k
  have hk' : 20000000 ≤ k := by omega
  unfold F11
  rw [F12_known k (by omega), Option.bind_some]
  simp only [Bool.not_true, cond_false]
  rcases start9 k hk' a0 a1 a2 h1 with e | ⟨e, ⟨w, e2⟩ | ⟨w, N, M, e2, hw⟩⟩
  · rw [e]; rfl
  · rw [e, Option.bind_some]
    simp only [Bool.not_true, cond_false]
    rw [e2]; rfl
  · rw [e, Option.bind_some]
    simp only [Bool.not_true, cond_false]
    rw [e2, Option.bind_some, Option.bind_some]
    simp only [Bool.not_true, cond_false]
    have hN := hw.le
    have hnr := hw.nr
    have hn4 := hw.nrules
    have hcl := hw.cl
    rw [hw.num, F16_mk k _ N M _ hk' hw.right (by omega) hN, Option.bind_some]
    have key : ∃ r : BackT × (List (List Bool)) × Int × Unit, outA (mkM w.2.2.2.1 w.2.2.2.2.2.1 N 40) = r ∧ (∀ x ∈ r.1.1, x.length ≤ 5000000) ∧ r.1.1.length ≤ 1000000 ∧ r.1.2.1.length ≤ 1000000 ∧ (∀ x ∈ r.2.1, x.length ≤ 5000000) ∧ r.2.1.length ≤ 1000000 := by
      cases hq : mkM w.2.2.2.1 w.2.2.2.2.2.1 N 40 with
      | none => exact ⟨_, rfl, fun x h => (by cases h), (by simp [outA]), (by simp [outA]), fun x h => (by cases h), (by simp [outA])⟩
      | some q =>
        have mw := mkM_ok hq
        obtain ⟨s1, s2, s3, s4, s5⟩ := mw.small (by omega) (by omega)
        exact ⟨_, rfl, s1, s2, s3, fun x h => (by rw [s5 x h]; omega), s4⟩
    obtain ⟨r, hr, r1, r2, r3, r4, r5⟩ := key
    have e3 := F16_mk k w.2.2.2.1 N M _ hk' hw.right (by omega) hN 40
    have e4 := F17_mk k w.2.2.2.1 N M _ hk' hw.right (by omega) hN 40
    rw [hr] at e3 e4 ⊢
    have f1 := F11_1_ok k (by omega) a3 w w r.2.1 r.1.2 r.1.1 r1 r2 r.1.1.length k 0 r.1.1 (Nat.zero_add _) (by omega) rfl
    have f2 := F11_3_ok k (by omega) w w r.2.1 r4 r5 r.2.1.length k 0 r.2.1 (Nat.zero_add _) (by omega) rfl
    rw [show ((0 : Nat) : Int) = 0 from rfl] at f1 f2
    rw [show F11_1 k k a3 0 w w r.1 r.2.1 = _ from f1, Option.bind_some]
    simp only
    rw [f2, Option.bind_some]
    simp only
    rw [hw.num, e3, Option.bind_some, e4, Option.bind_some]
    simp only [BEq.rfl, cond_true]
    rw [F18_self k _ (by omega) r2 r1 r3, Option.bind_some]
    simp only [cond_true]
    rw [F19_self k _ (by omega) r5 r4, Option.bind_some]
    simp only [cond_true]
    rw [F26_self k _ (by omega) (by omega), Option.bind_some]
    simp only [cond_true]
    rw [F19_self k _ (by omega) hw.il hw.ir, Option.bind_some]
end Go.Proofs.YtibammoednhnoaaE
namespace Go.Proofs.Ytibammoednhnoaa.Pure
open Go.Proofs.YtibammoednhnoaaE
theorem BackOwn (a0 : List (Tree (Int × (Int × Unit)))) (a1 : List Int) (a2 : List Int) (a3 : Int) : (a1.length * 8 ≤ 140737488351232) → (∀ x ∈ a1, IntKind.min .i64 ≤ x ∧ x ≤ IntKind.max .i64) → (a2.length * 8 ≤ 140737488351232) → (∀ x ∈ a2, IntKind.min .i64 ≤ x ∧ x ≤ IntKind.max .i64) → (IntKind.min .i64 ≤ a3 ∧ a3 ≤ IntKind.max .i64) → ∃ k, F11 k a0 a1 a2 a3 = some ((true, ()), ()) := by
  intros
  exact back_own a0 a1 a2 a3 (by omega)
end Go.Proofs.Ytibammoednhnoaa.Pure
