/- Plain laws. Conditions: none. -/
import Derived.Test.YtgojfdimbciaiaaP0
set_option linter.unusedSimpArgs false
set_option linter.unusedVariables false
set_option maxRecDepth 20000
namespace Go.Proofs.YtgojfdimbciaiaaE
theorem F19_0_ok {n : Nat} (k : Nat) (s : SideT) (t1 : Int) (hf : s.2.1.length = n) (hn : n ≤ 20000) : ∀ (e m i : Nat) (acc : List Int), i + e = n → e < m → acc.length ≤ i → (∀ x ∈ acc, ∃ v : Nat, x = (v : Int) ∧ v < i ∧ StS n s.2.1 v) → (∀ v, v < i → StS n s.2.1 v → ((v : Nat) : Int) ∈ acc) →
    ∃ acc', F19_0 k m t1 s.2.1 ((s.2.1.length : Nat) : Int) (i : Int) s acc = some ((t1, ()), (s, acc', ())) ∧ acc'.length ≤ n ∧ (∀ x ∈ acc', ∃ v : Nat, x = (v : Int) ∧ v < n ∧ StS n s.2.1 v) ∧ (∀ v, v < n → StS n s.2.1 v → ((v : Nat) : Int) ∈ acc')
  | 0, m, i, acc, hi, hm, h1, h2, h3 => by
    obtain ⟨m, rfl⟩ : ∃ m', m = m' + 1 := ⟨m - 1, by omega⟩
    obtain rfl : i = n := by omega
    refine ⟨acc, ?_, h1, h2, h3⟩
    simp only [F19_0]
    rw [decide_eq_false (by omega), cond_false]
  | e + 1, m, i, acc, hi, hm, h1, h2, h3 => by
    obtain ⟨m, rfl⟩ : ∃ m', m = m' + 1 := ⟨m - 1, by omega⟩
    have hlt : i < n := by omega
    have wi : IntKind.wrap .i64 ((i : Int) + 1) = ((i + 1 : Nat) : Int) := by rw [w64 _ (by omega) (by omega)]; omega
    have q1 : (0 : Int) ≤ (i : Int) ∧ (i : Int) < ((s.2.1.length : Nat) : Int) := by omega
    have q2 : (acc.length + [((i : Nat) : Int)].length) * (8 * 2) ≤ 281474976710656 ∧ acc.length + [((i : Nat) : Int)].length ≤ 9223372036854775807 := by rw [List.length_singleton]; omega
    simp only [F19_0, one_list]
    rw [decide_eq_true (by omega), cond_true, if_pos q1, show Int.toNat (i : Int) = i from rfl, wi]
    by_cases g : List.getD s.2.1 i 0 < 1152921504606846976
    · obtain ⟨acc', e1, h⟩ := F19_0_ok k s t1 hf hn e m (i + 1) (acc ++ [((i : Nat) : Int)]) (by omega) (by omega) (by simp; omega) (fun x hx => by
        rcases List.mem_append.1 hx with q | q
        · obtain ⟨v, v1, v2, v3⟩ := h2 x q
          exact ⟨v, v1, by omega, v3⟩
        · exact ⟨i, List.mem_singleton.1 q, by omega, hlt, g⟩) (fun v hv hs => by
        by_cases ev : v = i
        · subst ev; exact List.mem_append_right _ (List.mem_singleton.2 rfl)
        · exact List.mem_append_left _ (h3 v (by omega) hs))
      refine ⟨acc', ?_, h⟩
      rw [decide_eq_true g, cond_true, if_pos q2, e1]
      rfl
    · obtain ⟨acc', e1, h⟩ := F19_0_ok k s t1 hf hn e m (i + 1) acc (by omega) (by omega) (by omega) (fun x hx => by
        obtain ⟨v, v1, v2, v3⟩ := h2 x hx
        exact ⟨v, v1, by omega, v3⟩) (fun v hv hs => by
        by_cases ev : v = i
        · subst ev; exact absurd hs.2 g
        · exact h3 v (by omega) hs)
      refine ⟨acc', ?_, h⟩
      rw [decide_eq_false g, cond_false, e1]
      rfl
theorem asI_len (l : List Nat) : (asI l).length = l.length := by simp [asI]
theorem F19_ok {n : Nat} (k : Nat) (s : SideT) (t : Nat) (nx : List (List Int)) (hk : 10000000 ≤ k) (hn : n ≤ 120) (hls : s.1.length = n) (hlf : s.2.1.length = n) (hl : ArcsP n s.2.2.2.1) (hs : s.2.2.2.1.length ≤ 20000) (e32 : F32 k s = some (((nx, ()), ()), ())) (hg : GrP n s.2.2.2.1 nx) (ht : t < n) :
    ∃ l b, F19 k s (t : Int) = some ((l, b, ()), ()) ∧ ((l = [] ∧ b = false ∧ ∀ m, ¬ Wlk nx (StS n s.2.1) m t) ∨ (b = true ∧ ∃ js : List Nat, l = (asI (t :: js)).reverse ∧ Bk nx (StS n s.2.1) (t :: js) ∧ (∀ u ∈ t :: js, u < n) ∧ js.length < n ∧ ∀ m, Wlk nx (StS n s.2.1) m t → js.length ≤ m)) := by
  obtain ⟨acc, e0, h1, h2, h3⟩ := F19_0_ok k s (t : Int) hlf (by omega) n k 0 [] (by omega) (by omega) (Nat.le_refl _) (fun x hx => by cases hx) (fun v hv => by omega)
  rw [show ((0 : Nat) : Int) = 0 from rfl] at e0
  have hst : (fun v : Nat => ((v : Nat) : Int) ∈ acc) = StS n s.2.1 := by
    funext v
    apply propext
    constructor
    · intro h
      obtain ⟨u, u1, u2, u3⟩ := h2 _ h
      have : v = u := by omega
      rw [this]; exact u3
    · intro h
      exact h3 v h.1 h
  obtain ⟨w, w', l, e33, e34, hh⟩ := walks_ok k n nx acc t (gr_nx hg hl hs) (fun x hx => by
    obtain ⟨v, v1, v2, _⟩ := h2 x hx
    omega) h1 ht (by omega) hk
  rw [hst] at hh
  rcases hh with ⟨rfl, hno⟩ | ⟨js, hl2, hb, hu, hjl, hmin⟩
  · refine ⟨[], false, ?_, .inl ⟨rfl, rfl, hno⟩⟩
    unfold F19
    simp only
    rw [decide_eq_false (show ¬ (t : Int) < 0 by omega), cond_false, decide_eq_false (show ¬ (t : Int) ≥ ((s.1.length : Nat) : Int) by omega), cond_false, e0, Option.bind_some]
    simp only
    rw [e32, Option.bind_some]
    simp only
    rw [e33, Option.bind_some]
    simp only
    rw [e34, Option.bind_some]
    simp only
    rw [show (!List.isEmpty ([] : List Int)) = false from rfl, cond_false, F35_eq k [] (by simp), Option.bind_some]
  · refine ⟨l, true, ?_, .inr ⟨rfl, js, hl2, hb, hu, hjl, hmin⟩⟩
    have hll : l.length = js.length + 1 := by rw [hl2, List.length_reverse, asI_len, List.length_cons]
    have hne : (!List.isEmpty l) = true := by
      cases l with
      | nil => simp at hll
      | cons a l => rfl
    unfold F19
    simp only
    rw [decide_eq_false (show ¬ (t : Int) < 0 by omega), cond_false, decide_eq_false (show ¬ (t : Int) ≥ ((s.1.length : Nat) : Int) by omega), cond_false, e0, Option.bind_some]
    simp only
    rw [e32, Option.bind_some]
    simp only
    rw [e33, Option.bind_some]
    simp only
    rw [e34, Option.bind_some]
    simp only
    rw [hne, cond_true, F35_eq k l (by omega), Option.bind_some]
    simp only
    rw [if_pos (show ((l.length : Nat) : Int) ≠ 0 by omega)]
end Go.Proofs.YtgojfdimbciaiaaE
