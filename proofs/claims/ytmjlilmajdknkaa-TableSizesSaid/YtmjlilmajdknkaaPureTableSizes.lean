/- The plain law of TableSizes. Conditions: none. -/
import Derived.Test.YtmjlilmajdknkaaP0
set_option linter.unusedSimpArgs false
set_option linter.unusedVariables false
namespace Go.Proofs.Ytmjlilmajdknkaa.Pure
open Go.Proofs.YtmjlilmajdknkaaE
theorem F9_0_eq (k : Nat) (t : Tb) (s : Int) (hk : 1000 ≤ k) (h0 : 0 ≤ s) (h1 : s ≤ 1000000) (hl : t.2.2.1.1.length ≤ 100) (hr : ∀ r ∈ t.2.2.1.1, r.length ≤ 100) :
    F9_0 k k s 0 t = some (((s + (t.2.2.1.1.map fun r => (1 + (r.length : Int))).sum), ()), (t, ())) := by
  have h := loop_list0 (fun n i s => F9_0 k n s i t) t.2.2.1.1 (fun l s => ((s + (l.map fun r => (1 + (r.length : Int))).sum, ()), (t, ()))) (fun i s => 0 ≤ s ∧ s ≤ 1000000 + 101 * (i : Int))
    (fun n s hI => by simp only [F9_0, dnlt, cond_false, List.map_nil, List.sum_nil, Int.add_zero])
    (fun n i s hi hI => .inr ⟨s + 1 + ((t.2.2.1.1[i].length : Nat) : Int), by have := hr _ (List.getElem_mem hi); omega, by
      have := hr _ (List.getElem_mem hi)
      simp only [F9_0]
      rw [dlt hi, cond_true, if_pos (inR hi), Int.toNat_natCast, getD_lt _ _ _ hi, w64 (s + 1) (by omega) (by omega), w64 (s + 1 + _) (by omega) (by omega), wsucc i _ hi (by omega)]
      simp only [Option.bind_fun_some], by simp only [List.map_cons, List.sum_cons]; congr 2; omega⟩) k s (by omega) ⟨h0, by omega⟩
  exact h
theorem F9_1_eq (k : Nat) (t : Tb) (s : Int) (hk : 1000 ≤ k) (h0 : 0 ≤ s) (h1 : s ≤ 1000000) (hl : t.2.2.2.1.1.length ≤ 100) (hr : ∀ r ∈ t.2.2.2.1.1, r.length ≤ 100) (he : t.2.2.2.1.2.1.length = t.2.2.2.1.1.length) (hv : ∀ r ∈ t.2.2.2.1.2.1, r.length ≤ 100) :
    F9_1 k k s 0 t = some (((s + (t.2.2.2.1.1.map fun r => (1 + (r.length : Int))).sum + (t.2.2.2.1.2.1.map fun r => (1 + 3 * (r.length : Int))).sum), ()), (t, ())) := by
  have h := loop_list0 (fun n i s => F9_1 k n s i t) (t.2.2.2.1.1.zip t.2.2.2.1.2.1) (fun l s => ((s + (l.map fun p => ((1 + (p.1.length : Int)) + (1 + 3 * (p.2.length : Int)))).sum, ()), (t, ()))) (fun i s => 0 ≤ s ∧ s ≤ 1000000 + 1000 * (i : Int))
    (fun n s hI => by
      rw [List.length_zip, he, Nat.min_self]
      simp only [F9_1, dnlt, cond_false, List.map_nil, List.sum_nil, Int.add_zero])
    (fun n i s hi hI => by
      rw [List.length_zip, he, Nat.min_self] at hi
      have hi2 : i < t.2.2.2.1.2.1.length := by omega
      have g1 := hr _ (List.getElem_mem hi)
      have g2 := hv _ (List.getElem_mem hi2)
      have ez : (t.2.2.2.1.1.zip t.2.2.2.1.2.1)[i]'(by rw [List.length_zip]; omega) = (t.2.2.2.1.1[i], t.2.2.2.1.2.1[i]) := List.getElem_zip
      refine .inr ⟨s + 1 + ((t.2.2.2.1.1[i].length : Nat) : Int) + 1 + 3 * ((t.2.2.2.1.2.1[i].length : Nat) : Int), by omega, ?_, ?_⟩
      · simp only [F9_1]
        rw [dlt hi, cond_true, if_pos (inR hi), if_pos (inR hi2), Int.toNat_natCast, getD_lt _ _ _ hi, getD_lt _ _ _ hi2, w64 (s + 1) (by omega) (by omega), w64 (s + 1 + _) (by omega) (by omega), w64 (s + 1 + _ + 1) (by omega) (by omega), w64 (3 * _) (by omega) (by omega), w64 (s + 1 + _ + 1 + _) (by omega) (by omega), wsucc i _ hi (by omega)]
        simp only [Option.bind_fun_some]
      · simp only [List.map_cons, List.sum_cons, ez]
        congr 2
        omega) k s (by rw [List.length_zip]; omega) ⟨h0, by omega⟩
  rw [h]
  congr 3
  have : ∀ (a : List (List Int)) (b : List (List (List Int))), b.length = a.length → ((a.zip b).map fun p => ((1 + (p.1.length : Int)) + (1 + 3 * (p.2.length : Int)))).sum = (a.map fun r => (1 + (r.length : Int))).sum + (b.map fun r => (1 + 3 * (r.length : Int))).sum := by
    intro a
    induction a with
    | nil => intro b hb; cases b with
      | nil => rfl
      | cons y b => cases hb
    | cons x a ih => intro b hb; cases b with
      | nil => cases hb
      | cons y b =>
        have := ih b (by simpa using hb)
        simp only [List.zip_cons_cons, List.map_cons, List.sum_cons]
        omega
  rw [this _ _ he]
  omega
theorem sumN (l : List (List Int)) : (((l.flatMap encNs).length : Nat) : Int) = 8 * (l.map fun r => (1 + (r.length : Int))).sum := by
  induction l with
  | nil => rfl
  | cons a l ih =>
    rw [List.flatMap_cons, List.length_append, List.map_cons, List.sum_cons, encNs_len]
    omega
theorem sumV (l : List (List (List Int))) : (((l.flatMap encVs).length : Nat) : Int) = 8 * (l.map fun r => (1 + 3 * (r.length : Int))).sum := by
  induction l with
  | nil => rfl
  | cons a l ih =>
    rw [List.flatMap_cons, List.length_append, List.map_cons, List.sum_cons, encVs_len]
    omega
theorem TableSizes (a0 : Int) (a1 : Int) (a2 : List Int) (a3 : List Int) (a4 : List Int) : (IntKind.min .i64 ≤ a0 ∧ a0 ≤ IntKind.max .i64) → (IntKind.min .i64 ≤ a1 ∧ a1 ≤ IntKind.max .i64) → (a2.length * 8 ≤ 140737488351232) → (∀ x ∈ a2, IntKind.min .i64 ≤ x ∧ x ≤ IntKind.max .i64) → (a3.length * 8 ≤ 140737488351232) → (∀ x ∈ a3, IntKind.min .i64 ≤ x ∧ x ≤ IntKind.max .i64) → (a4.length * 8 ≤ 140737488351232) → (∀ x ∈ a4, IntKind.min .i64 ≤ x ∧ x ≤ IntKind.max .i64) → ∃ k, F9 k a0 a1 a2 a3 a4 = some ((true, ()), ()) := by
  intro _ _ _ _ _ _ _ _
  refine ⟨100010, ?_⟩
  obtain ⟨t, e, h⟩ := make_ok 100010 (Nat.le_refl _) a0 a1 a2 a3 a4
  obtain ⟨K, N, hm, k1, k2, n1, n2⟩ := h.shape
  obtain ⟨h1, h2, h3, h4, h5, h6, h7, h8, h9, h10⟩ := hm
  have hb : t.2.2.1.1.length = K := h5.1
  have hf : t.2.2.2.1.1.length = K := h9.1
  have he : t.2.2.2.1.2.1.length = K := h10.1
  have hl := save_len t
  have hlen := h.len
  have s1 := sumN t.2.2.1.1
  have s2 := sumN t.2.2.2.1.1
  have s3 := sumV t.2.2.2.1.2.1
  have hle : ((enc t).length : Int) = (8 + 8 * t.1.length) + (8 + 8 * t.2.1.length) + (8 + 8 * (t.2.2.1.1.map fun r => (1 + (r.length : Int))).sum) + (8 + 8 * t.2.2.1.2.1.length) + (8 + 8 * (t.2.2.2.1.1.map fun r => (1 + (r.length : Int))).sum) + (8 + 8 * (t.2.2.2.1.2.1.map fun r => (1 + 3 * (r.length : Int))).sum) := by
    rw [← s1, ← s2, ← s3]
    unfold enc encRs encEs
    simp only [List.length_append, encNs_len, be8_len]
    omega
  unfold F9
  rw [known_ok _ (by omega), Option.bind_some]
  simp only [Bool.not_true, cond_false]
  rw [e, Option.bind_some]
  simp only
  rw [w64 (1 + _) (by omega) (by omega), w64 (1 + _ + 1) (by omega) (by omega), w64 (1 + _ + 1 + _) (by omega) (by omega), w64 (1 + _ + 1 + _ + 1) (by omega) (by omega), w64 (1 + _ + 1 + _ + 1 + 1) (by omega) (by omega), w64 (1 + _ + 1 + _ + 1 + 1 + _) (by omega) (by omega), w64 (1 + _ + 1 + _ + 1 + 1 + _ + 1) (by omega) (by omega), w64 (1 + _ + 1 + _ + 1 + 1 + _ + 1 + 1) (by omega) (by omega), w64 (1 + _ + 1 + _ + 1 + 1 + _ + 1 + 1 + 1) (by omega) (by omega)]
  rw [F9_0_eq _ t _ (by omega) (by omega) (by omega) (by omega) (fun r hr => by have := (h5.2 r hr).1; omega), Option.bind_some]
  simp only
  rw [F9_1_eq _ t _ (by omega) (by omega) (by omega) (by omega) (fun r hr => by have := (h9.2 r hr).1; omega) (by omega) (fun r hr => by have := (h10.2 r hr).1; omega), Option.bind_some]
  simp only
  rw [F15_eq _ t h.fits, Option.bind_some]
  simp only
  rw [w64 _ (by omega) (by omega), hl]
  congr 3
  rw [beq_iff_eq]
  omega
end Go.Proofs.Ytmjlilmajdknkaa.Pure
