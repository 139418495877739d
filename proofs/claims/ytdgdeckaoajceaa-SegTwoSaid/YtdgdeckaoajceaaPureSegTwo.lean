/- The plain law of SegTwo. Conditions: none. -/
import Derived.Test.YtdgdeckaoajceaaP0
set_option linter.unusedSimpArgs false
set_option linter.unusedVariables false
namespace Go.Proofs.YtdgdeckaoajceaaE
open Go.Proofs.YtdgdeckaoajceaaU (scal offs encL str Scalars scal_encL)
theorem sg_two (t : Tb) (a b : Int) : sg t [a, b] =
    [List.getD (List.getD t.2.2.2.1.2.1 (Int.toNat 0) []) (Int.toNat (List.getD t.2.2.1.2.1 (Int.toNat (lk t.2.2.1.1 (lk t.2.2.1.1 0 b) a)) 0)) [],
     List.getD (List.getD t.2.2.2.1.2.1 (Int.toNat (lk t.2.2.2.1.1 0 a)) []) (Int.toNat (List.getD t.2.2.1.2.1 (Int.toNat (lk t.2.2.1.1 0 b)) 0)) [],
     List.getD (List.getD t.2.2.2.1.2.1 (Int.toNat (lk t.2.2.2.1.1 (lk t.2.2.2.1.1 0 a) b)) []) (Int.toNat (List.getD t.2.2.1.2.1 (Int.toNat 0) 0)) []] := rfl
theorem seg_two (a0 a1 : Int) (a2 a3 a4 : List Int) (a5 a6 : Int) : ∃ k, F8 k a0 a1 a2 a3 a4 a5 a6 = some ((true, ()), ()) := by
  obtain ⟨k, hk, h15⟩ := start
  refine ⟨k, ?_⟩
  obtain ⟨t, e16, hm⟩ := F16_ok k a0 a1 a2 a3 a4 (by omega)
  obtain ⟨k1, k2, _⟩ := kst_range a0
  have ea := F24_eq k a5 55296 (by omega) (by omega)
  have eb := F24_eq k a6 55296 (by omega) (by omega)
  obtain ⟨p, hp, hp2⟩ := mod_nat a5 55296 (by omega)
  obtain ⟨q, hq, hq2⟩ := mod_nat a6 55296 (by omega)
  rw [hp] at ea
  rw [hq] at eb
  have hv : Scalars [(p : Int), (q : Int)] := fun x hx => by
    simp only [List.mem_cons, List.not_mem_nil, or_false] at hx
    rcases hx with rfl | rfl
    · exact (Go.Proofs.YtdgdeckaoajceaaU.valid_int _).2 (by omega)
    · exact (Go.Proofs.YtdgdeckaoajceaaU.valid_int _).2 (by omega)
  have bl := (Go.Proofs.YtdgdeckaoajceaaU.encL_length [(p : Int), (q : Int)]).2
  have f1 := F18_eq k t hm k1 k2 (str (encL [(p : Int), (q : Int)])) (by rw [Go.Proofs.YtdgdeckaoajceaaU.str_size]; simp only [List.length_cons, List.length_nil] at bl; omega) hk
  have el : lts t (str (encL [(p : Int), (q : Int)])) = [ltr t.1 t.2.1 p, ltr t.1 t.2.1 q] := by
    unfold lts
    rw [scal_encL _ hv]
    rfl
  obtain ⟨h1, h2, h3, h4, h5, h6, h7, h8, h9, h10⟩ := hm
  have r1 := ltr_range t.1 t.2.1 p h1 (by omega) h2 (by omega) h4
  have r2 := ltr_range t.1 t.2.1 q h1 (by omega) h2 (by omega) h4
  have c1 := F28_eq k t.1 t.2.1 p h1 (by omega) h2 (by omega) (by omega)
  have c2 := F28_eq k t.1 t.2.1 q h1 (by omega) h2 (by omega) (by omega)
  rw [el, sg_two] at f1
  generalize ltr t.1 t.2.1 (p : Int) = la at *
  generalize ltr t.1 t.2.1 (q : Int) = lb at *
  have n1 := NextP_lk h5 (q := 0) (by omega) (by omega) r2.1 r2.2
  have n2 := NextP_lk h5 n1.1 n1.2 r1.1 r1.2
  have n3 := NextP_lk h9 (q := 0) (by omega) (by omega) r1.1 r1.2
  have n4 := NextP_lk h9 n3.1 n3.2 r2.1 r2.2
  have w1 := NextP_row h5 (q := 0) (by omega) (by omega)
  have w2 := NextP_row h5 n1.1 n1.2
  have w3 := NextP_row h9 (q := 0) (by omega) (by omega)
  have w4 := NextP_row h9 n3.1 n3.2
  have lb5 := h5.1
  have lb9 := h9.1
  have lb10 := h10.1
  have o0 := h7 _ (getD_mem (d := 0) (show Int.toNat 0 < t.2.2.1.2.1.length by omega))
  have o1 := h7 _ (getD_mem (d := 0) (show Int.toNat (lk t.2.2.1.1 0 lb) < t.2.2.1.2.1.length by omega))
  have o2 := h7 _ (getD_mem (d := 0) (show Int.toNat (lk t.2.2.1.1 (lk t.2.2.1.1 0 lb) la) < t.2.2.1.2.1.length by omega))
  have m0 := EmP_row h10 (q := 0) (by omega) (by omega)
  have m1 := EmP_row h10 n3.1 n3.2
  have m2 := EmP_row h10 n4.1 n4.2
  unfold F8
  rw [h15, Option.bind_some]
  simp only
  rw [Bool.not_true, cond_false, e16, Option.bind_some]
  simp only
  rw [ea, Option.bind_some]
  simp only
  rw [eb, Option.bind_some]
  simp only
  rw [c1, Option.bind_some, c2, Option.bind_some]
  simp only
  rw [set2, F26_eq k _ (by simp) (by simp; omega), Option.bind_some]
  simp only
  rw [f1, Option.bind_some]
  simp only
  rw [show List.getD (List.getD t.2.2.1.1 (Int.toNat 0) []) (Int.toNat lb) 0 = lk t.2.2.1.1 0 lb from rfl]
  rw [show List.getD (List.getD t.2.2.1.1 (Int.toNat (lk t.2.2.1.1 0 lb)) []) (Int.toNat la) 0 = lk t.2.2.1.1 (lk t.2.2.1.1 0 lb) la from rfl]
  rw [show List.getD (List.getD t.2.2.2.1.1 (Int.toNat 0) []) (Int.toNat la) 0 = lk t.2.2.2.1.1 0 la from rfl]
  rw [show List.getD (List.getD t.2.2.2.1.1 (Int.toNat (lk t.2.2.2.1.1 0 la)) []) (Int.toNat lb) 0 = lk t.2.2.2.1.1 (lk t.2.2.2.1.1 0 la) lb from rfl]
  rw [if_pos (by omega), if_pos (by omega), if_pos (by omega), if_pos (by omega), if_pos (by omega), if_pos (by omega), if_pos (by omega), if_pos (by omega)]
  obtain ⟨v0, hv0⟩ : ∃ v, List.getD (List.getD t.2.2.2.1.2.1 (Int.toNat 0) []) (Int.toNat (List.getD t.2.2.1.2.1 (Int.toNat (lk t.2.2.1.1 (lk t.2.2.1.1 0 lb) la)) 0)) [] = v := ⟨_, rfl⟩
  obtain ⟨v1, hv1⟩ : ∃ v, List.getD (List.getD t.2.2.2.1.2.1 (Int.toNat (lk t.2.2.2.1.1 0 la)) []) (Int.toNat (List.getD t.2.2.1.2.1 (Int.toNat (lk t.2.2.1.1 0 lb)) 0)) [] = v := ⟨_, rfl⟩
  obtain ⟨v2, hv2⟩ : ∃ v, List.getD (List.getD t.2.2.2.1.2.1 (Int.toNat (lk t.2.2.2.1.1 (lk t.2.2.2.1.1 0 la) lb)) []) (Int.toNat (List.getD t.2.2.1.2.1 (Int.toNat 0) 0)) [] = v := ⟨_, rfl⟩
  rw [hv0, hv1, hv2]
  rw [beq_self_eq_true, cond_true, show ((([v0, v1, v2].length : Nat) : Int) == 3) = true from rfl, cond_true, if_pos (by simp), if_pos (by omega), if_pos (by omega), if_pos (by omega), show (List.getD [v0, v1, v2] (Int.toNat 0) [] == v0) = true from beq_self_eq_true v0, cond_true, if_pos (by simp), if_pos (by omega), if_pos (by omega), if_pos (by omega), show (List.getD [v0, v1, v2] (Int.toNat 1) [] == v1) = true from beq_self_eq_true v1, cond_true, if_pos (by simp), if_pos (by omega), if_pos (by omega), if_pos (by omega), show (List.getD [v0, v1, v2] (Int.toNat 2) [] == v2) = true from beq_self_eq_true v2]
end Go.Proofs.YtdgdeckaoajceaaE
namespace Go.Proofs.Ytdgdeckaoajceaa.Pure
open Go.Proofs.YtdgdeckaoajceaaE
theorem SegTwo (a0 : Int) (a1 : Int) (a2 : List Int) (a3 : List Int) (a4 : List Int) (a5 : Int) (a6 : Int) : (IntKind.min .i64 ≤ a0 ∧ a0 ≤ IntKind.max .i64) → (IntKind.min .i64 ≤ a1 ∧ a1 ≤ IntKind.max .i64) → (a2.length * 8 ≤ 140737488351232) → (∀ x ∈ a2, IntKind.min .i64 ≤ x ∧ x ≤ IntKind.max .i64) → (a3.length * 8 ≤ 140737488351232) → (∀ x ∈ a3, IntKind.min .i64 ≤ x ∧ x ≤ IntKind.max .i64) → (a4.length * 8 ≤ 140737488351232) → (∀ x ∈ a4, IntKind.min .i64 ≤ x ∧ x ≤ IntKind.max .i64) → (IntKind.min .i64 ≤ a5 ∧ a5 ≤ IntKind.max .i64) → (IntKind.min .i64 ≤ a6 ∧ a6 ≤ IntKind.max .i64) → ∃ k, F8 k a0 a1 a2 a3 a4 a5 a6 = some ((true, ()), ()) := by
  intros
  exact seg_two a0 a1 a2 a3 a4 a5 a6
end Go.Proofs.Ytdgdeckaoajceaa.Pure
