/- The plain law of SegLetters. Conditions: none. -/
import Derived.Test.YtdgdeckaoajceaaP0
set_option linter.unusedSimpArgs false
set_option linter.unusedVariables false
namespace Go.Proofs.YtdgdeckaoajceaaE
open Go.Proofs.YtdgdeckaoajceaaU (scal offs encL str Scalars scal_encL)
theorem F6_0_eq {K N : Nat} (k : Nat) (t : Tb) (hm : MakeP K N t) (hk : 100010 ≤ k) (l : List Int) (hv : Scalars l) (hl : l.length ≤ 1000) (a6 : Int) : ∀ (d n i : Nat) (y : List Int), i + d = l.length → d < n → y.length = l.length → Scalars y → y.map (ltr t.1 t.2.1) = l.map (ltr t.1 t.2.1) →
    ∃ y' : List Int, F6_0 k n a6 (i : Int) t y l = some ((), (t, y', l, ())) ∧ y'.length = l.length ∧ Scalars y' ∧ y'.map (ltr t.1 t.2.1) = l.map (ltr t.1 t.2.1)
  | 0, n, i, y, hi, hn, h1, h2, h3 => by
    obtain ⟨n, rfl⟩ : ∃ m, n = m + 1 := ⟨n - 1, by omega⟩
    refine ⟨y, ?_, h1, h2, h3⟩
    simp only [F6_0]
    rw [decide_eq_false (by omega), cond_false]
  | d + 1, n, i, y, hi, hn, h1, h2, h3 => by
    obtain ⟨n, rfl⟩ : ∃ m, n = m + 1 := ⟨n - 1, by omega⟩
    have hlt : i < y.length := by omega
    have hwi : IntKind.wrap .i64 ((i : Int) + 1) = ((i + 1 : Nat) : Int) := by rw [w64 _ (by omega) (by omega)]; omega
    have e24 := F24_eq k (IntKind.wrap .i64 (a6 + (IntKind.wrap .i64 ((i : Int) * (i : Int))))) 1114112 (by omega) (by omega)
    simp only [F6_0, hwi]
    rw [dlt hlt, cond_true, e24, Option.bind_some]
    simp only
    generalize IntKind.wrap .i64 (a6 + (IntKind.wrap .i64 ((i : Int) * (i : Int)))) % 1114112 = m
    rw [F27_eq, Option.bind_some]
    simp only
    cases hm1 : Utf8.valid m with
    | false =>
      rw [cond_false]
      obtain ⟨y', e, h⟩ := F6_0_eq k t hm hk l hv hl a6 d n (i + 1) y (by omega) (by omega) h1 h2 h3
      exact ⟨y', by rw [e, Option.bind_some], h⟩
    | true =>
      have hm0 := (Go.Proofs.YtdgdeckaoajceaaU.valid_int m).1 hm1
      have hy0 := (Go.Proofs.YtdgdeckaoajceaaU.valid_int y[i]).1 (h2 _ (List.getElem_mem hlt))
      have g1 := hm.1
      have g2 := hm.2.1
      have g3 := hm.2.2.1
      rw [cond_true, if_pos (inR hlt), F28_eq k t.1 t.2.1 m g1 (by omega) g2 (by omega) (by omega), Option.bind_some, Int.toNat_natCast, getD_lt _ _ _ hlt, F28_eq k t.1 t.2.1 y[i] g1 (by omega) g2 (by omega) (by omega), Option.bind_some]
      simp only
      cases hq : (ltr t.1 t.2.1 m == ltr t.1 t.2.1 y[i]) with
      | false =>
        rw [cond_false]
        obtain ⟨y', e, h⟩ := F6_0_eq k t hm hk l hv hl a6 d n (i + 1) y (by omega) (by omega) h1 h2 h3
        exact ⟨y', by rw [e, Option.bind_some], h⟩
      | true =>
        have hq := beq_iff_eq.1 hq
        rw [cond_true, if_pos (inR hlt)]
        obtain ⟨y', e, h⟩ := F6_0_eq k t hm hk l hv hl a6 d n (i + 1) (List.set y i m) (by omega) (by omega) (by simp [h1]) (fun x hx => by
          rcases List.mem_or_eq_of_mem_set hx with hx | rfl
          · exact h2 x hx
          · exact hm1) (by
          rw [List.map_set, hq, ← h3]
          have : ltr t.1 t.2.1 y[i] = (y.map (ltr t.1 t.2.1))[i]'(by simpa using hlt) := by simp
          rw [this, List.set_getElem_self])
        exact ⟨y', by rw [e, Option.bind_some], h⟩
theorem seg_letters (a0 a1 : Int) (a2 a3 a4 a5 : List Int) (a6 : Int) : ∃ k, F6 k a0 a1 a2 a3 a4 a5 a6 = some ((true, ()), ()) := by
  obtain ⟨k, hk, h15⟩ := start
  refine ⟨k, ?_⟩
  obtain ⟨t, e16, hm⟩ := F16_ok k a0 a1 a2 a3 a4 (by omega)
  obtain ⟨k1, k2, _⟩ := kst_range a0
  obtain ⟨s, e17, hr, hr2⟩ := F17_ok k a5 [] (by omega) (by simp)
  rw [List.length_nil] at hr hr2
  have hsl := scal_len s
  obtain ⟨y, e, y1, y2, y3⟩ := F6_0_eq k t hm hk (scal s) (scal_valid s) (by omega) a6 (scal s).length k 0 (scal s) (by omega) (by omega) rfl (scal_valid s) rfl
  have el : ∀ l : List Int, Scalars l → lts t (str (encL l)) = l.map (ltr t.1 t.2.1) := fun l h => by
    unfold lts
    rw [scal_encL _ h]
  have b1 := (Go.Proofs.YtdgdeckaoajceaaU.encL_length (scal s)).2
  have b2 := (Go.Proofs.YtdgdeckaoajceaaU.encL_length y).2
  have f1 := F18_eq k t hm k1 k2 (str (encL (scal s))) (by rw [Go.Proofs.YtdgdeckaoajceaaU.str_size]; omega) hk
  have f2 := F18_eq k t hm k1 k2 (str (encL y)) (by rw [Go.Proofs.YtdgdeckaoajceaaU.str_size]; omega) hk
  rw [el _ (scal_valid s)] at f1
  rw [el _ y2, y3] at f2
  rw [show ((0 : Nat) : Int) = 0 from rfl] at e
  unfold F6
  rw [h15, Option.bind_some]
  simp only
  rw [Bool.not_true, cond_false, e16, Option.bind_some]
  simp only
  rw [e17, Option.bind_some]
  simp only
  rw [F20_eq k s (by omega) (by omega), Option.bind_some]
  simp only
  rw [if_pos (by simp only [List.replicate_zero, List.length_nil]; omega), show List.replicate 0 (0 : Int) ++ scal s = scal s from rfl, e, Option.bind_some]
  simp only
  rw [F26_eq k _ (by omega) (by omega), Option.bind_some]
  simp only
  rw [f1, Option.bind_some, F26_eq k _ (by omega) (by omega), Option.bind_some]
  simp only
  rw [f2, Option.bind_some]
  simp only
  rw [beq_self_eq_true, cond_true, cond_true, F21_self k _ (by rw [sg_length, List.length_map]; omega) hk, Option.bind_some]
end Go.Proofs.YtdgdeckaoajceaaE
namespace Go.Proofs.Ytdgdeckaoajceaa.Pure
open Go.Proofs.YtdgdeckaoajceaaE
theorem SegLetters (a0 : Int) (a1 : Int) (a2 : List Int) (a3 : List Int) (a4 : List Int) (a5 : List Int) (a6 : Int) : (IntKind.min .i64 ≤ a0 ∧ a0 ≤ IntKind.max .i64) → (IntKind.min .i64 ≤ a1 ∧ a1 ≤ IntKind.max .i64) → (a2.length * 8 ≤ 140737488351232) → (∀ x ∈ a2, IntKind.min .i64 ≤ x ∧ x ≤ IntKind.max .i64) → (a3.length * 8 ≤ 140737488351232) → (∀ x ∈ a3, IntKind.min .i64 ≤ x ∧ x ≤ IntKind.max .i64) → (a4.length * 8 ≤ 140737488351232) → (∀ x ∈ a4, IntKind.min .i64 ≤ x ∧ x ≤ IntKind.max .i64) → (a5.length * 8 ≤ 140737488351232) → (∀ x ∈ a5, IntKind.min .i64 ≤ x ∧ x ≤ IntKind.max .i64) → (IntKind.min .i64 ≤ a6 ∧ a6 ≤ IntKind.max .i64) → ∃ k, F6 k a0 a1 a2 a3 a4 a5 a6 = some ((true, ()), ()) := by
  intros
  exact seg_letters a0 a1 a2 a3 a4 a5 a6
end Go.Proofs.Ytdgdeckaoajceaa.Pure
