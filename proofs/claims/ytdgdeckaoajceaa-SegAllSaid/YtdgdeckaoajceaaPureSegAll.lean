/- The plain law of SegAll. Conditions: none. -/
import Derived.Test.YtdgdeckaoajceaaP0
set_option linter.unusedSimpArgs false
set_option linter.unusedVariables false
namespace Go.Proofs.YtdgdeckaoajceaaE
open Go.Proofs.YtdgdeckaoajceaaU (scal offs encL str Scalars scal_encL)
theorem F3_step {K N : Nat} (k n : Nat) (t : Tb) (hm : MakeP K N t) (hK : 1 ≤ K) (hK2 : K ≤ 9) (hk : 100010 ≤ k) (l : List ByteArray) (hl : l.length = 2) (hs : ∀ s ∈ l, s.size ≤ 4000) (i : Nat) (hi : i < 2) : F3_0 k (n + 1) (i : Int) t l = F3_0 k n ((i + 1 : Nat) : Int) t l := by
  have hlt : i < l.length := by omega
  have hsz := hs _ (List.getElem_mem hlt)
  have hsl := scal_len l[i]
  have hw : IntKind.wrap .i64 ((((scal l[i]).length : Nat) : Int) + 1) = (((scal l[i]).length + 1 : Nat) : Int) := by rw [w64 _ (by omega) (by omega)]; omega
  simp only [F3_0]
  rw [decide_eq_true (by omega), cond_true, if_pos (inR hlt), Int.toNat_natCast, getD_lt _ _ _ hlt, F18_eq k t hm hK hK2 _ hsz hk, Option.bind_some, if_pos (inR hlt), F19_eq k t hm hK hK2 _ hsz hk, Option.bind_some, if_pos (inR hlt), F20_eq k _ (by omega) (by omega), Option.bind_some]
  simp only
  rw [bne_self_eq_false, cond_false, F21_self k _ (by rw [sg_length, lts_len2]; omega) hk, Option.bind_some]
  simp only
  rw [Bool.not_true, cond_false, hw, sg_length, lts_len2, bne_self_eq_false, cond_false, w64 _ (by omega) (by omega), show ((i : Int) + 1) = ((i + 1 : Nat) : Int) from by omega, Option.bind_fun_some]
theorem seg_all (a0 a1 : Int) (a2 a3 a4 a5 a6 : List Int) : ∃ k, F3 k a0 a1 a2 a3 a4 a5 a6 = some ((true, ()), ()) := by
  obtain ⟨k, hk, h15⟩ := start
  refine ⟨k, ?_⟩
  obtain ⟨t, e16, hm⟩ := F16_ok k a0 a1 a2 a3 a4 (by omega)
  obtain ⟨k1, k2, _⟩ := kst_range a0
  unfold F3
  rw [h15, Option.bind_some]
  simp only
  rw [Bool.not_true, cond_false]
  by_cases hl : ((a6.length : Nat) : Int) > 250
  · rw [decide_eq_true hl, cond_true]
  rw [decide_eq_false hl, cond_false, e16, Option.bind_some]
  simp only
  obtain ⟨r, e17, hr, _⟩ := F17_ok k a5 a6 (by omega) (by omega)
  have hb := bstr_size a6
  obtain ⟨x5, hx5⟩ : ∃ x5, List.set (List.set (List.replicate 2 ByteArray.empty) 0 r) 1 (bstr a6) = x5 := ⟨_, rfl⟩
  have hx : x5 = [r, bstr a6] := hx5.symm
  have hs : ∀ s ∈ x5, s.size ≤ 4000 := fun s hs => by
    rw [hx] at hs
    rcases List.mem_cons.1 hs with rfl | hs
    · omega
    · rw [List.mem_singleton] at hs
      subst hs
      omega
  have hl2 : x5.length = 2 := by rw [hx]; rfl
  rw [e17, Option.bind_some, if_pos (by omega)]
  simp only
  rw [hx5]
  obtain ⟨m, rfl⟩ : ∃ m, k = m + 3 := ⟨k - 3, by omega⟩
  have e : F3_0 (m + 3) (m + 2 + 1) 0 t x5 = some (.inl ((), ())) := by
    rw [show (0 : Int) = ((0 : Nat) : Int) from rfl, F3_step (m + 3) (m + 2) t hm k1 k2 hk x5 hl2 hs 0 (by omega), F3_step (m + 3) (m + 1) t hm k1 k2 hk x5 hl2 hs 1 (by omega)]
    rfl
  rw [e, Option.bind_some]
end Go.Proofs.YtdgdeckaoajceaaE
namespace Go.Proofs.Ytdgdeckaoajceaa.Pure
open Go.Proofs.YtdgdeckaoajceaaE
theorem SegAll (a0 : Int) (a1 : Int) (a2 : List Int) (a3 : List Int) (a4 : List Int) (a5 : List Int) (a6 : List Int) : (IntKind.min .i64 ≤ a0 ∧ a0 ≤ IntKind.max .i64) → (IntKind.min .i64 ≤ a1 ∧ a1 ≤ IntKind.max .i64) → (a2.length * 8 ≤ 140737488351232) → (∀ x ∈ a2, IntKind.min .i64 ≤ x ∧ x ≤ IntKind.max .i64) → (a3.length * 8 ≤ 140737488351232) → (∀ x ∈ a3, IntKind.min .i64 ≤ x ∧ x ≤ IntKind.max .i64) → (a4.length * 8 ≤ 140737488351232) → (∀ x ∈ a4, IntKind.min .i64 ≤ x ∧ x ≤ IntKind.max .i64) → (a5.length * 8 ≤ 140737488351232) → (∀ x ∈ a5, IntKind.min .i64 ≤ x ∧ x ≤ IntKind.max .i64) → (a6.length * 1 ≤ 140737488351232) → (∀ x ∈ a6, IntKind.min .u8 ≤ x ∧ x ≤ IntKind.max .u8) → ∃ k, F3 k a0 a1 a2 a3 a4 a5 a6 = some ((true, ()), ()) := by
  intros
  exact seg_all a0 a1 a2 a3 a4 a5 a6
end Go.Proofs.Ytdgdeckaoajceaa.Pure
