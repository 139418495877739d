/- The plain law of SegBad. Conditions: none. -/
import Derived.Test.YtdgdeckaoajceaaP0
set_option linter.unusedSimpArgs false
set_option linter.unusedVariables false
namespace Go.Proofs.YtdgdeckaoajceaaE
open Go.Proofs.YtdgdeckaoajceaaU (scal offs encL str Scalars scal_encL)
theorem nx_one (s : ByteArray) (p : Nat) : (Go.Proofs.YtdgdeckaoajceaaU.nx s p).2 = 1 → (Go.Proofs.YtdgdeckaoajceaaU.nx s p).1 < 128 ∨ (Go.Proofs.YtdgdeckaoajceaaU.nx s p).1 = 65533 := by
  unfold Go.Proofs.YtdgdeckaoajceaaU.nx Go.Proofs.YtdgdeckaoajceaaU.nxL
  repeat' split
  all_goals (intro h; first | exact Or.inr rfl | exact Or.inl (by assumption) | (simp only at h; omega))
theorem enc_small (n : Int) (hv : Utf8.valid n = true) (h : n < 128) : (Utf8.encode n).size = 1 := by
  have := (Go.Proofs.YtdgdeckaoajceaaU.valid_int n).1 hv
  obtain ⟨m, rfl⟩ := Int.eq_ofNat_of_zero_le (show 0 ≤ n by omega)
  rw [← Go.Proofs.YtdgdeckaoajceaaU.data_length, Go.Proofs.YtdgdeckaoajceaaU.encode_enc1 m hv, List.length_map]
  unfold Go.Proofs.YtdgdeckaoajceaaU.enc1
  rw [if_pos (by omega)]
  rfl
theorem nx_enc3 (s : ByteArray) (p : Nat) (h : p < s.size) : ((Utf8.encode (Go.Proofs.YtdgdeckaoajceaaU.nx s p).1).size : Int) ≤ 3 * (Go.Proofs.YtdgdeckaoajceaaU.nx s p).2 := by
  have h1 := Go.Proofs.YtdgdeckaoajceaaU.nx_len s p h
  have h2 := Go.Proofs.YtdgdeckaoajceaaU.encode_size (Go.Proofs.YtdgdeckaoajceaaU.nx s p).1
  by_cases hw : (Go.Proofs.YtdgdeckaoajceaaU.nx s p).2 = 1
  · rcases nx_one s p hw with h3 | h3
    · rw [enc_small _ (nx_valid s p) h3]; omega
    · have h4 : (Utf8.encode 65533).size = 3 := by decide +kernel
      rw [h3, h4]; omega
  · omega
theorem dec_enc3 (s : ByteArray) : ∀ (m p : Nat), p ≤ s.size → (encL ((Go.Proofs.YtdgdeckaoajceaaU.dec s m p).map (·.1))).length + 3 * p ≤ 3 * s.size
  | 0, p, h => by
    rw [Go.Proofs.YtdgdeckaoajceaaU.dec]
    simp [encL]
    omega
  | m + 1, p, h => by
    rw [Go.Proofs.YtdgdeckaoajceaaU.dec]
    by_cases hlt : p < s.size
    · have h1 := Go.Proofs.YtdgdeckaoajceaaU.nx_len s p hlt
      have h3 := nx_enc3 s p hlt
      have hd : (Utf8.encode (Go.Proofs.YtdgdeckaoajceaaU.nx s p).1).data.toList.length = (Utf8.encode (Go.Proofs.YtdgdeckaoajceaaU.nx s p).1).size := Go.Proofs.YtdgdeckaoajceaaU.data_length _
      have ih := dec_enc3 s m (p + (Go.Proofs.YtdgdeckaoajceaaU.nx s p).2.toNat) (by omega)
      rw [if_pos hlt, List.map_cons]
      unfold encL at ih ⊢
      rw [List.flatMap_cons, List.length_append, hd]
      omega
    · rw [if_neg hlt]
      simp [encL]
      omega
theorem enc3 (s : ByteArray) : (str (encL (scal s))).size ≤ 3 * s.size := by
  have := dec_enc3 s s.size 0 (by omega)
  rw [Go.Proofs.YtdgdeckaoajceaaU.str_size]
  unfold scal
  omega
theorem seg_bad (a0 a1 : Int) (a2 a3 a4 a5 a6 : List Int) : ∃ k, F5 k a0 a1 a2 a3 a4 a5 a6 = some ((true, ()), ()) := by
  obtain ⟨k, hk, h15⟩ := start
  refine ⟨k, ?_⟩
  obtain ⟨t, e16, hm⟩ := F16_ok k a0 a1 a2 a3 a4 (by omega)
  obtain ⟨k1, k2, _⟩ := kst_range a0
  unfold F5
  rw [h15, Option.bind_some]
  simp only
  rw [Bool.not_true, cond_false]
  by_cases hl : ((a6.length : Nat) : Int) > 100
  · rw [decide_eq_true hl, cond_true]
  rw [decide_eq_false hl, cond_false, e16, Option.bind_some]
  simp only
  obtain ⟨s, e17, hr, _⟩ := F17_ok k a5 a6 (by omega) (by omega)
  have hsl := scal_len s
  have he3 := enc3 s
  have hlt : lts t (str (encL (scal s))) = lts t s := by
    unfold lts
    rw [scal_encL _ (scal_valid s)]
  have e2 := F18_eq k t hm k1 k2 (str (encL (scal s))) (by omega) hk
  rw [hlt] at e2
  rw [e17, Option.bind_some]
  simp only
  rw [F20_eq k s (by omega) (by omega), Option.bind_some]
  simp only
  rw [F18_eq k t hm k1 k2 s (by omega) hk, Option.bind_some, F26_eq k _ (by omega) (by omega), Option.bind_some]
  simp only
  rw [e2, Option.bind_some]
  simp only
  rw [beq_self_eq_true, cond_true, cond_true, F21_self k _ (by rw [sg_length, lts_len2]; omega) hk, Option.bind_some]
end Go.Proofs.YtdgdeckaoajceaaE
namespace Go.Proofs.Ytdgdeckaoajceaa.Pure
open Go.Proofs.YtdgdeckaoajceaaE
theorem SegBad (a0 : Int) (a1 : Int) (a2 : List Int) (a3 : List Int) (a4 : List Int) (a5 : List Int) (a6 : List Int) : (IntKind.min .i64 ≤ a0 ∧ a0 ≤ IntKind.max .i64) → (IntKind.min .i64 ≤ a1 ∧ a1 ≤ IntKind.max .i64) → (a2.length * 8 ≤ 140737488351232) → (∀ x ∈ a2, IntKind.min .i64 ≤ x ∧ x ≤ IntKind.max .i64) → (a3.length * 8 ≤ 140737488351232) → (∀ x ∈ a3, IntKind.min .i64 ≤ x ∧ x ≤ IntKind.max .i64) → (a4.length * 8 ≤ 140737488351232) → (∀ x ∈ a4, IntKind.min .i64 ≤ x ∧ x ≤ IntKind.max .i64) → (a5.length * 8 ≤ 140737488351232) → (∀ x ∈ a5, IntKind.min .i64 ≤ x ∧ x ≤ IntKind.max .i64) → (a6.length * 1 ≤ 140737488351232) → (∀ x ∈ a6, IntKind.min .u8 ≤ x ∧ x ≤ IntKind.max .u8) → ∃ k, F5 k a0 a1 a2 a3 a4 a5 a6 = some ((true, ()), ()) := by
  intros
  exact seg_bad a0 a1 a2 a3 a4 a5 a6
end Go.Proofs.Ytdgdeckaoajceaa.Pure
