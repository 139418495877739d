/- The plain law of SegErrs. Conditions: none. -/
import Derived.Test.YtdgdeckaoajceaaP0
set_option linter.unusedSimpArgs false
set_option linter.unusedVariables false
namespace Go.Proofs.YtdgdeckaoajceaaE
open Go.Proofs.YtdgdeckaoajceaaU (scal offs encL str Scalars scal_encL)
theorem dec_zeros (n : Nat) : ∀ (m p : Nat), p ≤ n → n ≤ p + m → (Go.Proofs.YtdgdeckaoajceaaU.dec (bstr (List.replicate n 0)) m p).length = n - p
  | 0, p, h1, h2 => by
    rw [Go.Proofs.YtdgdeckaoajceaaU.dec]
    simp
    omega
  | m + 1, p, h1, h2 => by
    have hs : (bstr (List.replicate n 0)).size = n := by rw [bstr_size, List.length_replicate]
    rw [Go.Proofs.YtdgdeckaoajceaaU.dec, hs]
    by_cases hlt : p < n
    · have hb : Go.Proofs.YtdgdeckaoajceaaU.bt (bstr (List.replicate n 0)) (p : Int) = 0 := by
        rw [Go.Proofs.YtdgdeckaoajceaaU.bt_nat]
        unfold bstr
        simp [List.getD_eq_getElem?_getD, hlt]
      have hx : Go.Proofs.YtdgdeckaoajceaaU.nx (bstr (List.replicate n 0)) p = (0, 1) := by
        unfold Go.Proofs.YtdgdeckaoajceaaU.nx Go.Proofs.YtdgdeckaoajceaaU.nxL
        rw [hb, if_pos (by omega)]
      rw [if_pos hlt, hx, List.length_cons, show Int.toNat (0, (1 : Int)).2 = 1 from rfl, dec_zeros n m (p + 1) (by omega) (by omega)]
      omega
    · rw [if_neg hlt, List.length_nil]
      omega
theorem scal_zeros (n : Nat) : (scal (bstr (List.replicate n 0))).length = n := by
  have hs : (bstr (List.replicate n 0)).size = n := by rw [bstr_size, List.length_replicate]
  unfold scal
  rw [List.length_map, hs, dec_zeros n n 0 (by omega) (by omega)]
  omega
theorem F32_nil (k : Nat) (p : Int) : F32 k (cur [] p) = some ((0, [1152921504606846976, 1152921504606846976, 1152921504606846976], ()), (cur [] p, ())) := rfl
theorem F35_eq (k : Nat) : F35 k = some (([1152921504606846976, 1152921504606846976, 1152921504606846976], ()), ()) := rfl
theorem F11_0_err (k : Nat) (t : Int) (x : List Int) (h : (t == 0) = false) : F11_0 k t t x [] (cur [] 0) = some ((true, ()), ()) := by
  have e25 := F25_out k [] 0 0 0 0 (by decide)
  have e30 : F30 k (cur [] 0) 0 = some ((false, ()), (cur [] 0, ())) := F30_eq k [] 0 0
  have e36 : F36 k (cur [] 0) = some ((false, ()), (cur [] 0, ())) := by
    unfold F36
    show (F30 k (cur [] 0) (IntKind.wrap .i64 (0 + 1))).bind _ = _
    rw [F30_eq, Option.bind_some]
    rfl
  have e37 : F37 k (cur [] 0) = some ((false, ()), (cur [] 0, ())) := by
    unfold F37
    show (F30 k (cur [] 0) (IntKind.wrap .i64 (0 - 1))).bind _ = _
    rw [F30_eq, Option.bind_some]
    rfl
  unfold F11_0
  rw [F32_nil, Option.bind_some, h, cond_false]
  simp only
  rw [e25, Option.bind_some, beq_self_eq_true, cond_true]
  simp only
  rw [show ((((([] : List (List Int)).length : Nat) : Int)) == 0) = true from rfl, cond_true, F23_eq, Option.bind_some]
  simp only
  rw [show ((((([] : List (List Int)).length : Nat) : Int)) == 0) = true from rfl, cond_true, show ((0 : Int) == 0) = true from rfl, cond_true, F35_eq, Option.bind_some]
  simp only
  rw [beq_self_eq_true, cond_true, e36, Option.bind_some]
  simp only
  rw [Bool.not_false, cond_true, e37, Option.bind_some]
  simp only
  rw [Bool.not_false, cond_true, e30, Option.bind_some]
  rfl
theorem F11_0_ok (k : Nat) (z : List (List Int)) (x : List Int) (hz : z.length = x.length + 1) (hx : x.length ≤ 100000) : F11_0 k 0 0 x z (cur z 0) = some ((true, ()), ()) := by
  have h0 : 0 ≤ (0 : Int) ∧ (0 : Int) < ((z.length : Nat) : Int) := by omega
  unfold F11_0
  rw [F32_eq k z 0 h0, Option.bind_some, show ((0 : Int) == 0) = true from rfl, cond_true, cond_true]
  simp only
  rw [w64 _ (by omega) (by omega), hz, show (((x.length + 1 : Nat) : Int) == ((x.length : Nat) : Int) + 1) = true from by rw [beq_iff_eq]; omega, cond_true, F23_eq, Option.bind_some]
  simp only
  rw [hz, beq_self_eq_true, cond_true, cond_true, if_pos (by omega), beq_self_eq_true]
theorem F22_err (k : Nat) (t : Tb) (s : ByteArray) (e : Int) (h : F18 k t s = some (([], e, ()), ())) : F22 k t s = some ((cur [] 0, ()), ()) := by
  unfold F22
  rw [h, Option.bind_some]
  rfl
theorem F11_1_eq (k : Nat) (a5 : Int) (t : Tb) (hk : 100010 ≤ k) (h : ∀ s : ByteArray, (F18 k t s = some (([], (5 : Int), ()), ()) ∧ F34 k t = some ((false, ()), ())) ∨ (F34 k t = some ((true, ()), ()) ∧ ((4000 < s.size → F18 k t s = some (([], (6 : Int), ()), ())) ∧ (s.size ≤ 4000 → F18 k t s = some ((sg t (lts t s), (0 : Int), ()), ()) ∧ F22 k t s = some ((cur (sg t (lts t s)) 0, ()), ()))))) : F11_1 k a5 t = some ((true, ()), ()) := by
  have e24 := F24_eq k a5 10 (by omega) (by omega)
  obtain ⟨p, hp, hp2⟩ := mod_nat a5 10 (by omega)
  rw [hp] at e24
  have hw : IntKind.wrap .i64 (3995 + (p : Int)) = ((3995 + p : Nat) : Int) := by rw [w64 _ (by omega) (by omega)]; omega
  have hl : (List.replicate (3995 + p) (0 : Int)).length = 3995 + p := List.length_replicate
  have hsz : (bstr (List.replicate (3995 + p) (0 : Int))).size = 3995 + p := by rw [bstr_size, hl]
  have hsc := scal_zeros (3995 + p)
  have h := h (bstr (List.replicate (3995 + p) (0 : Int)))
  unfold F11_1
  rw [e24, Option.bind_some]
  simp only [hw]
  rw [if_pos (by omega), Int.toNat_natCast]
  generalize hx : List.replicate (3995 + p) (0 : Int) = x at *
  rw [if_pos (by omega)]
  rcases h with ⟨h1, h2⟩ | ⟨h1, h2, h3⟩
  · rw [h1, Option.bind_some, if_pos (by omega), F22_err k t _ 5 h1, Option.bind_some, h2, Option.bind_some]
    simp only
    rw [Bool.not_false, cond_true, F11_0_err k 5 x rfl, Option.bind_some]
  · by_cases hb : 4000 < (bstr x).size
    · rw [h2 hb, Option.bind_some, if_pos (by omega), F22_err k t _ 6 (h2 hb), Option.bind_some, h1, Option.bind_some]
      simp only
      rw [Bool.not_true, cond_false, decide_eq_true (by omega), cond_true, F11_0_err k 6 x rfl, Option.bind_some]
    · obtain ⟨f1, f2⟩ := h3 (by omega)
      rw [f1, Option.bind_some, if_pos (by omega), f2, Option.bind_some, h1, Option.bind_some]
      simp only
      rw [Bool.not_true, cond_false, decide_eq_false (by omega), cond_false, F11_0_ok k _ x (by rw [sg_length, lts_len2, hsc]; omega) (by omega), Option.bind_some]
theorem seg_errs (a0 a1 : Int) (a2 a3 a4 : List Int) (a5 a6 : Int) : ∃ k, F11 k a0 a1 a2 a3 a4 a5 a6 = some ((true, ()), ()) := by
  obtain ⟨k, hk, h15⟩ := start
  refine ⟨k, ?_⟩
  obtain ⟨t, e16, hm⟩ := F16_ok k a0 a1 a2 a3 a4 (by omega)
  obtain ⟨k1, k2, _⟩ := kst_range a0
  have e24 := F24_eq k a6 3 (by omega) (by omega)
  have hle := hm.2.1
  have hle2 := hm.2.2.1
  have hv := MakeP_TbV hm
  unfold F11
  rw [h15, Option.bind_some]
  simp only
  rw [Bool.not_true, cond_false, e16, Option.bind_some]
  simp only
  rw [e24, Option.bind_some]
  simp only
  cases hc : (a6 % 3 == 0) with
  | true =>
    rw [cond_true, one_list, if_pos (by simp only [List.length_singleton]; omega)]
    have hv' : TbV (t.1, ((t.2.1 ++ [9]), t.2.2)) := hv
    have hr' : ¬ RightP (t.1, ((t.2.1 ++ [9]), t.2.2)) := fun h => by
      have h4 := h.2.2.2.1
      simp only [List.length_append, List.length_singleton] at h4
      omega
    obtain ⟨r, q1, q2, q3⟩ := right_same k (t.1, ((t.2.1 ++ [9]), t.2.2)) hk hv' (by simp only [List.length_append, List.length_singleton]; omega)
    have hrf : r = false := by
      cases r with
      | false => rfl
      | true => exact absurd (q3.1 rfl) hr'
    rw [hrf] at q2
    rw [F11_1_eq k a5 _ hk (fun s => Or.inl ⟨F18_bad k _ hv' hr' s hk, q2⟩), Option.bind_some]
  | false =>
    rw [cond_false]
    have hr := MakeP_right hm k1 k2
    obtain ⟨r, q1, q2, q3⟩ := right_same k t hk hv (by omega)
    obtain rfl := q3.2 hr
    rw [F11_1_eq k a5 t hk (fun s => Or.inr ⟨q2, fun h => F18_long k t hv hr s hk h, fun h => ⟨F18_eq k t hm k1 k2 s h hk, F22_eq k t hm k1 k2 s h hk⟩⟩), Option.bind_some]
end Go.Proofs.YtdgdeckaoajceaaE
namespace Go.Proofs.Ytdgdeckaoajceaa.Pure
open Go.Proofs.YtdgdeckaoajceaaE
theorem SegErrs (a0 : Int) (a1 : Int) (a2 : List Int) (a3 : List Int) (a4 : List Int) (a5 : Int) (a6 : Int) : (IntKind.min .i64 ≤ a0 ∧ a0 ≤ IntKind.max .i64) → (IntKind.min .i64 ≤ a1 ∧ a1 ≤ IntKind.max .i64) → (a2.length * 8 ≤ 140737488351232) → (∀ x ∈ a2, IntKind.min .i64 ≤ x ∧ x ≤ IntKind.max .i64) → (a3.length * 8 ≤ 140737488351232) → (∀ x ∈ a3, IntKind.min .i64 ≤ x ∧ x ≤ IntKind.max .i64) → (a4.length * 8 ≤ 140737488351232) → (∀ x ∈ a4, IntKind.min .i64 ≤ x ∧ x ≤ IntKind.max .i64) → (IntKind.min .i64 ≤ a5 ∧ a5 ≤ IntKind.max .i64) → (IntKind.min .i64 ≤ a6 ∧ a6 ≤ IntKind.max .i64) → ∃ k, F11 k a0 a1 a2 a3 a4 a5 a6 = some ((true, ()), ()) := by
  intros
  exact seg_errs a0 a1 a2 a3 a4 a5 a6
end Go.Proofs.Ytdgdeckaoajceaa.Pure
