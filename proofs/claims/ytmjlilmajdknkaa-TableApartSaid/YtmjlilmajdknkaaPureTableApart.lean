/- The plain law of TableApart. Conditions: none. -/
import Derived.Test.YtmjlilmajdknkaaP0
set_option linter.unusedSimpArgs false
set_option linter.unusedVariables false
namespace Go.Proofs.YtmjlilmajdknkaaE
theorem made_siz {k : Nat} {t : Tb} (h : Made k t) : SizP t := by
  obtain ⟨K, N, hm, k1, k2, n1, n2⟩ := h.shape
  obtain ⟨h1, h2, h3, h4, h5, h6, h7, h8, h9, h10⟩ := hm
  have a1 := h5.1
  have a2 := h9.1
  have a3 := h10.1
  exact ⟨by omega, by omega, by omega, by omega, by omega, by omega, fun r hr => by have := (h5.2 r hr).1; omega, fun r hr => by have := (h9.2 r hr).1; omega, fun r hr => by have := (h10.2 r hr).1; omega⟩
theorem apart_end {k : Nat} {a b : Tb} (hk : 100010 ≤ k) (ha : Made k a) (hb : Made k b) :
    ((F15 k a).bind fun r6 => if List.length r6.1.1 ≤ 9223372036854775807 then (F15 k b).bind fun r7 => if List.length r7.1.1 ≤ 9223372036854775807 then (F25 k a b).bind fun r9 => some ((((ByteArray.toList (bstr r6.1.1) == ByteArray.toList (bstr r7.1.1)) == r9.1.1), ()), ()) else none else none) = (some ((true, ()), ()) : Option ((Bool × Unit) × Unit)) := by
  obtain ⟨r, e, h⟩ := F25_eq k a b (made_siz ha) (made_siz hb) hk
  have l1 := save_len a
  have l2 := save_len b
  have m1 := ha.len
  have m2 := hb.len
  rw [F15_eq k a ha.fits, Option.bind_some]
  simp only
  rw [if_pos (by omega), F15_eq k b hb.fits, Option.bind_some]
  simp only
  rw [if_pos (by omega), e, Option.bind_some, bstr_data _ _ (save_isB a) (save_isB b)]
  congr 3
  rw [beq_iff_eq]
  apply Bool.eq_iff_iff.2
  rw [decide_eq_true_eq, h]
  exact ⟨fun x => enc_inj ha.vt hb.vt x, fun x => by rw [x]⟩
theorem table_apart (a0 a1 : Int) (a2 a3 a4 a5 : List Int) (a6 : Int) : ∃ k, F10 k a0 a1 a2 a3 a4 a5 a6 = some ((true, ()), ()) := by
  obtain ⟨k, hk⟩ : ∃ k : Nat, 100010 ≤ k := ⟨100010, Nat.le_refl _⟩
  refine ⟨k, ?_⟩
  have h12 := known_ok k (by omega)
  obtain ⟨t, e, ht⟩ := make_ok k hk a0 a1 a2 a3 a4
  obtain ⟨u, e1, hu⟩ := make_ok k hk a0 a1 a5 a3 a4
  obtain ⟨v, e2, hv⟩ := make_ok k hk a0 a1 a2 a5 a4
  obtain ⟨w, e3, hw⟩ := make_ok k hk a0 a1 a2 a3 a5
  have e19 := F19_eq k a6 3 (by omega) (by omega)
  unfold F10
  rw [h12, Option.bind_some]
  simp only
  rw [Bool.not_true, cond_false, e, Option.bind_some, Option.bind_some, e19, Option.bind_some]
  simp only
  cases c0 : (a6 % 3 == 0) with
  | true =>
    rw [cond_true, e1, Option.bind_some]
    exact apart_end hk ht hu
  | false =>
    rw [cond_false]
    cases c1 : (a6 % 3 == 1) with
    | true =>
      rw [cond_true, e2, Option.bind_some]
      exact apart_end hk ht hv
    | false =>
      rw [cond_false]
      cases c2 : (a6 % 3 == 2) with
      | true =>
        rw [cond_true, e3, Option.bind_some]
        exact apart_end hk ht hw
      | false =>
        rw [cond_false]
        exact apart_end hk ht ht
end Go.Proofs.YtmjlilmajdknkaaE
namespace Go.Proofs.Ytmjlilmajdknkaa.Pure
open Go.Proofs.YtmjlilmajdknkaaE
theorem TableApart (a0 : Int) (a1 : Int) (a2 : List Int) (a3 : List Int) (a4 : List Int) (a5 : List Int) (a6 : Int) : (IntKind.min .i64 ≤ a0 ∧ a0 ≤ IntKind.max .i64) → (IntKind.min .i64 ≤ a1 ∧ a1 ≤ IntKind.max .i64) → (a2.length * 8 ≤ 140737488351232) → (∀ x ∈ a2, IntKind.min .i64 ≤ x ∧ x ≤ IntKind.max .i64) → (a3.length * 8 ≤ 140737488351232) → (∀ x ∈ a3, IntKind.min .i64 ≤ x ∧ x ≤ IntKind.max .i64) → (a4.length * 8 ≤ 140737488351232) → (∀ x ∈ a4, IntKind.min .i64 ≤ x ∧ x ≤ IntKind.max .i64) → (a5.length * 8 ≤ 140737488351232) → (∀ x ∈ a5, IntKind.min .i64 ≤ x ∧ x ≤ IntKind.max .i64) → (IntKind.min .i64 ≤ a6 ∧ a6 ≤ IntKind.max .i64) → ∃ k, F10 k a0 a1 a2 a3 a4 a5 a6 = some ((true, ()), ()) := by
  intros
  exact table_apart a0 a1 a2 a3 a4 a5 a6
end Go.Proofs.Ytmjlilmajdknkaa.Pure
