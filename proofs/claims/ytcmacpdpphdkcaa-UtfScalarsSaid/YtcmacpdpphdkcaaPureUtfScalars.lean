/- For every raw and n the law UtfScalars answers true: whether a number is a scalar is the document's, and only scalars are encoded as themselves. Conditions: none but the row's own. -/
import Derived.Test.YtcmacpdpphdkcaaU8
import Derived.Test.YtcmacpdpphdkcaaF8
namespace Go.Proofs.Ytcmacpdpphdkcaa.Pure
set_option linter.unusedVariables false
set_option linter.unusedSimpArgs false
open Go.RowKit Go.Proofs.Ytcmacpdpphdkcaa.F Go.Proofs.Ytcmacpdpphdkcaa.U Go.Proofs.YtcmacpdpphdkcaaW.PrintWords Go.Proofs.YtcmacpdpphdkcaaW.PrintLast Go.Proofs.YtcmacpdpphdkcaaW.PrintMore

theorem round (k i : Nat) (l : List Int) (hl : l.length = 10) (hi : i < 10) (hw : ∀ x ∈ l, wf x) (hk : 100 < k) : hyphenlaw2_UtfScalars.l0 (k + 1) l (i : Int) = hyphenlaw2_UtfScalars.l0 k l ((i + 1 : Nat) : Int) := by
  have hi2 : i < l.length := by omega
  have hw64 : wrap64 ((i : Int) + 1) = ((i + 1 : Nat) : Int) := by rw [wrap_id _ (by omega) (by omega)]; omega
  obtain ⟨x, hx⟩ : ∃ x, l[i] = x := ⟨_, rfl⟩
  have hr : rd l (i : Int) = x := by
    unfold rd
    rw [Int.toNat_natCast, List.getD_eq_getElem?_getD, List.getElem?_eq_getElem hi2, Option.getD_some, hx]
  have hone : (l.take (((i + 1 : Nat) : Int)).toNat).drop ((i : Int)).toNat = [x] := by
    rw [Int.toNat_natCast, Int.toNat_natCast, List.take_succ_eq_append_getElem hi2, List.drop_left' (by rw [List.length_take]; omega), hx]
  have hwx : ∀ y ∈ [x], wf y := fun y hy => by
    rw [List.mem_singleton] at hy
    subst hy
    exact hw _ (by rw [← hx]; exact List.getElem_mem hi2)
  have hsz := encL_length [x]
  rw [hyphenlaw2_UtfScalars.l0, if_pos (by omega), if_pos (by omega), hr, hw64, Scalar_eq, Option.bind_some, if_pos (by omega), if_pos (by omega), hone, Encode_eq k _ hwx (by simp) (by simp; omega), Option.bind_some, Decode_eq _ (by rw [str_size]; simp at hsz; omega), Option.bind_some, refScalar_eq, Option.bind_some, bne_self_eq_false, if_neg (by simp)]
  cases hv : Utf8.valid x with
  | true =>
    rw [scal_encL [x] (fun y hy => by rw [List.mem_singleton] at hy; rw [hy]; exact hv), if_pos (by simp), if_pos (by simp)]
    have h0 : rd [x] 0 = x := rfl
    rw [h0, beq_self_eq_true, bne_self_eq_false, if_neg (by simp), if_pos rfl]
  | false =>
    have he : encL [x] = encL [65533] := by simp only [encL, List.flatMap_cons, List.flatMap_nil, List.append_nil]; rw [encode_bad x hv]
    have hne : ¬ (65533 : Int) = x := fun h => by rw [← h] at hv; exact absurd hv (by decide)
    rw [he, scal_encL [65533] (fun y hy => by rw [List.mem_singleton] at hy; rw [hy]; decide), if_pos (by simp), if_pos (by simp)]
    have h0 : rd [65533] 0 = 65533 := rfl
    rw [h0, beq_eq_false_iff_ne.2 hne, bne_self_eq_false, if_neg (by simp), if_neg (by simp), if_pos rfl]
theorem UtfScalars : hyphenlaw2_UtfScalars.Pure := by
  intro a0 a1 h1 h2
  refine ⟨1000, ?_⟩
  have w := win_range a1 1179648 (by omega)
  unfold hyphenlaw2_UtfScalars.f
  rw [known_eq _ (by omega), Option.bind_some, if_pos rfl, within_eq _ _ (by omega) (by omega), Option.bind_some]
  obtain ⟨l, hl⟩ : ∃ l, ([a0, win a1 1179648, (-1), 0, 55295, 55296, 57343, 57344, 1114111, 1114112] : List Int) = l := ⟨_, rfl⟩
  have hlen : l.length = 10 := by rw [← hl]; rfl
  have hw : ∀ x ∈ l, wf x := by
    intro x hx
    have h0 := (wf_iff a0).1 h1
    rw [← hl] at hx
    simp only [List.mem_cons, List.not_mem_nil, or_false] at hx
    unfold wf at *
    omega
  rw [hl]
  have go : ∀ (d i k : Nat), i + d = 10 → 200 + d < k → hyphenlaw2_UtfScalars.l0 k l (i : Int) = some true := by
    intro d
    induction d with
    | zero =>
      intro i k hi hk
      obtain ⟨k, rfl⟩ : ∃ m, k = m + 1 := ⟨k - 1, by omega⟩
      rw [hyphenlaw2_UtfScalars.l0, if_neg (by omega)]
    | succ d ih =>
      intro i k hi hk
      obtain ⟨k, rfl⟩ : ∃ m, k = m + 1 := ⟨k - 1, by omega⟩
      rw [round k i l hlen (by omega) hw (by omega)]
      exact ih (i + 1) k (by omega) (by omega)
  exact go 10 0 1000 (by omega) (by omega)
end Go.Proofs.Ytcmacpdpphdkcaa.Pure
