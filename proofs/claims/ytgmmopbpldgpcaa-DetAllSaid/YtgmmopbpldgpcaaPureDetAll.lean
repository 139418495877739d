/- The plain law of DetAll. Conditions: none. -/
import Derived.Test.YtgmmopbpldgpcaaP1
set_option linter.unusedSimpArgs false
set_option linter.unusedVariables false
set_option maxRecDepth 20000
namespace Go.Proofs.YtgmmopbpldgpcaaE
/-- What is asked of both machines. -/
def tail3 (k : Nat) (w : WorT) (a3 : List Int) (r9 : (BackT × (List (List Bool)) × Int × Unit) × Unit) (r12 r13 : (FwdT × Int × Unit) × Unit) : Option ((Bool × Unit) × Unit) :=
  bif (r12.1.2.1 != r13.1.2.1) then
    some ((false, ()), ())
  else
    (F21 k r12.1.1 r13.1.1).bind fun r14 =>
    bif (!r14.1.1) then
      some ((false, ()), ())
    else
      bif (r12.1.2.1 != (0 : Int)) then
        some ((true, ()), ())
      else
        (F23 k a3 (20 : Int)).bind fun r15 =>
        (F22 k w r15.1.1).bind fun r16 =>
        (F24 k r9.1.1 r16.1.1).bind fun r17 =>
        (F26 k r12.1.1 r16.1.1 r17.1.1).bind fun r18 =>
        (F27 k r13.1.1 r16.1.1 r17.1.1).bind fun r19 =>
        (F25 k r18.1.1 r19.1.1).bind fun r20 =>
        some ((r20.1.1, ()), ())
theorem tail3_ok (k : Nat) (hk : 20000000 ≤ k) (w : WorT) (N M : Nat) (hw : WG w N M) (a3 : List Int) (ha : a3.length ≤ 100000000000000) (q : QT) (mw : MW w.2.2.2.1 w.2.2.2.2.2.1 N 30 q) (b : Int) : tail3 k w a3 (outA (some q), ()) (outD w.1.2.1 w.2.2.2.2.1 q.2.2.2 (mkN w.2.2.2.2.1 w.2.2.2.1 N b), ()) (outD w.1.2.1 w.2.2.2.2.1 q.2.2.2 (mkN w.2.2.2.2.1 w.2.2.2.1 N b), ()) = some ((true, ()), ()) := by
  have dw := mw_dw hw mw
  unfold tail3
  cases hd : mkN w.2.2.2.2.1 w.2.2.2.1 N b with
  | none =>
    simp only [outD, bne_self_eq_false, cond_false]
    rw [F21_self k (by omega) _ (by simp) (fun r hr => by cases hr) (by simp) (fun r hr => by cases hr), Option.bind_some]
    rfl
  | some d =>
    have nd := mkN_ok dw.hs hd
    obtain ⟨t, x, e1, e2, hxl, hxN⟩ := letters_ok k hk w N M hw a3 20 (by decide) ha
    simp only [outD, outA, bne_self_eq_false, cond_false]
    rw [F21_nd k (by omega) nd dw.hN dw.hsn, Option.bind_some]
    simp only [Bool.not_true, cond_false]
    rw [show F23 k a3 (20 : Int) = _ from e1, Option.bind_some]
    simp only
    rw [e2, Option.bind_some]
    simp only
    rw [F24_lab k (by omega) mw x hxN (by omega), Option.bind_some]
    simp only
    rw [F26_nd k (by omega) nd x _ hxN (by omega) (lab_len _ _ _ _) (lab_lt mw hxN), Option.bind_some]
    simp only
    rw [F27_nd k (by omega) nd x _ hxN (by omega) (lab_len _ _ _ _) (lab_lt mw hxN), Option.bind_some]
    simp only
    rw [F25_self k _ (by omega) (by rw [runL_len]; omega), Option.bind_some]
theorem det_all (a0 : List RawT) (a1 a2 a3 : List Int) (a4 : Int) (h1 : a1.length ≤ 100000000000000) (h3 : a3.length ≤ 100000000000000) : ∃ k, F3 k a0 a1 a2 a3 a4 = some ((true, ()), ()) := by
  refine ⟨20000000, ?_⟩
  generalize hk : (20000000 : Nat) = k
  have hk' : 20000000 ≤ k := by omega
  have hk2 : 10000000 ≤ k := by omega
  unfold F3
  refine start10 k hk' a0 a1 a2 h1 _ _ _ fun w N M e15 hw e16 => ?_
  simp only
  rw [F17_wg k hk' hw, Option.bind_some]
  cases hq : mkM w.2.2.2.1 w.2.2.2.2.2.1 N 30 with
  | none => rfl
  | some q =>
    have mw := mkM_ok hq
    have dw := mw_dw hw mw
    have tl := fun b => tail3_ok k hk' w N M hw a3 h3 q mw b
    rw [show ((outA (some q)).2.2.1 != (0 : Int)) = false from rfl, cond_false, F18_eq10 k a4 3 (by decide) (by decide), Option.bind_some]
    simp only
    rw [hw.num]
    cases (a4 % 3 == 0) with
    | true =>
      rw [cond_true, F18_eq10 k a4 12 (by decide) (by decide), Option.bind_some]
      simp only
      rw [show (outA (some q)).2.1 = q.2.2.2 from rfl, F19_dw k hk2 dw, Option.bind_some, F20_dw k hk2 dw, Option.bind_some]
      exact tl _
    | false =>
      rw [cond_false, show (outA (some q)).2.1 = q.2.2.2 from rfl, F19_dw k hk2 dw, Option.bind_some, F20_dw k hk2 dw, Option.bind_some]
      exact tl _
end Go.Proofs.YtgmmopbpldgpcaaE
namespace Go.Proofs.Ytgmmopbpldgpcaa.Pure
open Go.Proofs.YtgmmopbpldgpcaaE
theorem DetAll (a0 : List (Tree (Int × (Int × Unit)))) (a1 : List Int) (a2 : List Int) (a3 : List Int) (a4 : Int) : (a1.length * 8 ≤ 140737488351232) → (∀ x ∈ a1, IntKind.min .i64 ≤ x ∧ x ≤ IntKind.max .i64) → (a2.length * 8 ≤ 140737488351232) → (∀ x ∈ a2, IntKind.min .i64 ≤ x ∧ x ≤ IntKind.max .i64) → (a3.length * 8 ≤ 140737488351232) → (∀ x ∈ a3, IntKind.min .i64 ≤ x ∧ x ≤ IntKind.max .i64) → (IntKind.min .i64 ≤ a4 ∧ a4 ≤ IntKind.max .i64) → ∃ k, F3 k a0 a1 a2 a3 a4 = some ((true, ()), ()) := by
  intros
  exact det_all a0 a1 a2 a3 a4 (by omega) (by omega)
end Go.Proofs.Ytgmmopbpldgpcaa.Pure
