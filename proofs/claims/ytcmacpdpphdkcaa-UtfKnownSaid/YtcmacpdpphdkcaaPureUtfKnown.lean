/- For every number the law UtfKnown answers true: sixteen texts of bytes have the scalars that the law names. Conditions: none but the row's own. -/
import Derived.Test.YtcmacpdpphdkcaaU8
import Derived.Test.YtcmacpdpphdkcaaF10
namespace Go.Proofs.Ytcmacpdpphdkcaa.Pure
set_option linter.unusedVariables false
set_option linter.unusedSimpArgs false
open Go.RowKit Go.Proofs.Ytcmacpdpphdkcaa.F Go.Proofs.Ytcmacpdpphdkcaa.U Go.Proofs.YtcmacpdpphdkcaaW.PrintWords Go.Proofs.YtcmacpdpphdkcaaW.PrintLast Go.Proofs.YtcmacpdpphdkcaaW.PrintMore

theorem UtfKnown : hyphenlaw2_UtfKnown.Pure := by
  intro a0 h1
  refine ⟨100, ?_⟩
  have w := win_range a0 16 (by omega)
  unfold hyphenlaw2_UtfKnown.f
  rw [known_eq _ (by omega), Option.bind_some, if_pos rfl, Option.bind_some, Option.bind_some, within_eq _ _ (by omega) (by omega), Option.bind_some]
  generalize win a0 16 = t at *
  obtain ⟨n, rfl⟩ := Int.eq_ofNat_of_zero_le w.1
  have hn : n < 16 := by omega
  clear w h1 a0
  rcases (by omega : n = 0 ∨ n = 1 ∨ n = 2 ∨ n = 3 ∨ n = 4 ∨ n = 5 ∨ n = 6 ∨ n = 7 ∨ n = 8 ∨ n = 9 ∨ n = 10 ∨ n = 11 ∨ n = 12 ∨ n = 13 ∨ n = 14 ∨ n = 15) with rfl | rfl | rfl | rfl | rfl | rfl | rfl | rfl | rfl | rfl | rfl | rfl | rfl | rfl | rfl | rfl
  all_goals decide +kernel
end Go.Proofs.Ytcmacpdpphdkcaa.Pure
