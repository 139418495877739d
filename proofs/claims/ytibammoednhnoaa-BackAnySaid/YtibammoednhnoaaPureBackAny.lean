/- BackAny, as a plain law. Conditions: none. -/
import Derived.Test.YtibammoednhnoaaP0
namespace Go.Proofs.Ytibammoednhnoaa.Pure
open Go.Proofs.YtibammoednhnoaaE
theorem BackAny (a0 : Int) (a1 : Int) : (IntKind.min .i64 ≤ a0 ∧ a0 ≤ IntKind.max .i64) → (IntKind.min .i64 ≤ a1 ∧ a1 ≤ IntKind.max .i64) → ∃ k, F10 k a0 a1 = some ((true, ()), ()) := by
  intros
  exact any_pure a0 a1
end Go.Proofs.Ytibammoednhnoaa.Pure
