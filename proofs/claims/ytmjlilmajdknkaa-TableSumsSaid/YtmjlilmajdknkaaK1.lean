/- Plain laws of table: the known example. Conditions: none. -/
import Derived.Test.YtmjlilmajdknkaaG0
set_option linter.unusedSimpArgs false
set_option linter.unusedVariables false
namespace Go.Proofs.YtmjlilmajdknkaaE
theorem known12 (k : Nat) : F12 (k + 200) = some ((true, ()), ()) := by kernel_rfl
end Go.Proofs.YtmjlilmajdknkaaE
