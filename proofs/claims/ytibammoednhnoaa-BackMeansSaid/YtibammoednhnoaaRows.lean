/-
  NARROWER THAN 'FOR EVERY INPUT', by the rows' own cells (each row's printed sentence says how): BackAll: loops · BackMeans: loops · BackSuffix: loops · BackBudget: loops · BackOne: loops · BackTwice: loops · BackEnd: loops · BackOwn: loops.
  DERIVED. THE GIVEN ROWS OF THIS SEAT. 9 by the template 'for every input the law returns true; each argument reads behind the call as it read before'; 0 by the template 'total and deterministic' (their statements: YtibammoednhnoaaTotals.lean).
  GIVEN WITH THE SEED: the statements are not yours to turn. If you find one false, say at which input.
  Laid BY PROGRAM, IN A SANDBOX (cutbox-rows.mjs): the forced cells as the released guide's own fill.sh prints them over the translation 2ee80dd6053482e8… (all of the seat's roots in one cut). By AI agents, Wed Nov 11 2026. No macro, syntax, notation, axiom, sorry.
-/
import Derived.Test.YtibammoednhnoaaChecked
import GoSem.Claim
import GoSem.ClaimJoined
import GoSem.ClaimMapViews
import Derived.JoinedTies
import Derived.KernelRfl
namespace Go.Proofs.Ytibammoednhnoaa
/- THE CELL 'sum', in the pinned program and in every row, IS THE sha256 OF THE DUMP (.gsa) THAT YtibammoednhnoaaProg.lean LOADS. Nothing in Lean hashes anything: it is a label: what it is worth is what the hold of that sum in a sandbox is worth. -/
noncomputable def Try.pinned : Pinned := { name := "ytibammoednhnoaa", sum := "2ee80dd6053482e88f9caf19ae48fb6bbc160c6102095d6252cd808ab958bab2", checked := Try.checked }
namespace Rows
def none {H : Type} : Left H := { results := [], args := [] }

/-- 'hyphenlaw9.BackAll': WHATEVER THE INPUT: true; the input reads as it did. -/
def backAllSpec : ChangeSpec := { name := "backAll", fn := fun _ => fun
  | [d1, d2, d3, d4, d5] => { results := [.lit (.bool true)], args := [d1, d2, d3, d4, d5] }
  | _ => none }
def backAllRow : OpenClaim := { program := "ytibammoednhnoaa", sum := "2ee80dd6053482e88f9caf19ae48fb6bbc160c6102095d6252cd808ab958bab2", func := "hyphen/hyphenlaw9.BackAll", spec := "backAll", unfollowed := true, recurses := true, loops := true, apart := false }
def BackAllSaid : Prop := backAllRow.holds Try.pinned (OpenSpec.ofChange backAllSpec)

/-- ITS FALSE NEIGHBOUR: 'it returns false'. Refute it at one input. -/
def backAllWrong : ChangeSpec := { name := "backAll", fn := fun _ => fun
  | [d1, d2, d3, d4, d5] => { results := [.lit (.bool false)], args := [d1, d2, d3, d4, d5] }
  | _ => none }
def BackAllWrongFalsely : Prop := backAllRow.holds Try.pinned (OpenSpec.ofChange backAllWrong)

/-- 'hyphenlaw9.BackMeans': WHATEVER THE INPUT: true; the input reads as it did. -/
def backMeansSpec : ChangeSpec := { name := "backMeans", fn := fun _ => fun
  | [d1, d2, d3, d4] => { results := [.lit (.bool true)], args := [d1, d2, d3, d4] }
  | _ => none }
def backMeansRow : OpenClaim := { program := "ytibammoednhnoaa", sum := "2ee80dd6053482e88f9caf19ae48fb6bbc160c6102095d6252cd808ab958bab2", func := "hyphen/hyphenlaw9.BackMeans", spec := "backMeans", unfollowed := true, recurses := true, loops := true, apart := false }
def BackMeansSaid : Prop := backMeansRow.holds Try.pinned (OpenSpec.ofChange backMeansSpec)

/-- ITS FALSE NEIGHBOUR: 'it returns false'. Refute it at one input. -/
def backMeansWrong : ChangeSpec := { name := "backMeans", fn := fun _ => fun
  | [d1, d2, d3, d4] => { results := [.lit (.bool false)], args := [d1, d2, d3, d4] }
  | _ => none }
def BackMeansWrongFalsely : Prop := backMeansRow.holds Try.pinned (OpenSpec.ofChange backMeansWrong)

/-- 'hyphenlaw9.BackSuffix': WHATEVER THE INPUT: true; the input reads as it did. -/
def backSuffixSpec : ChangeSpec := { name := "backSuffix", fn := fun _ => fun
  | [d1, d2, d3, d4, d5] => { results := [.lit (.bool true)], args := [d1, d2, d3, d4, d5] }
  | _ => none }
def backSuffixRow : OpenClaim := { program := "ytibammoednhnoaa", sum := "2ee80dd6053482e88f9caf19ae48fb6bbc160c6102095d6252cd808ab958bab2", func := "hyphen/hyphenlaw9.BackSuffix", spec := "backSuffix", unfollowed := true, recurses := true, loops := true, apart := false }
def BackSuffixSaid : Prop := backSuffixRow.holds Try.pinned (OpenSpec.ofChange backSuffixSpec)

/-- ITS FALSE NEIGHBOUR: 'it returns false'. Refute it at one input. -/
def backSuffixWrong : ChangeSpec := { name := "backSuffix", fn := fun _ => fun
  | [d1, d2, d3, d4, d5] => { results := [.lit (.bool false)], args := [d1, d2, d3, d4, d5] }
  | _ => none }
def BackSuffixWrongFalsely : Prop := backSuffixRow.holds Try.pinned (OpenSpec.ofChange backSuffixWrong)

/-- 'hyphenlaw9.BackBudget': WHATEVER THE INPUT: true; the input reads as it did. -/
def backBudgetSpec : ChangeSpec := { name := "backBudget", fn := fun _ => fun
  | [d1, d2, d3, d4] => { results := [.lit (.bool true)], args := [d1, d2, d3, d4] }
  | _ => none }
def backBudgetRow : OpenClaim := { program := "ytibammoednhnoaa", sum := "2ee80dd6053482e88f9caf19ae48fb6bbc160c6102095d6252cd808ab958bab2", func := "hyphen/hyphenlaw9.BackBudget", spec := "backBudget", unfollowed := true, recurses := true, loops := true, apart := false }
def BackBudgetSaid : Prop := backBudgetRow.holds Try.pinned (OpenSpec.ofChange backBudgetSpec)

/-- ITS FALSE NEIGHBOUR: 'it returns false'. Refute it at one input. -/
def backBudgetWrong : ChangeSpec := { name := "backBudget", fn := fun _ => fun
  | [d1, d2, d3, d4] => { results := [.lit (.bool false)], args := [d1, d2, d3, d4] }
  | _ => none }
def BackBudgetWrongFalsely : Prop := backBudgetRow.holds Try.pinned (OpenSpec.ofChange backBudgetWrong)

/-- 'hyphenlaw9.BackOne': WHATEVER THE INPUT: true; the input reads as it did. -/
def backOneSpec : ChangeSpec := { name := "backOne", fn := fun _ => fun
  | [d1, d2, d3, d4, d5] => { results := [.lit (.bool true)], args := [d1, d2, d3, d4, d5] }
  | _ => none }
def backOneRow : OpenClaim := { program := "ytibammoednhnoaa", sum := "2ee80dd6053482e88f9caf19ae48fb6bbc160c6102095d6252cd808ab958bab2", func := "hyphen/hyphenlaw9.BackOne", spec := "backOne", unfollowed := true, recurses := true, loops := true, apart := false }
def BackOneSaid : Prop := backOneRow.holds Try.pinned (OpenSpec.ofChange backOneSpec)

/-- ITS FALSE NEIGHBOUR: 'it returns false'. Refute it at one input. -/
def backOneWrong : ChangeSpec := { name := "backOne", fn := fun _ => fun
  | [d1, d2, d3, d4, d5] => { results := [.lit (.bool false)], args := [d1, d2, d3, d4, d5] }
  | _ => none }
def BackOneWrongFalsely : Prop := backOneRow.holds Try.pinned (OpenSpec.ofChange backOneWrong)

/-- 'hyphenlaw9.BackTwice': WHATEVER THE INPUT: true; the input reads as it did. -/
def backTwiceSpec : ChangeSpec := { name := "backTwice", fn := fun _ => fun
  | [d1, d2, d3] => { results := [.lit (.bool true)], args := [d1, d2, d3] }
  | _ => none }
def backTwiceRow : OpenClaim := { program := "ytibammoednhnoaa", sum := "2ee80dd6053482e88f9caf19ae48fb6bbc160c6102095d6252cd808ab958bab2", func := "hyphen/hyphenlaw9.BackTwice", spec := "backTwice", unfollowed := true, recurses := true, loops := true, apart := false }
def BackTwiceSaid : Prop := backTwiceRow.holds Try.pinned (OpenSpec.ofChange backTwiceSpec)

/-- ITS FALSE NEIGHBOUR: 'it returns false'. Refute it at one input. -/
def backTwiceWrong : ChangeSpec := { name := "backTwice", fn := fun _ => fun
  | [d1, d2, d3] => { results := [.lit (.bool false)], args := [d1, d2, d3] }
  | _ => none }
def BackTwiceWrongFalsely : Prop := backTwiceRow.holds Try.pinned (OpenSpec.ofChange backTwiceWrong)

/-- 'hyphenlaw9.BackEnd': WHATEVER THE INPUT: true; the input reads as it did. -/
def backEndSpec : ChangeSpec := { name := "backEnd", fn := fun _ => fun
  | [d1, d2, d3, d4] => { results := [.lit (.bool true)], args := [d1, d2, d3, d4] }
  | _ => none }
def backEndRow : OpenClaim := { program := "ytibammoednhnoaa", sum := "2ee80dd6053482e88f9caf19ae48fb6bbc160c6102095d6252cd808ab958bab2", func := "hyphen/hyphenlaw9.BackEnd", spec := "backEnd", unfollowed := true, recurses := true, loops := true, apart := false }
def BackEndSaid : Prop := backEndRow.holds Try.pinned (OpenSpec.ofChange backEndSpec)

/-- ITS FALSE NEIGHBOUR: 'it returns false'. Refute it at one input. -/
def backEndWrong : ChangeSpec := { name := "backEnd", fn := fun _ => fun
  | [d1, d2, d3, d4] => { results := [.lit (.bool false)], args := [d1, d2, d3, d4] }
  | _ => none }
def BackEndWrongFalsely : Prop := backEndRow.holds Try.pinned (OpenSpec.ofChange backEndWrong)

/-- 'hyphenlaw9.BackAny': WHATEVER THE INPUT: true; the input reads as it did. -/
def backAnySpec : ChangeSpec := { name := "backAny", fn := fun _ => fun
  | [d1, d2] => { results := [.lit (.bool true)], args := [d1, d2] }
  | _ => none }
def backAnyRow : OpenClaim := { program := "ytibammoednhnoaa", sum := "2ee80dd6053482e88f9caf19ae48fb6bbc160c6102095d6252cd808ab958bab2", func := "hyphen/hyphenlaw9.BackAny", spec := "backAny", unfollowed := true, recurses := true, apart := false }
def BackAnySaid : Prop := backAnyRow.holds Try.pinned (OpenSpec.ofChange backAnySpec)

/-- ITS FALSE NEIGHBOUR: 'it returns false'. Refute it at one input. -/
def backAnyWrong : ChangeSpec := { name := "backAny", fn := fun _ => fun
  | [d1, d2] => { results := [.lit (.bool false)], args := [d1, d2] }
  | _ => none }
def BackAnyWrongFalsely : Prop := backAnyRow.holds Try.pinned (OpenSpec.ofChange backAnyWrong)

/-- 'hyphenlaw9.BackOwn': WHATEVER THE INPUT: true; the input reads as it did. -/
def backOwnSpec : ChangeSpec := { name := "backOwn", fn := fun _ => fun
  | [d1, d2, d3, d4] => { results := [.lit (.bool true)], args := [d1, d2, d3, d4] }
  | _ => none }
def backOwnRow : OpenClaim := { program := "ytibammoednhnoaa", sum := "2ee80dd6053482e88f9caf19ae48fb6bbc160c6102095d6252cd808ab958bab2", func := "hyphen/hyphenlaw9.BackOwn", spec := "backOwn", unfollowed := true, recurses := true, loops := true, apart := false }
def BackOwnSaid : Prop := backOwnRow.holds Try.pinned (OpenSpec.ofChange backOwnSpec)

/-- ITS FALSE NEIGHBOUR: 'it returns false'. Refute it at one input. -/
def backOwnWrong : ChangeSpec := { name := "backOwn", fn := fun _ => fun
  | [d1, d2, d3, d4] => { results := [.lit (.bool false)], args := [d1, d2, d3, d4] }
  | _ => none }
def BackOwnWrongFalsely : Prop := backOwnRow.holds Try.pinned (OpenSpec.ofChange backOwnWrong)

/- THE SECOND FORM. 'bulk': how many values and letters a reading holds, each counted each time it is reached (what is shared counts as often as it is met; a slice's spare places count too). A statement '..UptoSaid' is the law's where the arguments, and the package variables that the reading takes, are together of bulk at most 1048576: NARROWER than '..Said'. Prove '..Said' where nothing that the law and all that it calls make is longer than what came in: it says more and counts as full. Else prove '..UptoSaid'. A law counts once. -/
mutual
def uptoBulk {H : Type} : DataW H → Nat
  | .lit (.string bytes) => bytes.length + 1
  | .lit _ => 1
  | .nil => 1
  | .ptr d => uptoBulk d + 1
  | .slice elems spare => uptoBulkAll elems + uptoBulkAll spare + 1
  | .agg parts => uptoBulkAll parts + 1
  | .iface _ d => uptoBulk d + 1
  | .map entries => uptoBulkEntries entries + 1
  | .held _ => 1
def uptoBulkAll {H : Type} : List (DataW H) → Nat
  | [] => 0
  | d :: r => uptoBulk d + uptoBulkAll r
def uptoBulkEntries {H : Type} : List (Lit × DataW H) → Nat
  | [] => 0
  | x :: r => uptoBulkEntry x + uptoBulkEntries r
def uptoBulkEntry {H : Type} : Lit × DataW H → Nat
  | (.string bytes, d) => bytes.length + uptoBulk d + 1
  | (_, d) => uptoBulk d + 1
 end
def uptoSmall : (H : Type) → List (DataW H) → Bool := fun _ ds => decide (uptoBulkAll ds ≤ 1048576)
def OpenSpec.upto (s : _root_.Go.ChangeSpec) : _root_.Go.OpenSpec := { _root_.Go.OpenSpec.ofChange s with cond := some uptoSmall }

/-- 'hyphenlaw9.BackAll', WHERE WHAT IT READS IS OF BULK AT MOST 1048576: true; the input reads as it did. -/
def backAllUptoRow : OpenClaim := { program := "ytibammoednhnoaa", sum := "2ee80dd6053482e88f9caf19ae48fb6bbc160c6102095d6252cd808ab958bab2", func := "hyphen/hyphenlaw9.BackAll", spec := "backAll", unfollowed := true, recurses := true, loops := true, apart := false, narrowed := true }
def BackAllUptoSaid : Prop := backAllUptoRow.holds Try.pinned (OpenSpec.upto backAllSpec)

/-- 'hyphenlaw9.BackMeans', WHERE WHAT IT READS IS OF BULK AT MOST 1048576: true; the input reads as it did. -/
def backMeansUptoRow : OpenClaim := { program := "ytibammoednhnoaa", sum := "2ee80dd6053482e88f9caf19ae48fb6bbc160c6102095d6252cd808ab958bab2", func := "hyphen/hyphenlaw9.BackMeans", spec := "backMeans", unfollowed := true, recurses := true, loops := true, apart := false, narrowed := true }
def BackMeansUptoSaid : Prop := backMeansUptoRow.holds Try.pinned (OpenSpec.upto backMeansSpec)

/-- 'hyphenlaw9.BackSuffix', WHERE WHAT IT READS IS OF BULK AT MOST 1048576: true; the input reads as it did. -/
def backSuffixUptoRow : OpenClaim := { program := "ytibammoednhnoaa", sum := "2ee80dd6053482e88f9caf19ae48fb6bbc160c6102095d6252cd808ab958bab2", func := "hyphen/hyphenlaw9.BackSuffix", spec := "backSuffix", unfollowed := true, recurses := true, loops := true, apart := false, narrowed := true }
def BackSuffixUptoSaid : Prop := backSuffixUptoRow.holds Try.pinned (OpenSpec.upto backSuffixSpec)

/-- 'hyphenlaw9.BackBudget', WHERE WHAT IT READS IS OF BULK AT MOST 1048576: true; the input reads as it did. -/
def backBudgetUptoRow : OpenClaim := { program := "ytibammoednhnoaa", sum := "2ee80dd6053482e88f9caf19ae48fb6bbc160c6102095d6252cd808ab958bab2", func := "hyphen/hyphenlaw9.BackBudget", spec := "backBudget", unfollowed := true, recurses := true, loops := true, apart := false, narrowed := true }
def BackBudgetUptoSaid : Prop := backBudgetUptoRow.holds Try.pinned (OpenSpec.upto backBudgetSpec)

/-- 'hyphenlaw9.BackOne', WHERE WHAT IT READS IS OF BULK AT MOST 1048576: true; the input reads as it did. -/
def backOneUptoRow : OpenClaim := { program := "ytibammoednhnoaa", sum := "2ee80dd6053482e88f9caf19ae48fb6bbc160c6102095d6252cd808ab958bab2", func := "hyphen/hyphenlaw9.BackOne", spec := "backOne", unfollowed := true, recurses := true, loops := true, apart := false, narrowed := true }
def BackOneUptoSaid : Prop := backOneUptoRow.holds Try.pinned (OpenSpec.upto backOneSpec)

/-- 'hyphenlaw9.BackTwice', WHERE WHAT IT READS IS OF BULK AT MOST 1048576: true; the input reads as it did. -/
def backTwiceUptoRow : OpenClaim := { program := "ytibammoednhnoaa", sum := "2ee80dd6053482e88f9caf19ae48fb6bbc160c6102095d6252cd808ab958bab2", func := "hyphen/hyphenlaw9.BackTwice", spec := "backTwice", unfollowed := true, recurses := true, loops := true, apart := false, narrowed := true }
def BackTwiceUptoSaid : Prop := backTwiceUptoRow.holds Try.pinned (OpenSpec.upto backTwiceSpec)

/-- 'hyphenlaw9.BackEnd', WHERE WHAT IT READS IS OF BULK AT MOST 1048576: true; the input reads as it did. -/
def backEndUptoRow : OpenClaim := { program := "ytibammoednhnoaa", sum := "2ee80dd6053482e88f9caf19ae48fb6bbc160c6102095d6252cd808ab958bab2", func := "hyphen/hyphenlaw9.BackEnd", spec := "backEnd", unfollowed := true, recurses := true, loops := true, apart := false, narrowed := true }
def BackEndUptoSaid : Prop := backEndUptoRow.holds Try.pinned (OpenSpec.upto backEndSpec)

/-- 'hyphenlaw9.BackAny', WHERE WHAT IT READS IS OF BULK AT MOST 1048576: true; the input reads as it did. -/
def backAnyUptoRow : OpenClaim := { program := "ytibammoednhnoaa", sum := "2ee80dd6053482e88f9caf19ae48fb6bbc160c6102095d6252cd808ab958bab2", func := "hyphen/hyphenlaw9.BackAny", spec := "backAny", unfollowed := true, recurses := true, apart := false, narrowed := true }
def BackAnyUptoSaid : Prop := backAnyUptoRow.holds Try.pinned (OpenSpec.upto backAnySpec)

/-- 'hyphenlaw9.BackOwn', WHERE WHAT IT READS IS OF BULK AT MOST 1048576: true; the input reads as it did. -/
def backOwnUptoRow : OpenClaim := { program := "ytibammoednhnoaa", sum := "2ee80dd6053482e88f9caf19ae48fb6bbc160c6102095d6252cd808ab958bab2", func := "hyphen/hyphenlaw9.BackOwn", spec := "backOwn", unfollowed := true, recurses := true, loops := true, apart := false, narrowed := true }
def BackOwnUptoSaid : Prop := backOwnUptoRow.holds Try.pinned (OpenSpec.upto backOwnSpec)

end Rows
end Go.Proofs.Ytibammoednhnoaa
