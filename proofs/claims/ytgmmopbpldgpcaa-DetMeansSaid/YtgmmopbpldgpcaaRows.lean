/-
  NARROWER THAN 'FOR EVERY INPUT', by the rows' own cells (each row's printed sentence says how): DetAll: loops · DetMeans: loops · DetFronts: loops · DetBudget: loops · DetCosts: loops · DetOne: loops · DetNone: loops · DetLabels: loops · DetSides: loops · DetOwn: loops.
  DERIVED. THE GIVEN ROWS OF THIS SEAT. 10 by the template 'for every input the law returns true; each argument reads behind the call as it read before'; 0 by the template 'total and deterministic' (their statements: YtgmmopbpldgpcaaTotals.lean).
  GIVEN WITH THE SEED: the statements are not yours to turn. If you find one false, say at which input.
  Laid BY PROGRAM, IN A SANDBOX (cutbox-rows.mjs): the forced cells as the released guide's own fill.sh prints them over the translation 58798ebb8b018f78… (all of the seat's roots in one cut). By AI agents, Wed Nov 11 2026. No macro, syntax, notation, axiom, sorry.
-/
import Derived.Test.YtgmmopbpldgpcaaChecked
import GoSem.Claim
import GoSem.ClaimJoined
import GoSem.ClaimMapViews
import Derived.JoinedTies
import Derived.KernelRfl
namespace Go.Proofs.Ytgmmopbpldgpcaa
/- THE CELL 'sum', in the pinned program and in every row, IS THE sha256 OF THE DUMP (.gsa) THAT YtgmmopbpldgpcaaProg.lean LOADS. Nothing in Lean hashes anything: it is a label: what it is worth is what the hold of that sum in a sandbox is worth. -/
noncomputable def Try.pinned : Pinned := { name := "ytgmmopbpldgpcaa", sum := "58798ebb8b018f7882a2387b61cfbb75a8441c7664b41f3cc15ba8ed7883386d", checked := Try.checked }
namespace Rows
def none {H : Type} : Left H := { results := [], args := [] }

/-- 'hyphenlaw10.DetAll': WHATEVER THE INPUT: true; the input reads as it did. -/
def detAllSpec : ChangeSpec := { name := "detAll", fn := fun _ => fun
  | [d1, d2, d3, d4, d5] => { results := [.lit (.bool true)], args := [d1, d2, d3, d4, d5] }
  | _ => none }
def detAllRow : OpenClaim := { program := "ytgmmopbpldgpcaa", sum := "58798ebb8b018f7882a2387b61cfbb75a8441c7664b41f3cc15ba8ed7883386d", func := "hyphen/hyphenlaw10.DetAll", spec := "detAll", recurses := true, loops := true, apart := false }
def DetAllSaid : Prop := detAllRow.holds Try.pinned (OpenSpec.ofChange detAllSpec)

/-- ITS FALSE NEIGHBOUR: 'it returns false'. Refute it at one input. -/
def detAllWrong : ChangeSpec := { name := "detAll", fn := fun _ => fun
  | [d1, d2, d3, d4, d5] => { results := [.lit (.bool false)], args := [d1, d2, d3, d4, d5] }
  | _ => none }
def DetAllWrongFalsely : Prop := detAllRow.holds Try.pinned (OpenSpec.ofChange detAllWrong)

/-- 'hyphenlaw10.DetMeans': WHATEVER THE INPUT: true; the input reads as it did. -/
def detMeansSpec : ChangeSpec := { name := "detMeans", fn := fun _ => fun
  | [d1, d2, d3, d4] => { results := [.lit (.bool true)], args := [d1, d2, d3, d4] }
  | _ => none }
def detMeansRow : OpenClaim := { program := "ytgmmopbpldgpcaa", sum := "58798ebb8b018f7882a2387b61cfbb75a8441c7664b41f3cc15ba8ed7883386d", func := "hyphen/hyphenlaw10.DetMeans", spec := "detMeans", recurses := true, loops := true, apart := false }
def DetMeansSaid : Prop := detMeansRow.holds Try.pinned (OpenSpec.ofChange detMeansSpec)

/-- ITS FALSE NEIGHBOUR: 'it returns false'. Refute it at one input. -/
def detMeansWrong : ChangeSpec := { name := "detMeans", fn := fun _ => fun
  | [d1, d2, d3, d4] => { results := [.lit (.bool false)], args := [d1, d2, d3, d4] }
  | _ => none }
def DetMeansWrongFalsely : Prop := detMeansRow.holds Try.pinned (OpenSpec.ofChange detMeansWrong)

/-- 'hyphenlaw10.DetFronts': WHATEVER THE INPUT: true; the input reads as it did. -/
def detFrontsSpec : ChangeSpec := { name := "detFronts", fn := fun _ => fun
  | [d1, d2, d3, d4, d5, d6] => { results := [.lit (.bool true)], args := [d1, d2, d3, d4, d5, d6] }
  | _ => none }
def detFrontsRow : OpenClaim := { program := "ytgmmopbpldgpcaa", sum := "58798ebb8b018f7882a2387b61cfbb75a8441c7664b41f3cc15ba8ed7883386d", func := "hyphen/hyphenlaw10.DetFronts", spec := "detFronts", recurses := true, loops := true, apart := false }
def DetFrontsSaid : Prop := detFrontsRow.holds Try.pinned (OpenSpec.ofChange detFrontsSpec)

/-- ITS FALSE NEIGHBOUR: 'it returns false'. Refute it at one input. -/
def detFrontsWrong : ChangeSpec := { name := "detFronts", fn := fun _ => fun
  | [d1, d2, d3, d4, d5, d6] => { results := [.lit (.bool false)], args := [d1, d2, d3, d4, d5, d6] }
  | _ => none }
def DetFrontsWrongFalsely : Prop := detFrontsRow.holds Try.pinned (OpenSpec.ofChange detFrontsWrong)

/-- 'hyphenlaw10.DetBudget': WHATEVER THE INPUT: true; the input reads as it did. -/
def detBudgetSpec : ChangeSpec := { name := "detBudget", fn := fun _ => fun
  | [d1, d2, d3, d4] => { results := [.lit (.bool true)], args := [d1, d2, d3, d4] }
  | _ => none }
def detBudgetRow : OpenClaim := { program := "ytgmmopbpldgpcaa", sum := "58798ebb8b018f7882a2387b61cfbb75a8441c7664b41f3cc15ba8ed7883386d", func := "hyphen/hyphenlaw10.DetBudget", spec := "detBudget", recurses := true, loops := true, apart := false }
def DetBudgetSaid : Prop := detBudgetRow.holds Try.pinned (OpenSpec.ofChange detBudgetSpec)

/-- ITS FALSE NEIGHBOUR: 'it returns false'. Refute it at one input. -/
def detBudgetWrong : ChangeSpec := { name := "detBudget", fn := fun _ => fun
  | [d1, d2, d3, d4] => { results := [.lit (.bool false)], args := [d1, d2, d3, d4] }
  | _ => none }
def DetBudgetWrongFalsely : Prop := detBudgetRow.holds Try.pinned (OpenSpec.ofChange detBudgetWrong)

/-- 'hyphenlaw10.DetCosts': WHATEVER THE INPUT: true; the input reads as it did. -/
def detCostsSpec : ChangeSpec := { name := "detCosts", fn := fun _ => fun
  | [d1, d2, d3, d4, d5] => { results := [.lit (.bool true)], args := [d1, d2, d3, d4, d5] }
  | _ => none }
def detCostsRow : OpenClaim := { program := "ytgmmopbpldgpcaa", sum := "58798ebb8b018f7882a2387b61cfbb75a8441c7664b41f3cc15ba8ed7883386d", func := "hyphen/hyphenlaw10.DetCosts", spec := "detCosts", recurses := true, loops := true, apart := false }
def DetCostsSaid : Prop := detCostsRow.holds Try.pinned (OpenSpec.ofChange detCostsSpec)

/-- ITS FALSE NEIGHBOUR: 'it returns false'. Refute it at one input. -/
def detCostsWrong : ChangeSpec := { name := "detCosts", fn := fun _ => fun
  | [d1, d2, d3, d4, d5] => { results := [.lit (.bool false)], args := [d1, d2, d3, d4, d5] }
  | _ => none }
def DetCostsWrongFalsely : Prop := detCostsRow.holds Try.pinned (OpenSpec.ofChange detCostsWrong)

/-- 'hyphenlaw10.DetOne': WHATEVER THE INPUT: true; the input reads as it did. -/
def detOneSpec : ChangeSpec := { name := "detOne", fn := fun _ => fun
  | [d1, d2, d3, d4] => { results := [.lit (.bool true)], args := [d1, d2, d3, d4] }
  | _ => none }
def detOneRow : OpenClaim := { program := "ytgmmopbpldgpcaa", sum := "58798ebb8b018f7882a2387b61cfbb75a8441c7664b41f3cc15ba8ed7883386d", func := "hyphen/hyphenlaw10.DetOne", spec := "detOne", recurses := true, loops := true, apart := false }
def DetOneSaid : Prop := detOneRow.holds Try.pinned (OpenSpec.ofChange detOneSpec)

/-- ITS FALSE NEIGHBOUR: 'it returns false'. Refute it at one input. -/
def detOneWrong : ChangeSpec := { name := "detOne", fn := fun _ => fun
  | [d1, d2, d3, d4] => { results := [.lit (.bool false)], args := [d1, d2, d3, d4] }
  | _ => none }
def DetOneWrongFalsely : Prop := detOneRow.holds Try.pinned (OpenSpec.ofChange detOneWrong)

/-- 'hyphenlaw10.DetNone': WHATEVER THE INPUT: true; the input reads as it did. -/
def detNoneSpec : ChangeSpec := { name := "detNone", fn := fun _ => fun
  | [d1, d2, d3, d4] => { results := [.lit (.bool true)], args := [d1, d2, d3, d4] }
  | _ => none }
def detNoneRow : OpenClaim := { program := "ytgmmopbpldgpcaa", sum := "58798ebb8b018f7882a2387b61cfbb75a8441c7664b41f3cc15ba8ed7883386d", func := "hyphen/hyphenlaw10.DetNone", spec := "detNone", recurses := true, loops := true, apart := false }
def DetNoneSaid : Prop := detNoneRow.holds Try.pinned (OpenSpec.ofChange detNoneSpec)

/-- ITS FALSE NEIGHBOUR: 'it returns false'. Refute it at one input. -/
def detNoneWrong : ChangeSpec := { name := "detNone", fn := fun _ => fun
  | [d1, d2, d3, d4] => { results := [.lit (.bool false)], args := [d1, d2, d3, d4] }
  | _ => none }
def DetNoneWrongFalsely : Prop := detNoneRow.holds Try.pinned (OpenSpec.ofChange detNoneWrong)

/-- 'hyphenlaw10.DetLabels': WHATEVER THE INPUT: true; the input reads as it did. -/
def detLabelsSpec : ChangeSpec := { name := "detLabels", fn := fun _ => fun
  | [d1, d2, d3, d4] => { results := [.lit (.bool true)], args := [d1, d2, d3, d4] }
  | _ => none }
def detLabelsRow : OpenClaim := { program := "ytgmmopbpldgpcaa", sum := "58798ebb8b018f7882a2387b61cfbb75a8441c7664b41f3cc15ba8ed7883386d", func := "hyphen/hyphenlaw10.DetLabels", spec := "detLabels", recurses := true, loops := true, apart := false }
def DetLabelsSaid : Prop := detLabelsRow.holds Try.pinned (OpenSpec.ofChange detLabelsSpec)

/-- ITS FALSE NEIGHBOUR: 'it returns false'. Refute it at one input. -/
def detLabelsWrong : ChangeSpec := { name := "detLabels", fn := fun _ => fun
  | [d1, d2, d3, d4] => { results := [.lit (.bool false)], args := [d1, d2, d3, d4] }
  | _ => none }
def DetLabelsWrongFalsely : Prop := detLabelsRow.holds Try.pinned (OpenSpec.ofChange detLabelsWrong)

/-- 'hyphenlaw10.DetSides': WHATEVER THE INPUT: true; the input reads as it did. -/
def detSidesSpec : ChangeSpec := { name := "detSides", fn := fun _ => fun
  | [d1, d2, d3, d4] => { results := [.lit (.bool true)], args := [d1, d2, d3, d4] }
  | _ => none }
def detSidesRow : OpenClaim := { program := "ytgmmopbpldgpcaa", sum := "58798ebb8b018f7882a2387b61cfbb75a8441c7664b41f3cc15ba8ed7883386d", func := "hyphen/hyphenlaw10.DetSides", spec := "detSides", recurses := true, loops := true, apart := false }
def DetSidesSaid : Prop := detSidesRow.holds Try.pinned (OpenSpec.ofChange detSidesSpec)

/-- ITS FALSE NEIGHBOUR: 'it returns false'. Refute it at one input. -/
def detSidesWrong : ChangeSpec := { name := "detSides", fn := fun _ => fun
  | [d1, d2, d3, d4] => { results := [.lit (.bool false)], args := [d1, d2, d3, d4] }
  | _ => none }
def DetSidesWrongFalsely : Prop := detSidesRow.holds Try.pinned (OpenSpec.ofChange detSidesWrong)

/-- 'hyphenlaw10.DetOwn': WHATEVER THE INPUT: true; the input reads as it did. -/
def detOwnSpec : ChangeSpec := { name := "detOwn", fn := fun _ => fun
  | [d1, d2, d3, d4] => { results := [.lit (.bool true)], args := [d1, d2, d3, d4] }
  | _ => none }
def detOwnRow : OpenClaim := { program := "ytgmmopbpldgpcaa", sum := "58798ebb8b018f7882a2387b61cfbb75a8441c7664b41f3cc15ba8ed7883386d", func := "hyphen/hyphenlaw10.DetOwn", spec := "detOwn", recurses := true, loops := true, apart := false }
def DetOwnSaid : Prop := detOwnRow.holds Try.pinned (OpenSpec.ofChange detOwnSpec)

/-- ITS FALSE NEIGHBOUR: 'it returns false'. Refute it at one input. -/
def detOwnWrong : ChangeSpec := { name := "detOwn", fn := fun _ => fun
  | [d1, d2, d3, d4] => { results := [.lit (.bool false)], args := [d1, d2, d3, d4] }
  | _ => none }
def DetOwnWrongFalsely : Prop := detOwnRow.holds Try.pinned (OpenSpec.ofChange detOwnWrong)

/- THE SECOND FORM. 'bulk': how many values and letters a reading holds, each counted each time it is reached (what is shared counts as often as it is met; a slice's spare places count too). A statement '..UptoSaid' is the law's where the arguments, and the package variables that the reading takes, are together of bulk at most 1048576: NARROWER than '..Said'. Prove '..Said' where nothing that the law and all that it calls make is longer than what came in: it says more and counts as full. Else prove '..UptoSaid'. A law counts once. -/
mutual
def uptoBulk {H : Type} : DataW H → Nat
  | .lit (.string bytes) => bytes.length + 1
  | .lit _ => 1
  | .nil => 1
  | .ptr d => uptoBulk d + 1
  | .slice elems spare => uptoBulkAll elems + uptoBulkAll spare + 1
  | .agg parts => uptoBulkAll parts + 1
  | .iface _ d => uptoBulk d + 1
  | .map entries => uptoBulkEntries entries + 1
  | .held _ => 1
def uptoBulkAll {H : Type} : List (DataW H) → Nat
  | [] => 0
  | d :: r => uptoBulk d + uptoBulkAll r
def uptoBulkEntries {H : Type} : List (Lit × DataW H) → Nat
  | [] => 0
  | x :: r => uptoBulkEntry x + uptoBulkEntries r
def uptoBulkEntry {H : Type} : Lit × DataW H → Nat
  | (.string bytes, d) => bytes.length + uptoBulk d + 1
  | (_, d) => uptoBulk d + 1
 end
def uptoSmall : (H : Type) → List (DataW H) → Bool := fun _ ds => decide (uptoBulkAll ds ≤ 1048576)
def OpenSpec.upto (s : _root_.Go.ChangeSpec) : _root_.Go.OpenSpec := { _root_.Go.OpenSpec.ofChange s with cond := some uptoSmall }

/-- 'hyphenlaw10.DetAll', WHERE WHAT IT READS IS OF BULK AT MOST 1048576: true; the input reads as it did. -/
def detAllUptoRow : OpenClaim := { program := "ytgmmopbpldgpcaa", sum := "58798ebb8b018f7882a2387b61cfbb75a8441c7664b41f3cc15ba8ed7883386d", func := "hyphen/hyphenlaw10.DetAll", spec := "detAll", recurses := true, loops := true, apart := false, narrowed := true }
def DetAllUptoSaid : Prop := detAllUptoRow.holds Try.pinned (OpenSpec.upto detAllSpec)

/-- 'hyphenlaw10.DetMeans', WHERE WHAT IT READS IS OF BULK AT MOST 1048576: true; the input reads as it did. -/
def detMeansUptoRow : OpenClaim := { program := "ytgmmopbpldgpcaa", sum := "58798ebb8b018f7882a2387b61cfbb75a8441c7664b41f3cc15ba8ed7883386d", func := "hyphen/hyphenlaw10.DetMeans", spec := "detMeans", recurses := true, loops := true, apart := false, narrowed := true }
def DetMeansUptoSaid : Prop := detMeansUptoRow.holds Try.pinned (OpenSpec.upto detMeansSpec)

/-- 'hyphenlaw10.DetFronts', WHERE WHAT IT READS IS OF BULK AT MOST 1048576: true; the input reads as it did. -/
def detFrontsUptoRow : OpenClaim := { program := "ytgmmopbpldgpcaa", sum := "58798ebb8b018f7882a2387b61cfbb75a8441c7664b41f3cc15ba8ed7883386d", func := "hyphen/hyphenlaw10.DetFronts", spec := "detFronts", recurses := true, loops := true, apart := false, narrowed := true }
def DetFrontsUptoSaid : Prop := detFrontsUptoRow.holds Try.pinned (OpenSpec.upto detFrontsSpec)

/-- 'hyphenlaw10.DetBudget', WHERE WHAT IT READS IS OF BULK AT MOST 1048576: true; the input reads as it did. -/
def detBudgetUptoRow : OpenClaim := { program := "ytgmmopbpldgpcaa", sum := "58798ebb8b018f7882a2387b61cfbb75a8441c7664b41f3cc15ba8ed7883386d", func := "hyphen/hyphenlaw10.DetBudget", spec := "detBudget", recurses := true, loops := true, apart := false, narrowed := true }
def DetBudgetUptoSaid : Prop := detBudgetUptoRow.holds Try.pinned (OpenSpec.upto detBudgetSpec)

/-- 'hyphenlaw10.DetCosts', WHERE WHAT IT READS IS OF BULK AT MOST 1048576: true; the input reads as it did. -/
def detCostsUptoRow : OpenClaim := { program := "ytgmmopbpldgpcaa", sum := "58798ebb8b018f7882a2387b61cfbb75a8441c7664b41f3cc15ba8ed7883386d", func := "hyphen/hyphenlaw10.DetCosts", spec := "detCosts", recurses := true, loops := true, apart := false, narrowed := true }
def DetCostsUptoSaid : Prop := detCostsUptoRow.holds Try.pinned (OpenSpec.upto detCostsSpec)

/-- 'hyphenlaw10.DetOne', WHERE WHAT IT READS IS OF BULK AT MOST 1048576: true; the input reads as it did. -/
def detOneUptoRow : OpenClaim := { program := "ytgmmopbpldgpcaa", sum := "58798ebb8b018f7882a2387b61cfbb75a8441c7664b41f3cc15ba8ed7883386d", func := "hyphen/hyphenlaw10.DetOne", spec := "detOne", recurses := true, loops := true, apart := false, narrowed := true }
def DetOneUptoSaid : Prop := detOneUptoRow.holds Try.pinned (OpenSpec.upto detOneSpec)

/-- 'hyphenlaw10.DetNone', WHERE WHAT IT READS IS OF BULK AT MOST 1048576: true; the input reads as it did. -/
def detNoneUptoRow : OpenClaim := { program := "ytgmmopbpldgpcaa", sum := "58798ebb8b018f7882a2387b61cfbb75a8441c7664b41f3cc15ba8ed7883386d", func := "hyphen/hyphenlaw10.DetNone", spec := "detNone", recurses := true, loops := true, apart := false, narrowed := true }
def DetNoneUptoSaid : Prop := detNoneUptoRow.holds Try.pinned (OpenSpec.upto detNoneSpec)

/-- 'hyphenlaw10.DetLabels', WHERE WHAT IT READS IS OF BULK AT MOST 1048576: true; the input reads as it did. -/
def detLabelsUptoRow : OpenClaim := { program := "ytgmmopbpldgpcaa", sum := "58798ebb8b018f7882a2387b61cfbb75a8441c7664b41f3cc15ba8ed7883386d", func := "hyphen/hyphenlaw10.DetLabels", spec := "detLabels", recurses := true, loops := true, apart := false, narrowed := true }
def DetLabelsUptoSaid : Prop := detLabelsUptoRow.holds Try.pinned (OpenSpec.upto detLabelsSpec)

/-- 'hyphenlaw10.DetSides', WHERE WHAT IT READS IS OF BULK AT MOST 1048576: true; the input reads as it did. -/
def detSidesUptoRow : OpenClaim := { program := "ytgmmopbpldgpcaa", sum := "58798ebb8b018f7882a2387b61cfbb75a8441c7664b41f3cc15ba8ed7883386d", func := "hyphen/hyphenlaw10.DetSides", spec := "detSides", recurses := true, loops := true, apart := false, narrowed := true }
def DetSidesUptoSaid : Prop := detSidesUptoRow.holds Try.pinned (OpenSpec.upto detSidesSpec)

/-- 'hyphenlaw10.DetOwn', WHERE WHAT IT READS IS OF BULK AT MOST 1048576: true; the input reads as it did. -/
def detOwnUptoRow : OpenClaim := { program := "ytgmmopbpldgpcaa", sum := "58798ebb8b018f7882a2387b61cfbb75a8441c7664b41f3cc15ba8ed7883386d", func := "hyphen/hyphenlaw10.DetOwn", spec := "detOwn", recurses := true, loops := true, apart := false, narrowed := true }
def DetOwnUptoSaid : Prop := detOwnUptoRow.holds Try.pinned (OpenSpec.upto detOwnSpec)

end Rows
end Go.Proofs.Ytgmmopbpldgpcaa
