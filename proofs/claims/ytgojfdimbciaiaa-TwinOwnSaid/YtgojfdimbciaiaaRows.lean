/-
  NARROWER THAN 'FOR EVERY INPUT', by the rows' own cells (each row's printed sentence says how): TwinAll: loops · TwinWays: loops · TwinChecks: loops · TwinOwn: loops.
  DERIVED. THE GIVEN ROWS OF THIS SEAT. 8 by the template 'for every input the law returns true; each argument reads behind the call as it read before'; 0 by the template 'total and deterministic' (their statements: YtgojfdimbciaiaaTotals.lean).
  GIVEN WITH THE SEED: the statements are not yours to turn. If you find one false, say at which input.
  Laid BY PROGRAM, IN A SANDBOX (cutbox-rows.mjs): the forced cells as the released guide's own fill.sh prints them over the translation 007e5498b2897e9c… (all of the seat's roots in one cut). By AI agents, Wed Nov 11 2026. No macro, syntax, notation, axiom, sorry.
-/
import Derived.Test.YtgojfdimbciaiaaChecked
import GoSem.Claim
import GoSem.ClaimJoined
import GoSem.ClaimMapViews
import Derived.JoinedTies
import Derived.KernelRfl
namespace Go.Proofs.Ytgojfdimbciaiaa
/- THE CELL 'sum', in the pinned program and in every row, IS THE sha256 OF THE DUMP (.gsa) THAT YtgojfdimbciaiaaProg.lean LOADS. Nothing in Lean hashes anything: it is a label: what it is worth is what the hold of that sum in a sandbox is worth. -/
noncomputable def Try.pinned : Pinned := { name := "ytgojfdimbciaiaa", sum := "007e5498b2897e9cb4fe3b4d60e4b454a167586647c7df873ff3d9855091906a", checked := Try.checked }
namespace Rows
def none {H : Type} : Left H := { results := [], args := [] }

/-- 'hyphenlaw8.TwinAll': WHATEVER THE INPUT: true; the input reads as it did. -/
def twinAllSpec : ChangeSpec := { name := "twinAll", fn := fun _ => fun
  | [d1, d2] => { results := [.lit (.bool true)], args := [d1, d2] }
  | _ => none }
def twinAllRow : OpenClaim := { program := "ytgojfdimbciaiaa", sum := "007e5498b2897e9cb4fe3b4d60e4b454a167586647c7df873ff3d9855091906a", func := "hyphen/hyphenlaw8.TwinAll", spec := "twinAll", recurses := true, loops := true, apart := false }
def TwinAllSaid : Prop := twinAllRow.holds Try.pinned (OpenSpec.ofChange twinAllSpec)

/-- ITS FALSE NEIGHBOUR: 'it returns false'. Refute it at one input. -/
def twinAllWrong : ChangeSpec := { name := "twinAll", fn := fun _ => fun
  | [d1, d2] => { results := [.lit (.bool false)], args := [d1, d2] }
  | _ => none }
def TwinAllWrongFalsely : Prop := twinAllRow.holds Try.pinned (OpenSpec.ofChange twinAllWrong)

/-- 'hyphenlaw8.TwinWays': WHATEVER THE INPUT: true; the input reads as it did. -/
def twinWaysSpec : ChangeSpec := { name := "twinWays", fn := fun _ => fun
  | [d1, d2, d3, d4] => { results := [.lit (.bool true)], args := [d1, d2, d3, d4] }
  | _ => none }
def twinWaysRow : OpenClaim := { program := "ytgojfdimbciaiaa", sum := "007e5498b2897e9cb4fe3b4d60e4b454a167586647c7df873ff3d9855091906a", func := "hyphen/hyphenlaw8.TwinWays", spec := "twinWays", recurses := true, loops := true, apart := false }
def TwinWaysSaid : Prop := twinWaysRow.holds Try.pinned (OpenSpec.ofChange twinWaysSpec)

/-- ITS FALSE NEIGHBOUR: 'it returns false'. Refute it at one input. -/
def twinWaysWrong : ChangeSpec := { name := "twinWays", fn := fun _ => fun
  | [d1, d2, d3, d4] => { results := [.lit (.bool false)], args := [d1, d2, d3, d4] }
  | _ => none }
def TwinWaysWrongFalsely : Prop := twinWaysRow.holds Try.pinned (OpenSpec.ofChange twinWaysWrong)

/-- 'hyphenlaw8.TwinChecks': WHATEVER THE INPUT: true; the input reads as it did. -/
def twinChecksSpec : ChangeSpec := { name := "twinChecks", fn := fun _ => fun
  | [d1, d2, d3, d4] => { results := [.lit (.bool true)], args := [d1, d2, d3, d4] }
  | _ => none }
def twinChecksRow : OpenClaim := { program := "ytgojfdimbciaiaa", sum := "007e5498b2897e9cb4fe3b4d60e4b454a167586647c7df873ff3d9855091906a", func := "hyphen/hyphenlaw8.TwinChecks", spec := "twinChecks", recurses := true, loops := true, apart := false }
def TwinChecksSaid : Prop := twinChecksRow.holds Try.pinned (OpenSpec.ofChange twinChecksSpec)

/-- ITS FALSE NEIGHBOUR: 'it returns false'. Refute it at one input. -/
def twinChecksWrong : ChangeSpec := { name := "twinChecks", fn := fun _ => fun
  | [d1, d2, d3, d4] => { results := [.lit (.bool false)], args := [d1, d2, d3, d4] }
  | _ => none }
def TwinChecksWrongFalsely : Prop := twinChecksRow.holds Try.pinned (OpenSpec.ofChange twinChecksWrong)

/-- 'hyphenlaw8.TwinStars': WHATEVER THE INPUT: true; the input reads as it did. -/
def twinStarsSpec : ChangeSpec := { name := "twinStars", fn := fun _ => fun
  | [d1, d2, d3] => { results := [.lit (.bool true)], args := [d1, d2, d3] }
  | _ => none }
def twinStarsRow : OpenClaim := { program := "ytgojfdimbciaiaa", sum := "007e5498b2897e9cb4fe3b4d60e4b454a167586647c7df873ff3d9855091906a", func := "hyphen/hyphenlaw8.TwinStars", spec := "twinStars", recurses := true, apart := false }
def TwinStarsSaid : Prop := twinStarsRow.holds Try.pinned (OpenSpec.ofChange twinStarsSpec)

/-- ITS FALSE NEIGHBOUR: 'it returns false'. Refute it at one input. -/
def twinStarsWrong : ChangeSpec := { name := "twinStars", fn := fun _ => fun
  | [d1, d2, d3] => { results := [.lit (.bool false)], args := [d1, d2, d3] }
  | _ => none }
def TwinStarsWrongFalsely : Prop := twinStarsRow.holds Try.pinned (OpenSpec.ofChange twinStarsWrong)

/-- 'hyphenlaw8.TwinRings': WHATEVER THE INPUT: true; the input reads as it did. -/
def twinRingsSpec : ChangeSpec := { name := "twinRings", fn := fun _ => fun
  | [d1, d2, d3] => { results := [.lit (.bool true)], args := [d1, d2, d3] }
  | _ => none }
def twinRingsRow : OpenClaim := { program := "ytgojfdimbciaiaa", sum := "007e5498b2897e9cb4fe3b4d60e4b454a167586647c7df873ff3d9855091906a", func := "hyphen/hyphenlaw8.TwinRings", spec := "twinRings", apart := false }
def TwinRingsSaid : Prop := twinRingsRow.holds Try.pinned (OpenSpec.ofChange twinRingsSpec)

/-- ITS FALSE NEIGHBOUR: 'it returns false'. Refute it at one input. -/
def twinRingsWrong : ChangeSpec := { name := "twinRings", fn := fun _ => fun
  | [d1, d2, d3] => { results := [.lit (.bool false)], args := [d1, d2, d3] }
  | _ => none }
def TwinRingsWrongFalsely : Prop := twinRingsRow.holds Try.pinned (OpenSpec.ofChange twinRingsWrong)

/-- 'hyphenlaw8.TwinTurned': WHATEVER THE INPUT: true; the input reads as it did. -/
def twinTurnedSpec : ChangeSpec := { name := "twinTurned", fn := fun _ => fun
  | [d1, d2, d3, d4] => { results := [.lit (.bool true)], args := [d1, d2, d3, d4] }
  | _ => none }
def twinTurnedRow : OpenClaim := { program := "ytgojfdimbciaiaa", sum := "007e5498b2897e9cb4fe3b4d60e4b454a167586647c7df873ff3d9855091906a", func := "hyphen/hyphenlaw8.TwinTurned", spec := "twinTurned", apart := false }
def TwinTurnedSaid : Prop := twinTurnedRow.holds Try.pinned (OpenSpec.ofChange twinTurnedSpec)

/-- ITS FALSE NEIGHBOUR: 'it returns false'. Refute it at one input. -/
def twinTurnedWrong : ChangeSpec := { name := "twinTurned", fn := fun _ => fun
  | [d1, d2, d3, d4] => { results := [.lit (.bool false)], args := [d1, d2, d3, d4] }
  | _ => none }
def TwinTurnedWrongFalsely : Prop := twinTurnedRow.holds Try.pinned (OpenSpec.ofChange twinTurnedWrong)

/-- 'hyphenlaw8.TwinNone': WHATEVER THE INPUT: true; the input reads as it did. -/
def twinNoneSpec : ChangeSpec := { name := "twinNone", fn := fun _ => fun
  | [d1, d2, d3] => { results := [.lit (.bool true)], args := [d1, d2, d3] }
  | _ => none }
def twinNoneRow : OpenClaim := { program := "ytgojfdimbciaiaa", sum := "007e5498b2897e9cb4fe3b4d60e4b454a167586647c7df873ff3d9855091906a", func := "hyphen/hyphenlaw8.TwinNone", spec := "twinNone", apart := false }
def TwinNoneSaid : Prop := twinNoneRow.holds Try.pinned (OpenSpec.ofChange twinNoneSpec)

/-- ITS FALSE NEIGHBOUR: 'it returns false'. Refute it at one input. -/
def twinNoneWrong : ChangeSpec := { name := "twinNone", fn := fun _ => fun
  | [d1, d2, d3] => { results := [.lit (.bool false)], args := [d1, d2, d3] }
  | _ => none }
def TwinNoneWrongFalsely : Prop := twinNoneRow.holds Try.pinned (OpenSpec.ofChange twinNoneWrong)

/-- 'hyphenlaw8.TwinOwn': WHATEVER THE INPUT: true; the input reads as it did. -/
def twinOwnSpec : ChangeSpec := { name := "twinOwn", fn := fun _ => fun
  | [d1, d2, d3] => { results := [.lit (.bool true)], args := [d1, d2, d3] }
  | _ => none }
def twinOwnRow : OpenClaim := { program := "ytgojfdimbciaiaa", sum := "007e5498b2897e9cb4fe3b4d60e4b454a167586647c7df873ff3d9855091906a", func := "hyphen/hyphenlaw8.TwinOwn", spec := "twinOwn", recurses := true, loops := true, apart := false }
def TwinOwnSaid : Prop := twinOwnRow.holds Try.pinned (OpenSpec.ofChange twinOwnSpec)

/-- ITS FALSE NEIGHBOUR: 'it returns false'. Refute it at one input. -/
def twinOwnWrong : ChangeSpec := { name := "twinOwn", fn := fun _ => fun
  | [d1, d2, d3] => { results := [.lit (.bool false)], args := [d1, d2, d3] }
  | _ => none }
def TwinOwnWrongFalsely : Prop := twinOwnRow.holds Try.pinned (OpenSpec.ofChange twinOwnWrong)

/- THE SECOND FORM. 'bulk': how many values and letters a reading holds, each counted each time it is reached (what is shared counts as often as it is met; a slice's spare places count too). A statement '..UptoSaid' is the law's where the arguments, and the package variables that the reading takes, are together of bulk at most 1048576: NARROWER than '..Said'. Prove '..Said' where nothing that the law and all that it calls make is longer than what came in: it says more and counts as full. Else prove '..UptoSaid'. A law counts once. -/
mutual
def uptoBulk {H : Type} : DataW H → Nat
  | .lit (.string bytes) => bytes.length + 1
  | .lit _ => 1
  | .nil => 1
  | .ptr d => uptoBulk d + 1
  | .slice elems spare => uptoBulkAll elems + uptoBulkAll spare + 1
  | .agg parts => uptoBulkAll parts + 1
  | .iface _ d => uptoBulk d + 1
  | .map entries => uptoBulkEntries entries + 1
  | .held _ => 1
def uptoBulkAll {H : Type} : List (DataW H) → Nat
  | [] => 0
  | d :: r => uptoBulk d + uptoBulkAll r
def uptoBulkEntries {H : Type} : List (Lit × DataW H) → Nat
  | [] => 0
  | x :: r => uptoBulkEntry x + uptoBulkEntries r
def uptoBulkEntry {H : Type} : Lit × DataW H → Nat
  | (.string bytes, d) => bytes.length + uptoBulk d + 1
  | (_, d) => uptoBulk d + 1
 end
def uptoSmall : (H : Type) → List (DataW H) → Bool := fun _ ds => decide (uptoBulkAll ds ≤ 1048576)
def OpenSpec.upto (s : _root_.Go.ChangeSpec) : _root_.Go.OpenSpec := { _root_.Go.OpenSpec.ofChange s with cond := some uptoSmall }

/-- 'hyphenlaw8.TwinAll', WHERE WHAT IT READS IS OF BULK AT MOST 1048576: true; the input reads as it did. -/
def twinAllUptoRow : OpenClaim := { program := "ytgojfdimbciaiaa", sum := "007e5498b2897e9cb4fe3b4d60e4b454a167586647c7df873ff3d9855091906a", func := "hyphen/hyphenlaw8.TwinAll", spec := "twinAll", recurses := true, loops := true, apart := false, narrowed := true }
def TwinAllUptoSaid : Prop := twinAllUptoRow.holds Try.pinned (OpenSpec.upto twinAllSpec)

/-- 'hyphenlaw8.TwinWays', WHERE WHAT IT READS IS OF BULK AT MOST 1048576: true; the input reads as it did. -/
def twinWaysUptoRow : OpenClaim := { program := "ytgojfdimbciaiaa", sum := "007e5498b2897e9cb4fe3b4d60e4b454a167586647c7df873ff3d9855091906a", func := "hyphen/hyphenlaw8.TwinWays", spec := "twinWays", recurses := true, loops := true, apart := false, narrowed := true }
def TwinWaysUptoSaid : Prop := twinWaysUptoRow.holds Try.pinned (OpenSpec.upto twinWaysSpec)

/-- 'hyphenlaw8.TwinChecks', WHERE WHAT IT READS IS OF BULK AT MOST 1048576: true; the input reads as it did. -/
def twinChecksUptoRow : OpenClaim := { program := "ytgojfdimbciaiaa", sum := "007e5498b2897e9cb4fe3b4d60e4b454a167586647c7df873ff3d9855091906a", func := "hyphen/hyphenlaw8.TwinChecks", spec := "twinChecks", recurses := true, loops := true, apart := false, narrowed := true }
def TwinChecksUptoSaid : Prop := twinChecksUptoRow.holds Try.pinned (OpenSpec.upto twinChecksSpec)

/-- 'hyphenlaw8.TwinStars', WHERE WHAT IT READS IS OF BULK AT MOST 1048576: true; the input reads as it did. -/
def twinStarsUptoRow : OpenClaim := { program := "ytgojfdimbciaiaa", sum := "007e5498b2897e9cb4fe3b4d60e4b454a167586647c7df873ff3d9855091906a", func := "hyphen/hyphenlaw8.TwinStars", spec := "twinStars", recurses := true, apart := false, narrowed := true }
def TwinStarsUptoSaid : Prop := twinStarsUptoRow.holds Try.pinned (OpenSpec.upto twinStarsSpec)

/-- 'hyphenlaw8.TwinRings', WHERE WHAT IT READS IS OF BULK AT MOST 1048576: true; the input reads as it did. -/
def twinRingsUptoRow : OpenClaim := { program := "ytgojfdimbciaiaa", sum := "007e5498b2897e9cb4fe3b4d60e4b454a167586647c7df873ff3d9855091906a", func := "hyphen/hyphenlaw8.TwinRings", spec := "twinRings", apart := false, narrowed := true }
def TwinRingsUptoSaid : Prop := twinRingsUptoRow.holds Try.pinned (OpenSpec.upto twinRingsSpec)

/-- 'hyphenlaw8.TwinTurned', WHERE WHAT IT READS IS OF BULK AT MOST 1048576: true; the input reads as it did. -/
def twinTurnedUptoRow : OpenClaim := { program := "ytgojfdimbciaiaa", sum := "007e5498b2897e9cb4fe3b4d60e4b454a167586647c7df873ff3d9855091906a", func := "hyphen/hyphenlaw8.TwinTurned", spec := "twinTurned", apart := false, narrowed := true }
def TwinTurnedUptoSaid : Prop := twinTurnedUptoRow.holds Try.pinned (OpenSpec.upto twinTurnedSpec)

/-- 'hyphenlaw8.TwinNone', WHERE WHAT IT READS IS OF BULK AT MOST 1048576: true; the input reads as it did. -/
def twinNoneUptoRow : OpenClaim := { program := "ytgojfdimbciaiaa", sum := "007e5498b2897e9cb4fe3b4d60e4b454a167586647c7df873ff3d9855091906a", func := "hyphen/hyphenlaw8.TwinNone", spec := "twinNone", apart := false, narrowed := true }
def TwinNoneUptoSaid : Prop := twinNoneUptoRow.holds Try.pinned (OpenSpec.upto twinNoneSpec)

/-- 'hyphenlaw8.TwinOwn', WHERE WHAT IT READS IS OF BULK AT MOST 1048576: true; the input reads as it did. -/
def twinOwnUptoRow : OpenClaim := { program := "ytgojfdimbciaiaa", sum := "007e5498b2897e9cb4fe3b4d60e4b454a167586647c7df873ff3d9855091906a", func := "hyphen/hyphenlaw8.TwinOwn", spec := "twinOwn", recurses := true, loops := true, apart := false, narrowed := true }
def TwinOwnUptoSaid : Prop := twinOwnUptoRow.holds Try.pinned (OpenSpec.upto twinOwnSpec)

end Rows
end Go.Proofs.Ytgojfdimbciaiaa
