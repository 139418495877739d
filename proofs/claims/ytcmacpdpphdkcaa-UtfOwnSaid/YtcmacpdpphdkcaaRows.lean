/-
  No cell of these rows narrows 'for every input' (looked for: loops, veiled, ifaces, maps, wideKeys, modest, calm, conditions, laid).
  DERIVED. THE GIVEN ROWS OF THIS SEAT. 9 by the template 'for every input the law returns true; each argument reads behind the call as it read before'; 0 by the template 'total and deterministic' (their statements: YtcmacpdpphdkcaaTotals.lean).
  GIVEN WITH THE SEED: the statements are not yours to turn. If you find one false, say at which input.
  Laid BY PROGRAM, IN A SANDBOX (cutbox-rows.mjs): the forced cells as the released guide's own fill.sh prints them over the translation bb4d63d5abaca796… (all of the seat's roots in one cut). By AI agents, Wed Nov 11 2026. No macro, syntax, notation, axiom, sorry.
-/
import Derived.Test.YtcmacpdpphdkcaaChecked
import GoSem.Claim
import GoSem.ClaimJoined
import GoSem.ClaimMapViews
import Derived.JoinedTies
import Derived.KernelRfl
namespace Go.Proofs.Ytcmacpdpphdkcaa
/- THE CELL 'sum', in the pinned program and in every row, IS THE sha256 OF THE DUMP (.gsa) THAT YtcmacpdpphdkcaaProg.lean LOADS. Nothing in Lean hashes anything: it is a label: what it is worth is what the hold of that sum in a sandbox is worth. -/
noncomputable def Try.pinned : Pinned := { name := "ytcmacpdpphdkcaa", sum := "bb4d63d5abaca79610f02ceba0ac4de5e3797ed9853f39d9ea342e6b4c268420", checked := Try.checked }
namespace Rows
def none {H : Type} : Left H := { results := [], args := [] }

/-- 'hyphenlaw2.UtfDecodes': WHATEVER THE INPUT: true; the input reads as it did. -/
def utfDecodesSpec : ChangeSpec := { name := "utfDecodes", fn := fun _ => fun
  | [d1, d2] => { results := [.lit (.bool true)], args := [d1, d2] }
  | _ => none }
def utfDecodesRow : OpenClaim := { program := "ytcmacpdpphdkcaa", sum := "bb4d63d5abaca79610f02ceba0ac4de5e3797ed9853f39d9ea342e6b4c268420", func := "hyphen/hyphenlaw2.UtfDecodes", spec := "utfDecodes", unfollowed := true, recurses := true, apart := false }
def UtfDecodesSaid : Prop := utfDecodesRow.holds Try.pinned (OpenSpec.ofChange utfDecodesSpec)

/-- ITS FALSE NEIGHBOUR: 'it returns false'. Refute it at one input. -/
def utfDecodesWrong : ChangeSpec := { name := "utfDecodes", fn := fun _ => fun
  | [d1, d2] => { results := [.lit (.bool false)], args := [d1, d2] }
  | _ => none }
def UtfDecodesWrongFalsely : Prop := utfDecodesRow.holds Try.pinned (OpenSpec.ofChange utfDecodesWrong)

/-- 'hyphenlaw2.UtfBack': WHATEVER THE INPUT: true; the input reads as it did. -/
def utfBackSpec : ChangeSpec := { name := "utfBack", fn := fun _ => fun
  | [d1, d2] => { results := [.lit (.bool true)], args := [d1, d2] }
  | _ => none }
def utfBackRow : OpenClaim := { program := "ytcmacpdpphdkcaa", sum := "bb4d63d5abaca79610f02ceba0ac4de5e3797ed9853f39d9ea342e6b4c268420", func := "hyphen/hyphenlaw2.UtfBack", spec := "utfBack", unfollowed := true, recurses := true, apart := false }
def UtfBackSaid : Prop := utfBackRow.holds Try.pinned (OpenSpec.ofChange utfBackSpec)

/-- ITS FALSE NEIGHBOUR: 'it returns false'. Refute it at one input. -/
def utfBackWrong : ChangeSpec := { name := "utfBack", fn := fun _ => fun
  | [d1, d2] => { results := [.lit (.bool false)], args := [d1, d2] }
  | _ => none }
def UtfBackWrongFalsely : Prop := utfBackRow.holds Try.pinned (OpenSpec.ofChange utfBackWrong)

/-- 'hyphenlaw2.UtfPlaces': WHATEVER THE INPUT: true; the input reads as it did. -/
def utfPlacesSpec : ChangeSpec := { name := "utfPlaces", fn := fun _ => fun
  | [d1, d2] => { results := [.lit (.bool true)], args := [d1, d2] }
  | _ => none }
def utfPlacesRow : OpenClaim := { program := "ytcmacpdpphdkcaa", sum := "bb4d63d5abaca79610f02ceba0ac4de5e3797ed9853f39d9ea342e6b4c268420", func := "hyphen/hyphenlaw2.UtfPlaces", spec := "utfPlaces", unfollowed := true, recurses := true, apart := false }
def UtfPlacesSaid : Prop := utfPlacesRow.holds Try.pinned (OpenSpec.ofChange utfPlacesSpec)

/-- ITS FALSE NEIGHBOUR: 'it returns false'. Refute it at one input. -/
def utfPlacesWrong : ChangeSpec := { name := "utfPlaces", fn := fun _ => fun
  | [d1, d2] => { results := [.lit (.bool false)], args := [d1, d2] }
  | _ => none }
def UtfPlacesWrongFalsely : Prop := utfPlacesRow.holds Try.pinned (OpenSpec.ofChange utfPlacesWrong)

/-- 'hyphenlaw2.UtfParts': WHATEVER THE INPUT: true; the input reads as it did. -/
def utfPartsSpec : ChangeSpec := { name := "utfParts", fn := fun _ => fun
  | [d1, d2, d3] => { results := [.lit (.bool true)], args := [d1, d2, d3] }
  | _ => none }
def utfPartsRow : OpenClaim := { program := "ytcmacpdpphdkcaa", sum := "bb4d63d5abaca79610f02ceba0ac4de5e3797ed9853f39d9ea342e6b4c268420", func := "hyphen/hyphenlaw2.UtfParts", spec := "utfParts", unfollowed := true, recurses := true, apart := false }
def UtfPartsSaid : Prop := utfPartsRow.holds Try.pinned (OpenSpec.ofChange utfPartsSpec)

/-- ITS FALSE NEIGHBOUR: 'it returns false'. Refute it at one input. -/
def utfPartsWrong : ChangeSpec := { name := "utfParts", fn := fun _ => fun
  | [d1, d2, d3] => { results := [.lit (.bool false)], args := [d1, d2, d3] }
  | _ => none }
def UtfPartsWrongFalsely : Prop := utfPartsRow.holds Try.pinned (OpenSpec.ofChange utfPartsWrong)

/-- 'hyphenlaw2.UtfScalars': WHATEVER THE INPUT: true; the input reads as it did. -/
def utfScalarsSpec : ChangeSpec := { name := "utfScalars", fn := fun _ => fun
  | [d1, d2] => { results := [.lit (.bool true)], args := [d1, d2] }
  | _ => none }
def utfScalarsRow : OpenClaim := { program := "ytcmacpdpphdkcaa", sum := "bb4d63d5abaca79610f02ceba0ac4de5e3797ed9853f39d9ea342e6b4c268420", func := "hyphen/hyphenlaw2.UtfScalars", spec := "utfScalars", unfollowed := true, recurses := true, apart := false }
def UtfScalarsSaid : Prop := utfScalarsRow.holds Try.pinned (OpenSpec.ofChange utfScalarsSpec)

/-- ITS FALSE NEIGHBOUR: 'it returns false'. Refute it at one input. -/
def utfScalarsWrong : ChangeSpec := { name := "utfScalars", fn := fun _ => fun
  | [d1, d2] => { results := [.lit (.bool false)], args := [d1, d2] }
  | _ => none }
def UtfScalarsWrongFalsely : Prop := utfScalarsRow.holds Try.pinned (OpenSpec.ofChange utfScalarsWrong)

/-- 'hyphenlaw2.UtfCat': WHATEVER THE INPUT: true; the input reads as it did. -/
def utfCatSpec : ChangeSpec := { name := "utfCat", fn := fun _ => fun
  | [d1, d2, d3] => { results := [.lit (.bool true)], args := [d1, d2, d3] }
  | _ => none }
def utfCatRow : OpenClaim := { program := "ytcmacpdpphdkcaa", sum := "bb4d63d5abaca79610f02ceba0ac4de5e3797ed9853f39d9ea342e6b4c268420", func := "hyphen/hyphenlaw2.UtfCat", spec := "utfCat", unfollowed := true, recurses := true, apart := false }
def UtfCatSaid : Prop := utfCatRow.holds Try.pinned (OpenSpec.ofChange utfCatSpec)

/-- ITS FALSE NEIGHBOUR: 'it returns false'. Refute it at one input. -/
def utfCatWrong : ChangeSpec := { name := "utfCat", fn := fun _ => fun
  | [d1, d2, d3] => { results := [.lit (.bool false)], args := [d1, d2, d3] }
  | _ => none }
def UtfCatWrongFalsely : Prop := utfCatRow.holds Try.pinned (OpenSpec.ofChange utfCatWrong)

/-- 'hyphenlaw2.UtfSizes': WHATEVER THE INPUT: true; the input reads as it did. -/
def utfSizesSpec : ChangeSpec := { name := "utfSizes", fn := fun _ => fun
  | [d] => { results := [.lit (.bool true)], args := [d] }
  | _ => none }
def utfSizesRow : OpenClaim := { program := "ytcmacpdpphdkcaa", sum := "bb4d63d5abaca79610f02ceba0ac4de5e3797ed9853f39d9ea342e6b4c268420", func := "hyphen/hyphenlaw2.UtfSizes", spec := "utfSizes", unfollowed := true, recurses := true, apart := false }
def UtfSizesSaid : Prop := utfSizesRow.holds Try.pinned (OpenSpec.ofChange utfSizesSpec)

/-- ITS FALSE NEIGHBOUR: 'it returns false'. Refute it at one input. -/
def utfSizesWrong : ChangeSpec := { name := "utfSizes", fn := fun _ => fun
  | [d] => { results := [.lit (.bool false)], args := [d] }
  | _ => none }
def UtfSizesWrongFalsely : Prop := utfSizesRow.holds Try.pinned (OpenSpec.ofChange utfSizesWrong)

/-- 'hyphenlaw2.UtfKnown': WHATEVER THE INPUT: true; the input reads as it did. -/
def utfKnownSpec : ChangeSpec := { name := "utfKnown", fn := fun _ => fun
  | [d] => { results := [.lit (.bool true)], args := [d] }
  | _ => none }
def utfKnownRow : OpenClaim := { program := "ytcmacpdpphdkcaa", sum := "bb4d63d5abaca79610f02ceba0ac4de5e3797ed9853f39d9ea342e6b4c268420", func := "hyphen/hyphenlaw2.UtfKnown", spec := "utfKnown", unfollowed := true, recurses := true, apart := false }
def UtfKnownSaid : Prop := utfKnownRow.holds Try.pinned (OpenSpec.ofChange utfKnownSpec)

/-- ITS FALSE NEIGHBOUR: 'it returns false'. Refute it at one input. -/
def utfKnownWrong : ChangeSpec := { name := "utfKnown", fn := fun _ => fun
  | [d] => { results := [.lit (.bool false)], args := [d] }
  | _ => none }
def UtfKnownWrongFalsely : Prop := utfKnownRow.holds Try.pinned (OpenSpec.ofChange utfKnownWrong)

/-- 'hyphenlaw2.UtfOwn': WHATEVER THE INPUT: true; the input reads as it did. -/
def utfOwnSpec : ChangeSpec := { name := "utfOwn", fn := fun _ => fun
  | [d1, d2] => { results := [.lit (.bool true)], args := [d1, d2] }
  | _ => none }
def utfOwnRow : OpenClaim := { program := "ytcmacpdpphdkcaa", sum := "bb4d63d5abaca79610f02ceba0ac4de5e3797ed9853f39d9ea342e6b4c268420", func := "hyphen/hyphenlaw2.UtfOwn", spec := "utfOwn", unfollowed := true, recurses := true, apart := false }
def UtfOwnSaid : Prop := utfOwnRow.holds Try.pinned (OpenSpec.ofChange utfOwnSpec)

/-- ITS FALSE NEIGHBOUR: 'it returns false'. Refute it at one input. -/
def utfOwnWrong : ChangeSpec := { name := "utfOwn", fn := fun _ => fun
  | [d1, d2] => { results := [.lit (.bool false)], args := [d1, d2] }
  | _ => none }
def UtfOwnWrongFalsely : Prop := utfOwnRow.holds Try.pinned (OpenSpec.ofChange utfOwnWrong)

/- THE SECOND FORM. 'bulk': how many values and letters a reading holds, each counted each time it is reached (what is shared counts as often as it is met; a slice's spare places count too). A statement '..UptoSaid' is the law's where the arguments, and the package variables that the reading takes, are together of bulk at most 1048576: NARROWER than '..Said'. Prove '..Said' where nothing that the law and all that it calls make is longer than what came in: it says more and counts as full. Else prove '..UptoSaid'. A law counts once. -/
mutual
def uptoBulk {H : Type} : DataW H → Nat
  | .lit (.string bytes) => bytes.length + 1
  | .lit _ => 1
  | .nil => 1
  | .ptr d => uptoBulk d + 1
  | .slice elems spare => uptoBulkAll elems + uptoBulkAll spare + 1
  | .agg parts => uptoBulkAll parts + 1
  | .iface _ d => uptoBulk d + 1
  | .map entries => uptoBulkEntries entries + 1
  | .held _ => 1
def uptoBulkAll {H : Type} : List (DataW H) → Nat
  | [] => 0
  | d :: r => uptoBulk d + uptoBulkAll r
def uptoBulkEntries {H : Type} : List (Lit × DataW H) → Nat
  | [] => 0
  | x :: r => uptoBulkEntry x + uptoBulkEntries r
def uptoBulkEntry {H : Type} : Lit × DataW H → Nat
  | (.string bytes, d) => bytes.length + uptoBulk d + 1
  | (_, d) => uptoBulk d + 1
 end
def uptoSmall : (H : Type) → List (DataW H) → Bool := fun _ ds => decide (uptoBulkAll ds ≤ 1048576)
def OpenSpec.upto (s : _root_.Go.ChangeSpec) : _root_.Go.OpenSpec := { _root_.Go.OpenSpec.ofChange s with cond := some uptoSmall }

/-- 'hyphenlaw2.UtfDecodes', WHERE WHAT IT READS IS OF BULK AT MOST 1048576: true; the input reads as it did. -/
def utfDecodesUptoRow : OpenClaim := { program := "ytcmacpdpphdkcaa", sum := "bb4d63d5abaca79610f02ceba0ac4de5e3797ed9853f39d9ea342e6b4c268420", func := "hyphen/hyphenlaw2.UtfDecodes", spec := "utfDecodes", unfollowed := true, recurses := true, apart := false, narrowed := true }
def UtfDecodesUptoSaid : Prop := utfDecodesUptoRow.holds Try.pinned (OpenSpec.upto utfDecodesSpec)

/-- 'hyphenlaw2.UtfBack', WHERE WHAT IT READS IS OF BULK AT MOST 1048576: true; the input reads as it did. -/
def utfBackUptoRow : OpenClaim := { program := "ytcmacpdpphdkcaa", sum := "bb4d63d5abaca79610f02ceba0ac4de5e3797ed9853f39d9ea342e6b4c268420", func := "hyphen/hyphenlaw2.UtfBack", spec := "utfBack", unfollowed := true, recurses := true, apart := false, narrowed := true }
def UtfBackUptoSaid : Prop := utfBackUptoRow.holds Try.pinned (OpenSpec.upto utfBackSpec)

/-- 'hyphenlaw2.UtfPlaces', WHERE WHAT IT READS IS OF BULK AT MOST 1048576: true; the input reads as it did. -/
def utfPlacesUptoRow : OpenClaim := { program := "ytcmacpdpphdkcaa", sum := "bb4d63d5abaca79610f02ceba0ac4de5e3797ed9853f39d9ea342e6b4c268420", func := "hyphen/hyphenlaw2.UtfPlaces", spec := "utfPlaces", unfollowed := true, recurses := true, apart := false, narrowed := true }
def UtfPlacesUptoSaid : Prop := utfPlacesUptoRow.holds Try.pinned (OpenSpec.upto utfPlacesSpec)

/-- 'hyphenlaw2.UtfParts', WHERE WHAT IT READS IS OF BULK AT MOST 1048576: true; the input reads as it did. -/
def utfPartsUptoRow : OpenClaim := { program := "ytcmacpdpphdkcaa", sum := "bb4d63d5abaca79610f02ceba0ac4de5e3797ed9853f39d9ea342e6b4c268420", func := "hyphen/hyphenlaw2.UtfParts", spec := "utfParts", unfollowed := true, recurses := true, apart := false, narrowed := true }
def UtfPartsUptoSaid : Prop := utfPartsUptoRow.holds Try.pinned (OpenSpec.upto utfPartsSpec)

/-- 'hyphenlaw2.UtfScalars', WHERE WHAT IT READS IS OF BULK AT MOST 1048576: true; the input reads as it did. -/
def utfScalarsUptoRow : OpenClaim := { program := "ytcmacpdpphdkcaa", sum := "bb4d63d5abaca79610f02ceba0ac4de5e3797ed9853f39d9ea342e6b4c268420", func := "hyphen/hyphenlaw2.UtfScalars", spec := "utfScalars", unfollowed := true, recurses := true, apart := false, narrowed := true }
def UtfScalarsUptoSaid : Prop := utfScalarsUptoRow.holds Try.pinned (OpenSpec.upto utfScalarsSpec)

/-- 'hyphenlaw2.UtfCat', WHERE WHAT IT READS IS OF BULK AT MOST 1048576: true; the input reads as it did. -/
def utfCatUptoRow : OpenClaim := { program := "ytcmacpdpphdkcaa", sum := "bb4d63d5abaca79610f02ceba0ac4de5e3797ed9853f39d9ea342e6b4c268420", func := "hyphen/hyphenlaw2.UtfCat", spec := "utfCat", unfollowed := true, recurses := true, apart := false, narrowed := true }
def UtfCatUptoSaid : Prop := utfCatUptoRow.holds Try.pinned (OpenSpec.upto utfCatSpec)

/-- 'hyphenlaw2.UtfSizes', WHERE WHAT IT READS IS OF BULK AT MOST 1048576: true; the input reads as it did. -/
def utfSizesUptoRow : OpenClaim := { program := "ytcmacpdpphdkcaa", sum := "bb4d63d5abaca79610f02ceba0ac4de5e3797ed9853f39d9ea342e6b4c268420", func := "hyphen/hyphenlaw2.UtfSizes", spec := "utfSizes", unfollowed := true, recurses := true, apart := false, narrowed := true }
def UtfSizesUptoSaid : Prop := utfSizesUptoRow.holds Try.pinned (OpenSpec.upto utfSizesSpec)

/-- 'hyphenlaw2.UtfKnown', WHERE WHAT IT READS IS OF BULK AT MOST 1048576: true; the input reads as it did. -/
def utfKnownUptoRow : OpenClaim := { program := "ytcmacpdpphdkcaa", sum := "bb4d63d5abaca79610f02ceba0ac4de5e3797ed9853f39d9ea342e6b4c268420", func := "hyphen/hyphenlaw2.UtfKnown", spec := "utfKnown", unfollowed := true, recurses := true, apart := false, narrowed := true }
def UtfKnownUptoSaid : Prop := utfKnownUptoRow.holds Try.pinned (OpenSpec.upto utfKnownSpec)

/-- 'hyphenlaw2.UtfOwn', WHERE WHAT IT READS IS OF BULK AT MOST 1048576: true; the input reads as it did. -/
def utfOwnUptoRow : OpenClaim := { program := "ytcmacpdpphdkcaa", sum := "bb4d63d5abaca79610f02ceba0ac4de5e3797ed9853f39d9ea342e6b4c268420", func := "hyphen/hyphenlaw2.UtfOwn", spec := "utfOwn", unfollowed := true, recurses := true, apart := false, narrowed := true }
def UtfOwnUptoSaid : Prop := utfOwnUptoRow.holds Try.pinned (OpenSpec.upto utfOwnSpec)

end Rows
end Go.Proofs.Ytcmacpdpphdkcaa
