/-
  No cell of these rows narrows 'for every input' (looked for: loops, veiled, ifaces, maps, wideKeys, modest, calm, conditions, laid).
  DERIVED. THE GIVEN ROWS OF THIS SEAT. 9 by the template 'for every input the law returns true; each argument reads behind the call as it read before'; 0 by the template 'total and deterministic' (their statements: YtmjlilmajdknkaaTotals.lean).
  GIVEN WITH THE SEED: the statements are not yours to turn. If you find one false, say at which input.
  Laid BY PROGRAM, IN A SANDBOX (cutbox-rows.mjs): the forced cells as the released guide's own fill.sh prints them over the translation fad1bdc0b47e2f72… (all of the seat's roots in one cut). By AI agents, Wed Nov 11 2026. No macro, syntax, notation, axiom, sorry.
-/
import Derived.Test.YtmjlilmajdknkaaChecked
import GoSem.Claim
import GoSem.ClaimJoined
import GoSem.ClaimMapViews
import Derived.JoinedTies
import Derived.KernelRfl
namespace Go.Proofs.Ytmjlilmajdknkaa
/- THE CELL 'sum', in the pinned program and in every row, IS THE sha256 OF THE DUMP (.gsa) THAT YtmjlilmajdknkaaProg.lean LOADS. Nothing in Lean hashes anything: it is a label: what it is worth is what the hold of that sum in a sandbox is worth. -/
noncomputable def Try.pinned : Pinned := { name := "ytmjlilmajdknkaa", sum := "fad1bdc0b47e2f72b43299654f5d99e3609ef41322fff2c24a0b2de8d106cccd", checked := Try.checked }
namespace Rows
def none {H : Type} : Left H := { results := [], args := [] }

/-- 'hyphenlaw12.TableBack': WHATEVER THE INPUT: true; the input reads as it did. -/
def tableBackSpec : ChangeSpec := { name := "tableBack", fn := fun _ => fun
  | [d1, d2, d3, d4, d5] => { results := [.lit (.bool true)], args := [d1, d2, d3, d4, d5] }
  | _ => none }
def tableBackRow : OpenClaim := { program := "ytmjlilmajdknkaa", sum := "fad1bdc0b47e2f72b43299654f5d99e3609ef41322fff2c24a0b2de8d106cccd", func := "hyphen/hyphenlaw12.TableBack", spec := "tableBack", unfollowed := true, recurses := true, apart := false }
def TableBackSaid : Prop := tableBackRow.holds Try.pinned (OpenSpec.ofChange tableBackSpec)

/-- ITS FALSE NEIGHBOUR: 'it returns false'. Refute it at one input. -/
def tableBackWrong : ChangeSpec := { name := "tableBack", fn := fun _ => fun
  | [d1, d2, d3, d4, d5] => { results := [.lit (.bool false)], args := [d1, d2, d3, d4, d5] }
  | _ => none }
def TableBackWrongFalsely : Prop := tableBackRow.holds Try.pinned (OpenSpec.ofChange tableBackWrong)

/-- 'hyphenlaw12.TableLoads': WHATEVER THE INPUT: true; the input reads as it did. -/
def tableLoadsSpec : ChangeSpec := { name := "tableLoads", fn := fun _ => fun
  | [d1, d2, d3, d4, d5, d6, d7, d8, d9, d10] => { results := [.lit (.bool true)], args := [d1, d2, d3, d4, d5, d6, d7, d8, d9, d10] }
  | _ => none }
def tableLoadsRow : OpenClaim := { program := "ytmjlilmajdknkaa", sum := "fad1bdc0b47e2f72b43299654f5d99e3609ef41322fff2c24a0b2de8d106cccd", func := "hyphen/hyphenlaw12.TableLoads", spec := "tableLoads", unfollowed := true, recurses := true, apart := false }
def TableLoadsSaid : Prop := tableLoadsRow.holds Try.pinned (OpenSpec.ofChange tableLoadsSpec)

/-- ITS FALSE NEIGHBOUR: 'it returns false'. Refute it at one input. -/
def tableLoadsWrong : ChangeSpec := { name := "tableLoads", fn := fun _ => fun
  | [d1, d2, d3, d4, d5, d6, d7, d8, d9, d10] => { results := [.lit (.bool false)], args := [d1, d2, d3, d4, d5, d6, d7, d8, d9, d10] }
  | _ => none }
def TableLoadsWrongFalsely : Prop := tableLoadsRow.holds Try.pinned (OpenSpec.ofChange tableLoadsWrong)

/-- 'hyphenlaw12.TableRight': WHATEVER THE INPUT: true; the input reads as it did. -/
def tableRightSpec : ChangeSpec := { name := "tableRight", fn := fun _ => fun
  | [d1, d2, d3, d4, d5, d6, d7, d8] => { results := [.lit (.bool true)], args := [d1, d2, d3, d4, d5, d6, d7, d8] }
  | _ => none }
def tableRightRow : OpenClaim := { program := "ytmjlilmajdknkaa", sum := "fad1bdc0b47e2f72b43299654f5d99e3609ef41322fff2c24a0b2de8d106cccd", func := "hyphen/hyphenlaw12.TableRight", spec := "tableRight", unfollowed := true, recurses := true, apart := false }
def TableRightSaid : Prop := tableRightRow.holds Try.pinned (OpenSpec.ofChange tableRightSpec)

/-- ITS FALSE NEIGHBOUR: 'it returns false'. Refute it at one input. -/
def tableRightWrong : ChangeSpec := { name := "tableRight", fn := fun _ => fun
  | [d1, d2, d3, d4, d5, d6, d7, d8] => { results := [.lit (.bool false)], args := [d1, d2, d3, d4, d5, d6, d7, d8] }
  | _ => none }
def TableRightWrongFalsely : Prop := tableRightRow.holds Try.pinned (OpenSpec.ofChange tableRightWrong)

/-- 'hyphenlaw12.TableSums': WHATEVER THE INPUT: true; the input reads as it did. -/
def tableSumsSpec : ChangeSpec := { name := "tableSums", fn := fun _ => fun
  | [d1, d2, d3] => { results := [.lit (.bool true)], args := [d1, d2, d3] }
  | _ => none }
def tableSumsRow : OpenClaim := { program := "ytmjlilmajdknkaa", sum := "fad1bdc0b47e2f72b43299654f5d99e3609ef41322fff2c24a0b2de8d106cccd", func := "hyphen/hyphenlaw12.TableSums", spec := "tableSums", unfollowed := true, recurses := true, apart := false }
def TableSumsSaid : Prop := tableSumsRow.holds Try.pinned (OpenSpec.ofChange tableSumsSpec)

/-- ITS FALSE NEIGHBOUR: 'it returns false'. Refute it at one input. -/
def tableSumsWrong : ChangeSpec := { name := "tableSums", fn := fun _ => fun
  | [d1, d2, d3] => { results := [.lit (.bool false)], args := [d1, d2, d3] }
  | _ => none }
def TableSumsWrongFalsely : Prop := tableSumsRow.holds Try.pinned (OpenSpec.ofChange tableSumsWrong)

/-- 'hyphenlaw12.TableOwn': WHATEVER THE INPUT: true; the input reads as it did. -/
def tableOwnSpec : ChangeSpec := { name := "tableOwn", fn := fun _ => fun
  | [d1, d2, d3, d4, d5] => { results := [.lit (.bool true)], args := [d1, d2, d3, d4, d5] }
  | _ => none }
def tableOwnRow : OpenClaim := { program := "ytmjlilmajdknkaa", sum := "fad1bdc0b47e2f72b43299654f5d99e3609ef41322fff2c24a0b2de8d106cccd", func := "hyphen/hyphenlaw12.TableOwn", spec := "tableOwn", unfollowed := true, recurses := true, apart := false }
def TableOwnSaid : Prop := tableOwnRow.holds Try.pinned (OpenSpec.ofChange tableOwnSpec)

/-- ITS FALSE NEIGHBOUR: 'it returns false'. Refute it at one input. -/
def tableOwnWrong : ChangeSpec := { name := "tableOwn", fn := fun _ => fun
  | [d1, d2, d3, d4, d5] => { results := [.lit (.bool false)], args := [d1, d2, d3, d4, d5] }
  | _ => none }
def TableOwnWrongFalsely : Prop := tableOwnRow.holds Try.pinned (OpenSpec.ofChange tableOwnWrong)

/-- 'hyphenlaw12.TableCut': WHATEVER THE INPUT: true; the input reads as it did. -/
def tableCutSpec : ChangeSpec := { name := "tableCut", fn := fun _ => fun
  | [d1, d2, d3, d4, d5, d6, d7] => { results := [.lit (.bool true)], args := [d1, d2, d3, d4, d5, d6, d7] }
  | _ => none }
def tableCutRow : OpenClaim := { program := "ytmjlilmajdknkaa", sum := "fad1bdc0b47e2f72b43299654f5d99e3609ef41322fff2c24a0b2de8d106cccd", func := "hyphen/hyphenlaw12.TableCut", spec := "tableCut", unfollowed := true, recurses := true, apart := false }
def TableCutSaid : Prop := tableCutRow.holds Try.pinned (OpenSpec.ofChange tableCutSpec)

/-- ITS FALSE NEIGHBOUR: 'it returns false'. Refute it at one input. -/
def tableCutWrong : ChangeSpec := { name := "tableCut", fn := fun _ => fun
  | [d1, d2, d3, d4, d5, d6, d7] => { results := [.lit (.bool false)], args := [d1, d2, d3, d4, d5, d6, d7] }
  | _ => none }
def TableCutWrongFalsely : Prop := tableCutRow.holds Try.pinned (OpenSpec.ofChange tableCutWrong)

/-- 'hyphenlaw12.TableSizes': WHATEVER THE INPUT: true; the input reads as it did. -/
def tableSizesSpec : ChangeSpec := { name := "tableSizes", fn := fun _ => fun
  | [d1, d2, d3, d4, d5] => { results := [.lit (.bool true)], args := [d1, d2, d3, d4, d5] }
  | _ => none }
def tableSizesRow : OpenClaim := { program := "ytmjlilmajdknkaa", sum := "fad1bdc0b47e2f72b43299654f5d99e3609ef41322fff2c24a0b2de8d106cccd", func := "hyphen/hyphenlaw12.TableSizes", spec := "tableSizes", unfollowed := true, recurses := true, apart := false }
def TableSizesSaid : Prop := tableSizesRow.holds Try.pinned (OpenSpec.ofChange tableSizesSpec)

/-- ITS FALSE NEIGHBOUR: 'it returns false'. Refute it at one input. -/
def tableSizesWrong : ChangeSpec := { name := "tableSizes", fn := fun _ => fun
  | [d1, d2, d3, d4, d5] => { results := [.lit (.bool false)], args := [d1, d2, d3, d4, d5] }
  | _ => none }
def TableSizesWrongFalsely : Prop := tableSizesRow.holds Try.pinned (OpenSpec.ofChange tableSizesWrong)

/-- 'hyphenlaw12.TableApart': WHATEVER THE INPUT: true; the input reads as it did. -/
def tableApartSpec : ChangeSpec := { name := "tableApart", fn := fun _ => fun
  | [d1, d2, d3, d4, d5, d6, d7] => { results := [.lit (.bool true)], args := [d1, d2, d3, d4, d5, d6, d7] }
  | _ => none }
def tableApartRow : OpenClaim := { program := "ytmjlilmajdknkaa", sum := "fad1bdc0b47e2f72b43299654f5d99e3609ef41322fff2c24a0b2de8d106cccd", func := "hyphen/hyphenlaw12.TableApart", spec := "tableApart", unfollowed := true, recurses := true, apart := false }
def TableApartSaid : Prop := tableApartRow.holds Try.pinned (OpenSpec.ofChange tableApartSpec)

/-- ITS FALSE NEIGHBOUR: 'it returns false'. Refute it at one input. -/
def tableApartWrong : ChangeSpec := { name := "tableApart", fn := fun _ => fun
  | [d1, d2, d3, d4, d5, d6, d7] => { results := [.lit (.bool false)], args := [d1, d2, d3, d4, d5, d6, d7] }
  | _ => none }
def TableApartWrongFalsely : Prop := tableApartRow.holds Try.pinned (OpenSpec.ofChange tableApartWrong)

/-- 'hyphenlaw12.TableNumbers': WHATEVER THE INPUT: true; the input reads as it did. -/
def tableNumbersSpec : ChangeSpec := { name := "tableNumbers", fn := fun _ => fun
  | [d1, d2, d3, d4, d5, d6, d7] => { results := [.lit (.bool true)], args := [d1, d2, d3, d4, d5, d6, d7] }
  | _ => none }
def tableNumbersRow : OpenClaim := { program := "ytmjlilmajdknkaa", sum := "fad1bdc0b47e2f72b43299654f5d99e3609ef41322fff2c24a0b2de8d106cccd", func := "hyphen/hyphenlaw12.TableNumbers", spec := "tableNumbers", unfollowed := true, recurses := true, apart := false }
def TableNumbersSaid : Prop := tableNumbersRow.holds Try.pinned (OpenSpec.ofChange tableNumbersSpec)

/-- ITS FALSE NEIGHBOUR: 'it returns false'. Refute it at one input. -/
def tableNumbersWrong : ChangeSpec := { name := "tableNumbers", fn := fun _ => fun
  | [d1, d2, d3, d4, d5, d6, d7] => { results := [.lit (.bool false)], args := [d1, d2, d3, d4, d5, d6, d7] }
  | _ => none }
def TableNumbersWrongFalsely : Prop := tableNumbersRow.holds Try.pinned (OpenSpec.ofChange tableNumbersWrong)

/- THE SECOND FORM. 'bulk': how many values and letters a reading holds, each counted each time it is reached (what is shared counts as often as it is met; a slice's spare places count too). A statement '..UptoSaid' is the law's where the arguments, and the package variables that the reading takes, are together of bulk at most 1048576: NARROWER than '..Said'. Prove '..Said' where nothing that the law and all that it calls make is longer than what came in: it says more and counts as full. Else prove '..UptoSaid'. A law counts once. -/
mutual
def uptoBulk {H : Type} : DataW H → Nat
  | .lit (.string bytes) => bytes.length + 1
  | .lit _ => 1
  | .nil => 1
  | .ptr d => uptoBulk d + 1
  | .slice elems spare => uptoBulkAll elems + uptoBulkAll spare + 1
  | .agg parts => uptoBulkAll parts + 1
  | .iface _ d => uptoBulk d + 1
  | .map entries => uptoBulkEntries entries + 1
  | .held _ => 1
def uptoBulkAll {H : Type} : List (DataW H) → Nat
  | [] => 0
  | d :: r => uptoBulk d + uptoBulkAll r
def uptoBulkEntries {H : Type} : List (Lit × DataW H) → Nat
  | [] => 0
  | x :: r => uptoBulkEntry x + uptoBulkEntries r
def uptoBulkEntry {H : Type} : Lit × DataW H → Nat
  | (.string bytes, d) => bytes.length + uptoBulk d + 1
  | (_, d) => uptoBulk d + 1
 end
def uptoSmall : (H : Type) → List (DataW H) → Bool := fun _ ds => decide (uptoBulkAll ds ≤ 1048576)
def OpenSpec.upto (s : _root_.Go.ChangeSpec) : _root_.Go.OpenSpec := { _root_.Go.OpenSpec.ofChange s with cond := some uptoSmall }

/-- 'hyphenlaw12.TableBack', WHERE WHAT IT READS IS OF BULK AT MOST 1048576: true; the input reads as it did. -/
def tableBackUptoRow : OpenClaim := { program := "ytmjlilmajdknkaa", sum := "fad1bdc0b47e2f72b43299654f5d99e3609ef41322fff2c24a0b2de8d106cccd", func := "hyphen/hyphenlaw12.TableBack", spec := "tableBack", unfollowed := true, recurses := true, apart := false, narrowed := true }
def TableBackUptoSaid : Prop := tableBackUptoRow.holds Try.pinned (OpenSpec.upto tableBackSpec)

/-- 'hyphenlaw12.TableLoads', WHERE WHAT IT READS IS OF BULK AT MOST 1048576: true; the input reads as it did. -/
def tableLoadsUptoRow : OpenClaim := { program := "ytmjlilmajdknkaa", sum := "fad1bdc0b47e2f72b43299654f5d99e3609ef41322fff2c24a0b2de8d106cccd", func := "hyphen/hyphenlaw12.TableLoads", spec := "tableLoads", unfollowed := true, recurses := true, apart := false, narrowed := true }
def TableLoadsUptoSaid : Prop := tableLoadsUptoRow.holds Try.pinned (OpenSpec.upto tableLoadsSpec)

/-- 'hyphenlaw12.TableRight', WHERE WHAT IT READS IS OF BULK AT MOST 1048576: true; the input reads as it did. -/
def tableRightUptoRow : OpenClaim := { program := "ytmjlilmajdknkaa", sum := "fad1bdc0b47e2f72b43299654f5d99e3609ef41322fff2c24a0b2de8d106cccd", func := "hyphen/hyphenlaw12.TableRight", spec := "tableRight", unfollowed := true, recurses := true, apart := false, narrowed := true }
def TableRightUptoSaid : Prop := tableRightUptoRow.holds Try.pinned (OpenSpec.upto tableRightSpec)

/-- 'hyphenlaw12.TableSums', WHERE WHAT IT READS IS OF BULK AT MOST 1048576: true; the input reads as it did. -/
def tableSumsUptoRow : OpenClaim := { program := "ytmjlilmajdknkaa", sum := "fad1bdc0b47e2f72b43299654f5d99e3609ef41322fff2c24a0b2de8d106cccd", func := "hyphen/hyphenlaw12.TableSums", spec := "tableSums", unfollowed := true, recurses := true, apart := false, narrowed := true }
def TableSumsUptoSaid : Prop := tableSumsUptoRow.holds Try.pinned (OpenSpec.upto tableSumsSpec)

/-- 'hyphenlaw12.TableOwn', WHERE WHAT IT READS IS OF BULK AT MOST 1048576: true; the input reads as it did. -/
def tableOwnUptoRow : OpenClaim := { program := "ytmjlilmajdknkaa", sum := "fad1bdc0b47e2f72b43299654f5d99e3609ef41322fff2c24a0b2de8d106cccd", func := "hyphen/hyphenlaw12.TableOwn", spec := "tableOwn", unfollowed := true, recurses := true, apart := false, narrowed := true }
def TableOwnUptoSaid : Prop := tableOwnUptoRow.holds Try.pinned (OpenSpec.upto tableOwnSpec)

/-- 'hyphenlaw12.TableCut', WHERE WHAT IT READS IS OF BULK AT MOST 1048576: true; the input reads as it did. -/
def tableCutUptoRow : OpenClaim := { program := "ytmjlilmajdknkaa", sum := "fad1bdc0b47e2f72b43299654f5d99e3609ef41322fff2c24a0b2de8d106cccd", func := "hyphen/hyphenlaw12.TableCut", spec := "tableCut", unfollowed := true, recurses := true, apart := false, narrowed := true }
def TableCutUptoSaid : Prop := tableCutUptoRow.holds Try.pinned (OpenSpec.upto tableCutSpec)

/-- 'hyphenlaw12.TableSizes', WHERE WHAT IT READS IS OF BULK AT MOST 1048576: true; the input reads as it did. -/
def tableSizesUptoRow : OpenClaim := { program := "ytmjlilmajdknkaa", sum := "fad1bdc0b47e2f72b43299654f5d99e3609ef41322fff2c24a0b2de8d106cccd", func := "hyphen/hyphenlaw12.TableSizes", spec := "tableSizes", unfollowed := true, recurses := true, apart := false, narrowed := true }
def TableSizesUptoSaid : Prop := tableSizesUptoRow.holds Try.pinned (OpenSpec.upto tableSizesSpec)

/-- 'hyphenlaw12.TableApart', WHERE WHAT IT READS IS OF BULK AT MOST 1048576: true; the input reads as it did. -/
def tableApartUptoRow : OpenClaim := { program := "ytmjlilmajdknkaa", sum := "fad1bdc0b47e2f72b43299654f5d99e3609ef41322fff2c24a0b2de8d106cccd", func := "hyphen/hyphenlaw12.TableApart", spec := "tableApart", unfollowed := true, recurses := true, apart := false, narrowed := true }
def TableApartUptoSaid : Prop := tableApartUptoRow.holds Try.pinned (OpenSpec.upto tableApartSpec)

/-- 'hyphenlaw12.TableNumbers', WHERE WHAT IT READS IS OF BULK AT MOST 1048576: true; the input reads as it did. -/
def tableNumbersUptoRow : OpenClaim := { program := "ytmjlilmajdknkaa", sum := "fad1bdc0b47e2f72b43299654f5d99e3609ef41322fff2c24a0b2de8d106cccd", func := "hyphen/hyphenlaw12.TableNumbers", spec := "tableNumbers", unfollowed := true, recurses := true, apart := false, narrowed := true }
def TableNumbersUptoSaid : Prop := tableNumbersUptoRow.holds Try.pinned (OpenSpec.upto tableNumbersSpec)

end Rows
end Go.Proofs.Ytmjlilmajdknkaa
