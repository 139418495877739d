/-
  No cell of these rows narrows 'for every input' (looked for: loops, veiled, ifaces, maps, wideKeys, modest, calm, conditions, laid).
  DERIVED. THE GIVEN ROWS OF THIS SEAT. 12 by the template 'for every input the law returns true; each argument reads behind the call as it read before'; 0 by the template 'total and deterministic' (their statements: YtdgdeckaoajceaaTotals.lean).
  GIVEN WITH THE SEED: the statements are not yours to turn. If you find one false, say at which input.
  Laid BY PROGRAM, IN A SANDBOX (cutbox-rows.mjs): the forced cells as the released guide's own fill.sh prints them over the translation 901635ce0b3a0306… (all of the seat's roots in one cut). By AI agents, Wed Nov 11 2026. No macro, syntax, notation, axiom, sorry.
-/
import Derived.Test.YtdgdeckaoajceaaChecked
import GoSem.Claim
import GoSem.ClaimJoined
import GoSem.ClaimMapViews
import Derived.JoinedTies
import Derived.KernelRfl
namespace Go.Proofs.Ytdgdeckaoajceaa
/- THE CELL 'sum', in the pinned program and in every row, IS THE sha256 OF THE DUMP (.gsa) THAT YtdgdeckaoajceaaProg.lean LOADS. Nothing in Lean hashes anything: it is a label: what it is worth is what the hold of that sum in a sandbox is worth. -/
noncomputable def Try.pinned : Pinned := { name := "ytdgdeckaoajceaa", sum := "901635ce0b3a03068df5bc3b2ce61bea040596e31552e39297728491b49b2e5f", checked := Try.checked }
namespace Rows
def none {H : Type} : Left H := { results := [], args := [] }

/-- 'hyphenlaw13.SegAll': WHATEVER THE INPUT: true; the input reads as it did. -/
def segAllSpec : ChangeSpec := { name := "segAll", fn := fun _ => fun
  | [d1, d2, d3, d4, d5, d6, d7] => { results := [.lit (.bool true)], args := [d1, d2, d3, d4, d5, d6, d7] }
  | _ => none }
def segAllRow : OpenClaim := { program := "ytdgdeckaoajceaa", sum := "901635ce0b3a03068df5bc3b2ce61bea040596e31552e39297728491b49b2e5f", func := "hyphen/hyphenlaw13.SegAll", spec := "segAll", unfollowed := true, recurses := true, apart := false }
def SegAllSaid : Prop := segAllRow.holds Try.pinned (OpenSpec.ofChange segAllSpec)

/-- ITS FALSE NEIGHBOUR: 'it returns false'. Refute it at one input. -/
def segAllWrong : ChangeSpec := { name := "segAll", fn := fun _ => fun
  | [d1, d2, d3, d4, d5, d6, d7] => { results := [.lit (.bool false)], args := [d1, d2, d3, d4, d5, d6, d7] }
  | _ => none }
def SegAllWrongFalsely : Prop := segAllRow.holds Try.pinned (OpenSpec.ofChange segAllWrong)

/-- 'hyphenlaw13.SegBest': WHATEVER THE INPUT: true; the input reads as it did. -/
def segBestSpec : ChangeSpec := { name := "segBest", fn := fun _ => fun
  | [d1, d2, d3, d4, d5, d6, d7, d8, d9] => { results := [.lit (.bool true)], args := [d1, d2, d3, d4, d5, d6, d7, d8, d9] }
  | _ => none }
def segBestRow : OpenClaim := { program := "ytdgdeckaoajceaa", sum := "901635ce0b3a03068df5bc3b2ce61bea040596e31552e39297728491b49b2e5f", func := "hyphen/hyphenlaw13.SegBest", spec := "segBest", unfollowed := true, recurses := true, apart := false }
def SegBestSaid : Prop := segBestRow.holds Try.pinned (OpenSpec.ofChange segBestSpec)

/-- ITS FALSE NEIGHBOUR: 'it returns false'. Refute it at one input. -/
def segBestWrong : ChangeSpec := { name := "segBest", fn := fun _ => fun
  | [d1, d2, d3, d4, d5, d6, d7, d8, d9] => { results := [.lit (.bool false)], args := [d1, d2, d3, d4, d5, d6, d7, d8, d9] }
  | _ => none }
def SegBestWrongFalsely : Prop := segBestRow.holds Try.pinned (OpenSpec.ofChange segBestWrong)

/-- 'hyphenlaw13.SegBad': WHATEVER THE INPUT: true; the input reads as it did. -/
def segBadSpec : ChangeSpec := { name := "segBad", fn := fun _ => fun
  | [d1, d2, d3, d4, d5, d6, d7] => { results := [.lit (.bool true)], args := [d1, d2, d3, d4, d5, d6, d7] }
  | _ => none }
def segBadRow : OpenClaim := { program := "ytdgdeckaoajceaa", sum := "901635ce0b3a03068df5bc3b2ce61bea040596e31552e39297728491b49b2e5f", func := "hyphen/hyphenlaw13.SegBad", spec := "segBad", unfollowed := true, recurses := true, apart := false }
def SegBadSaid : Prop := segBadRow.holds Try.pinned (OpenSpec.ofChange segBadSpec)

/-- ITS FALSE NEIGHBOUR: 'it returns false'. Refute it at one input. -/
def segBadWrong : ChangeSpec := { name := "segBad", fn := fun _ => fun
  | [d1, d2, d3, d4, d5, d6, d7] => { results := [.lit (.bool false)], args := [d1, d2, d3, d4, d5, d6, d7] }
  | _ => none }
def SegBadWrongFalsely : Prop := segBadRow.holds Try.pinned (OpenSpec.ofChange segBadWrong)

/-- 'hyphenlaw13.SegLetters': WHATEVER THE INPUT: true; the input reads as it did. -/
def segLettersSpec : ChangeSpec := { name := "segLetters", fn := fun _ => fun
  | [d1, d2, d3, d4, d5, d6, d7] => { results := [.lit (.bool true)], args := [d1, d2, d3, d4, d5, d6, d7] }
  | _ => none }
def segLettersRow : OpenClaim := { program := "ytdgdeckaoajceaa", sum := "901635ce0b3a03068df5bc3b2ce61bea040596e31552e39297728491b49b2e5f", func := "hyphen/hyphenlaw13.SegLetters", spec := "segLetters", unfollowed := true, recurses := true, apart := false }
def SegLettersSaid : Prop := segLettersRow.holds Try.pinned (OpenSpec.ofChange segLettersSpec)

/-- ITS FALSE NEIGHBOUR: 'it returns false'. Refute it at one input. -/
def segLettersWrong : ChangeSpec := { name := "segLetters", fn := fun _ => fun
  | [d1, d2, d3, d4, d5, d6, d7] => { results := [.lit (.bool false)], args := [d1, d2, d3, d4, d5, d6, d7] }
  | _ => none }
def SegLettersWrongFalsely : Prop := segLettersRow.holds Try.pinned (OpenSpec.ofChange segLettersWrong)

/-- 'hyphenlaw13.SegWindows': WHATEVER THE INPUT: true; the input reads as it did. -/
def segWindowsSpec : ChangeSpec := { name := "segWindows", fn := fun _ => fun
  | [d1, d2, d3, d4, d5, d6, d7, d8, d9, d10] => { results := [.lit (.bool true)], args := [d1, d2, d3, d4, d5, d6, d7, d8, d9, d10] }
  | _ => none }
def segWindowsRow : OpenClaim := { program := "ytdgdeckaoajceaa", sum := "901635ce0b3a03068df5bc3b2ce61bea040596e31552e39297728491b49b2e5f", func := "hyphen/hyphenlaw13.SegWindows", spec := "segWindows", unfollowed := true, recurses := true, apart := false }
def SegWindowsSaid : Prop := segWindowsRow.holds Try.pinned (OpenSpec.ofChange segWindowsSpec)

/-- ITS FALSE NEIGHBOUR: 'it returns false'. Refute it at one input. -/
def segWindowsWrong : ChangeSpec := { name := "segWindows", fn := fun _ => fun
  | [d1, d2, d3, d4, d5, d6, d7, d8, d9, d10] => { results := [.lit (.bool false)], args := [d1, d2, d3, d4, d5, d6, d7, d8, d9, d10] }
  | _ => none }
def SegWindowsWrongFalsely : Prop := segWindowsRow.holds Try.pinned (OpenSpec.ofChange segWindowsWrong)

/-- 'hyphenlaw13.SegTwo': WHATEVER THE INPUT: true; the input reads as it did. -/
def segTwoSpec : ChangeSpec := { name := "segTwo", fn := fun _ => fun
  | [d1, d2, d3, d4, d5, d6, d7] => { results := [.lit (.bool true)], args := [d1, d2, d3, d4, d5, d6, d7] }
  | _ => none }
def segTwoRow : OpenClaim := { program := "ytdgdeckaoajceaa", sum := "901635ce0b3a03068df5bc3b2ce61bea040596e31552e39297728491b49b2e5f", func := "hyphen/hyphenlaw13.SegTwo", spec := "segTwo", unfollowed := true, recurses := true, apart := false }
def SegTwoSaid : Prop := segTwoRow.holds Try.pinned (OpenSpec.ofChange segTwoSpec)

/-- ITS FALSE NEIGHBOUR: 'it returns false'. Refute it at one input. -/
def segTwoWrong : ChangeSpec := { name := "segTwo", fn := fun _ => fun
  | [d1, d2, d3, d4, d5, d6, d7] => { results := [.lit (.bool false)], args := [d1, d2, d3, d4, d5, d6, d7] }
  | _ => none }
def SegTwoWrongFalsely : Prop := segTwoRow.holds Try.pinned (OpenSpec.ofChange segTwoWrong)

/-- 'hyphenlaw13.SegApart': WHATEVER THE INPUT: true; the input reads as it did. -/
def segApartSpec : ChangeSpec := { name := "segApart", fn := fun _ => fun
  | [d1, d2, d3, d4, d5, d6, d7] => { results := [.lit (.bool true)], args := [d1, d2, d3, d4, d5, d6, d7] }
  | _ => none }
def segApartRow : OpenClaim := { program := "ytdgdeckaoajceaa", sum := "901635ce0b3a03068df5bc3b2ce61bea040596e31552e39297728491b49b2e5f", func := "hyphen/hyphenlaw13.SegApart", spec := "segApart", unfollowed := true, recurses := true, apart := false }
def SegApartSaid : Prop := segApartRow.holds Try.pinned (OpenSpec.ofChange segApartSpec)

/-- ITS FALSE NEIGHBOUR: 'it returns false'. Refute it at one input. -/
def segApartWrong : ChangeSpec := { name := "segApart", fn := fun _ => fun
  | [d1, d2, d3, d4, d5, d6, d7] => { results := [.lit (.bool false)], args := [d1, d2, d3, d4, d5, d6, d7] }
  | _ => none }
def SegApartWrongFalsely : Prop := segApartRow.holds Try.pinned (OpenSpec.ofChange segApartWrong)

/-- 'hyphenlaw13.SegSeeks': WHATEVER THE INPUT: true; the input reads as it did. -/
def segSeeksSpec : ChangeSpec := { name := "segSeeks", fn := fun _ => fun
  | [d1, d2, d3, d4, d5, d6, d7, d8] => { results := [.lit (.bool true)], args := [d1, d2, d3, d4, d5, d6, d7, d8] }
  | _ => none }
def segSeeksRow : OpenClaim := { program := "ytdgdeckaoajceaa", sum := "901635ce0b3a03068df5bc3b2ce61bea040596e31552e39297728491b49b2e5f", func := "hyphen/hyphenlaw13.SegSeeks", spec := "segSeeks", unfollowed := true, recurses := true, apart := false }
def SegSeeksSaid : Prop := segSeeksRow.holds Try.pinned (OpenSpec.ofChange segSeeksSpec)

/-- ITS FALSE NEIGHBOUR: 'it returns false'. Refute it at one input. -/
def segSeeksWrong : ChangeSpec := { name := "segSeeks", fn := fun _ => fun
  | [d1, d2, d3, d4, d5, d6, d7, d8] => { results := [.lit (.bool false)], args := [d1, d2, d3, d4, d5, d6, d7, d8] }
  | _ => none }
def SegSeeksWrongFalsely : Prop := segSeeksRow.holds Try.pinned (OpenSpec.ofChange segSeeksWrong)

/-- 'hyphenlaw13.SegErrs': WHATEVER THE INPUT: true; the input reads as it did. -/
def segErrsSpec : ChangeSpec := { name := "segErrs", fn := fun _ => fun
  | [d1, d2, d3, d4, d5, d6, d7] => { results := [.lit (.bool true)], args := [d1, d2, d3, d4, d5, d6, d7] }
  | _ => none }
def segErrsRow : OpenClaim := { program := "ytdgdeckaoajceaa", sum := "901635ce0b3a03068df5bc3b2ce61bea040596e31552e39297728491b49b2e5f", func := "hyphen/hyphenlaw13.SegErrs", spec := "segErrs", unfollowed := true, recurses := true, apart := false }
def SegErrsSaid : Prop := segErrsRow.holds Try.pinned (OpenSpec.ofChange segErrsSpec)

/-- ITS FALSE NEIGHBOUR: 'it returns false'. Refute it at one input. -/
def segErrsWrong : ChangeSpec := { name := "segErrs", fn := fun _ => fun
  | [d1, d2, d3, d4, d5, d6, d7] => { results := [.lit (.bool false)], args := [d1, d2, d3, d4, d5, d6, d7] }
  | _ => none }
def SegErrsWrongFalsely : Prop := segErrsRow.holds Try.pinned (OpenSpec.ofChange segErrsWrong)

/-- 'hyphenlaw13.SegCursors': WHATEVER THE INPUT: true; the input reads as it did. -/
def segCursorsSpec : ChangeSpec := { name := "segCursors", fn := fun _ => fun
  | [d1, d2, d3, d4, d5, d6, d7, d8] => { results := [.lit (.bool true)], args := [d1, d2, d3, d4, d5, d6, d7, d8] }
  | _ => none }
def segCursorsRow : OpenClaim := { program := "ytdgdeckaoajceaa", sum := "901635ce0b3a03068df5bc3b2ce61bea040596e31552e39297728491b49b2e5f", func := "hyphen/hyphenlaw13.SegCursors", spec := "segCursors", unfollowed := true, recurses := true, apart := false }
def SegCursorsSaid : Prop := segCursorsRow.holds Try.pinned (OpenSpec.ofChange segCursorsSpec)

/-- ITS FALSE NEIGHBOUR: 'it returns false'. Refute it at one input. -/
def segCursorsWrong : ChangeSpec := { name := "segCursors", fn := fun _ => fun
  | [d1, d2, d3, d4, d5, d6, d7, d8] => { results := [.lit (.bool false)], args := [d1, d2, d3, d4, d5, d6, d7, d8] }
  | _ => none }
def SegCursorsWrongFalsely : Prop := segCursorsRow.holds Try.pinned (OpenSpec.ofChange segCursorsWrong)

/-- 'hyphenlaw13.SegWalks': WHATEVER THE INPUT: true; the input reads as it did. -/
def segWalksSpec : ChangeSpec := { name := "segWalks", fn := fun _ => fun
  | [d1, d2, d3, d4, d5, d6] => { results := [.lit (.bool true)], args := [d1, d2, d3, d4, d5, d6] }
  | _ => none }
def segWalksRow : OpenClaim := { program := "ytdgdeckaoajceaa", sum := "901635ce0b3a03068df5bc3b2ce61bea040596e31552e39297728491b49b2e5f", func := "hyphen/hyphenlaw13.SegWalks", spec := "segWalks", unfollowed := true, recurses := true, apart := false }
def SegWalksSaid : Prop := segWalksRow.holds Try.pinned (OpenSpec.ofChange segWalksSpec)

/-- ITS FALSE NEIGHBOUR: 'it returns false'. Refute it at one input. -/
def segWalksWrong : ChangeSpec := { name := "segWalks", fn := fun _ => fun
  | [d1, d2, d3, d4, d5, d6] => { results := [.lit (.bool false)], args := [d1, d2, d3, d4, d5, d6] }
  | _ => none }
def SegWalksWrongFalsely : Prop := segWalksRow.holds Try.pinned (OpenSpec.ofChange segWalksWrong)

/-- 'hyphenlaw13.SegEmpty': WHATEVER THE INPUT: true; the input reads as it did. -/
def segEmptySpec : ChangeSpec := { name := "segEmpty", fn := fun _ => fun
  | [d1, d2, d3, d4, d5, d6] => { results := [.lit (.bool true)], args := [d1, d2, d3, d4, d5, d6] }
  | _ => none }
def segEmptyRow : OpenClaim := { program := "ytdgdeckaoajceaa", sum := "901635ce0b3a03068df5bc3b2ce61bea040596e31552e39297728491b49b2e5f", func := "hyphen/hyphenlaw13.SegEmpty", spec := "segEmpty", unfollowed := true, recurses := true, apart := false }
def SegEmptySaid : Prop := segEmptyRow.holds Try.pinned (OpenSpec.ofChange segEmptySpec)

/-- ITS FALSE NEIGHBOUR: 'it returns false'. Refute it at one input. -/
def segEmptyWrong : ChangeSpec := { name := "segEmpty", fn := fun _ => fun
  | [d1, d2, d3, d4, d5, d6] => { results := [.lit (.bool false)], args := [d1, d2, d3, d4, d5, d6] }
  | _ => none }
def SegEmptyWrongFalsely : Prop := segEmptyRow.holds Try.pinned (OpenSpec.ofChange segEmptyWrong)

/- THE SECOND FORM. 'bulk': how many values and letters a reading holds, each counted each time it is reached (what is shared counts as often as it is met; a slice's spare places count too). A statement '..UptoSaid' is the law's where the arguments, and the package variables that the reading takes, are together of bulk at most 1048576: NARROWER than '..Said'. Prove '..Said' where nothing that the law and all that it calls make is longer than what came in: it says more and counts as full. Else prove '..UptoSaid'. A law counts once. -/
mutual
def uptoBulk {H : Type} : DataW H → Nat
  | .lit (.string bytes) => bytes.length + 1
  | .lit _ => 1
  | .nil => 1
  | .ptr d => uptoBulk d + 1
  | .slice elems spare => uptoBulkAll elems + uptoBulkAll spare + 1
  | .agg parts => uptoBulkAll parts + 1
  | .iface _ d => uptoBulk d + 1
  | .map entries => uptoBulkEntries entries + 1
  | .held _ => 1
def uptoBulkAll {H : Type} : List (DataW H) → Nat
  | [] => 0
  | d :: r => uptoBulk d + uptoBulkAll r
def uptoBulkEntries {H : Type} : List (Lit × DataW H) → Nat
  | [] => 0
  | x :: r => uptoBulkEntry x + uptoBulkEntries r
def uptoBulkEntry {H : Type} : Lit × DataW H → Nat
  | (.string bytes, d) => bytes.length + uptoBulk d + 1
  | (_, d) => uptoBulk d + 1
 end
def uptoSmall : (H : Type) → List (DataW H) → Bool := fun _ ds => decide (uptoBulkAll ds ≤ 1048576)
def OpenSpec.upto (s : _root_.Go.ChangeSpec) : _root_.Go.OpenSpec := { _root_.Go.OpenSpec.ofChange s with cond := some uptoSmall }

/-- 'hyphenlaw13.SegAll', WHERE WHAT IT READS IS OF BULK AT MOST 1048576: true; the input reads as it did. -/
def segAllUptoRow : OpenClaim := { program := "ytdgdeckaoajceaa", sum := "901635ce0b3a03068df5bc3b2ce61bea040596e31552e39297728491b49b2e5f", func := "hyphen/hyphenlaw13.SegAll", spec := "segAll", unfollowed := true, recurses := true, apart := false, narrowed := true }
def SegAllUptoSaid : Prop := segAllUptoRow.holds Try.pinned (OpenSpec.upto segAllSpec)

/-- 'hyphenlaw13.SegBest', WHERE WHAT IT READS IS OF BULK AT MOST 1048576: true; the input reads as it did. -/
def segBestUptoRow : OpenClaim := { program := "ytdgdeckaoajceaa", sum := "901635ce0b3a03068df5bc3b2ce61bea040596e31552e39297728491b49b2e5f", func := "hyphen/hyphenlaw13.SegBest", spec := "segBest", unfollowed := true, recurses := true, apart := false, narrowed := true }
def SegBestUptoSaid : Prop := segBestUptoRow.holds Try.pinned (OpenSpec.upto segBestSpec)

/-- 'hyphenlaw13.SegBad', WHERE WHAT IT READS IS OF BULK AT MOST 1048576: true; the input reads as it did. -/
def segBadUptoRow : OpenClaim := { program := "ytdgdeckaoajceaa", sum := "901635ce0b3a03068df5bc3b2ce61bea040596e31552e39297728491b49b2e5f", func := "hyphen/hyphenlaw13.SegBad", spec := "segBad", unfollowed := true, recurses := true, apart := false, narrowed := true }
def SegBadUptoSaid : Prop := segBadUptoRow.holds Try.pinned (OpenSpec.upto segBadSpec)

/-- 'hyphenlaw13.SegLetters', WHERE WHAT IT READS IS OF BULK AT MOST 1048576: true; the input reads as it did. -/
def segLettersUptoRow : OpenClaim := { program := "ytdgdeckaoajceaa", sum := "901635ce0b3a03068df5bc3b2ce61bea040596e31552e39297728491b49b2e5f", func := "hyphen/hyphenlaw13.SegLetters", spec := "segLetters", unfollowed := true, recurses := true, apart := false, narrowed := true }
def SegLettersUptoSaid : Prop := segLettersUptoRow.holds Try.pinned (OpenSpec.upto segLettersSpec)

/-- 'hyphenlaw13.SegWindows', WHERE WHAT IT READS IS OF BULK AT MOST 1048576: true; the input reads as it did. -/
def segWindowsUptoRow : OpenClaim := { program := "ytdgdeckaoajceaa", sum := "901635ce0b3a03068df5bc3b2ce61bea040596e31552e39297728491b49b2e5f", func := "hyphen/hyphenlaw13.SegWindows", spec := "segWindows", unfollowed := true, recurses := true, apart := false, narrowed := true }
def SegWindowsUptoSaid : Prop := segWindowsUptoRow.holds Try.pinned (OpenSpec.upto segWindowsSpec)

/-- 'hyphenlaw13.SegTwo', WHERE WHAT IT READS IS OF BULK AT MOST 1048576: true; the input reads as it did. -/
def segTwoUptoRow : OpenClaim := { program := "ytdgdeckaoajceaa", sum := "901635ce0b3a03068df5bc3b2ce61bea040596e31552e39297728491b49b2e5f", func := "hyphen/hyphenlaw13.SegTwo", spec := "segTwo", unfollowed := true, recurses := true, apart := false, narrowed := true }
def SegTwoUptoSaid : Prop := segTwoUptoRow.holds Try.pinned (OpenSpec.upto segTwoSpec)

/-- 'hyphenlaw13.SegApart', WHERE WHAT IT READS IS OF BULK AT MOST 1048576: true; the input reads as it did. -/
def segApartUptoRow : OpenClaim := { program := "ytdgdeckaoajceaa", sum := "901635ce0b3a03068df5bc3b2ce61bea040596e31552e39297728491b49b2e5f", func := "hyphen/hyphenlaw13.SegApart", spec := "segApart", unfollowed := true, recurses := true, apart := false, narrowed := true }
def SegApartUptoSaid : Prop := segApartUptoRow.holds Try.pinned (OpenSpec.upto segApartSpec)

/-- 'hyphenlaw13.SegSeeks', WHERE WHAT IT READS IS OF BULK AT MOST 1048576: true; the input reads as it did. -/
def segSeeksUptoRow : OpenClaim := { program := "ytdgdeckaoajceaa", sum := "901635ce0b3a03068df5bc3b2ce61bea040596e31552e39297728491b49b2e5f", func := "hyphen/hyphenlaw13.SegSeeks", spec := "segSeeks", unfollowed := true, recurses := true, apart := false, narrowed := true }
def SegSeeksUptoSaid : Prop := segSeeksUptoRow.holds Try.pinned (OpenSpec.upto segSeeksSpec)

/-- 'hyphenlaw13.SegErrs', WHERE WHAT IT READS IS OF BULK AT MOST 1048576: true; the input reads as it did. -/
def segErrsUptoRow : OpenClaim := { program := "ytdgdeckaoajceaa", sum := "901635ce0b3a03068df5bc3b2ce61bea040596e31552e39297728491b49b2e5f", func := "hyphen/hyphenlaw13.SegErrs", spec := "segErrs", unfollowed := true, recurses := true, apart := false, narrowed := true }
def SegErrsUptoSaid : Prop := segErrsUptoRow.holds Try.pinned (OpenSpec.upto segErrsSpec)

/-- 'hyphenlaw13.SegCursors', WHERE WHAT IT READS IS OF BULK AT MOST 1048576: true; the input reads as it did. -/
def segCursorsUptoRow : OpenClaim := { program := "ytdgdeckaoajceaa", sum := "901635ce0b3a03068df5bc3b2ce61bea040596e31552e39297728491b49b2e5f", func := "hyphen/hyphenlaw13.SegCursors", spec := "segCursors", unfollowed := true, recurses := true, apart := false, narrowed := true }
def SegCursorsUptoSaid : Prop := segCursorsUptoRow.holds Try.pinned (OpenSpec.upto segCursorsSpec)

/-- 'hyphenlaw13.SegWalks', WHERE WHAT IT READS IS OF BULK AT MOST 1048576: true; the input reads as it did. -/
def segWalksUptoRow : OpenClaim := { program := "ytdgdeckaoajceaa", sum := "901635ce0b3a03068df5bc3b2ce61bea040596e31552e39297728491b49b2e5f", func := "hyphen/hyphenlaw13.SegWalks", spec := "segWalks", unfollowed := true, recurses := true, apart := false, narrowed := true }
def SegWalksUptoSaid : Prop := segWalksUptoRow.holds Try.pinned (OpenSpec.upto segWalksSpec)

/-- 'hyphenlaw13.SegEmpty', WHERE WHAT IT READS IS OF BULK AT MOST 1048576: true; the input reads as it did. -/
def segEmptyUptoRow : OpenClaim := { program := "ytdgdeckaoajceaa", sum := "901635ce0b3a03068df5bc3b2ce61bea040596e31552e39297728491b49b2e5f", func := "hyphen/hyphenlaw13.SegEmpty", spec := "segEmpty", unfollowed := true, recurses := true, apart := false, narrowed := true }
def SegEmptyUptoSaid : Prop := segEmptyUptoRow.holds Try.pinned (OpenSpec.upto segEmptySpec)

end Rows
end Go.Proofs.Ytdgdeckaoajceaa
