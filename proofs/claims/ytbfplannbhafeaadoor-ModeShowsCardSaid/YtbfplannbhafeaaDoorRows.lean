/-
  NARROWER THAN 'FOR EVERY INPUT', by the rows' own cells (each row's printed sentence says how): ModeChanges: laid · ModeTwice: laid · ModeTurns: laid · ModeShows: laid.
  DERIVED. THE GIVEN ROWS OF THIS SEAT. 4 by the template 'for every input the law returns true; each argument reads behind the call as it read before'; 0 by the template 'total and deterministic' (their statements: YtbfplannbhafeaaDoorTotals.lean).
  GIVEN WITH THE SEED: the statements are not yours to turn. If you find one false, say at which input.
  Laid BY PROGRAM, IN A SANDBOX (cutbox-rows.mjs): the forced cells as the released guide's own fill.sh prints them over the translation 1f41c45b657ed46a… (all of the seat's roots in one cut). By AI agents, Wed Nov 11 2026. No macro, syntax, notation, axiom, sorry.
-/
import Derived.Test.YtbfplannbhafeaaDoorChecked
import GoSem.PinnedTables
import GoSem.Claim
import GoSem.ClaimJoined
import GoSem.ClaimMapViews
import Derived.JoinedTies
import Derived.KernelRfl
namespace Go.Proofs.YtbfplannbhafeaaDoor
/- THE CELL 'sum', in the pinned program and in every row, IS THE sha256 OF THE DUMP (.gsa) THAT YtbfplannbhafeaaDoorProg.lean LOADS. Nothing in Lean hashes anything: it is a label: what it is worth is what the hold of that sum in a sandbox is worth. -/
noncomputable def Tryd.pinned : Pinned := { name := "ytbfplannbhafeaadoor", sum := "1f41c45b657ed46a078940e10f4a3dc8f684e2392dea611f7a5c61cdf6fbb769", checked := Tryd.checked }
namespace Rows
def none {H : Type} : Left H := { results := [], args := [] }

/- WHAT THE LISTED PACKAGE-LEVEL VARIABLES READ AS WHEN THE CALL BEGINS. Each datum BY PROGRAM (the guide's laid-datum.mjs) off the statement by which the dump's own 'gosem.cut.vars' lays the variable. In a bare row this is a premise. The card (YtbfplannbhafeaaDoorCards.lean) ties it to the program's text. -/
def laid_unicode_utf8_acceptRanges {H : Type} : DataW H := .agg [.agg [.lit (.int .u8 128), .lit (.int .u8 191)], .agg [.lit (.int .u8 160), .lit (.int .u8 191)], .agg [.lit (.int .u8 128), .lit (.int .u8 159)], .agg [.lit (.int .u8 144), .lit (.int .u8 191)], .agg [.lit (.int .u8 128), .lit (.int .u8 143)], .agg [.lit (.int .u8 0), .lit (.int .u8 0)], .agg [.lit (.int .u8 0), .lit (.int .u8 0)], .agg [.lit (.int .u8 0), .lit (.int .u8 0)], .agg [.lit (.int .u8 0), .lit (.int .u8 0)], .agg [.lit (.int .u8 0), .lit (.int .u8 0)], .agg [.lit (.int .u8 0), .lit (.int .u8 0)], .agg [.lit (.int .u8 0), .lit (.int .u8 0)], .agg [.lit (.int .u8 0), .lit (.int .u8 0)], .agg [.lit (.int .u8 0), .lit (.int .u8 0)], .agg [.lit (.int .u8 0), .lit (.int .u8 0)], .agg [.lit (.int .u8 0), .lit (.int .u8 0)]]
/-- One of Go's own tables, pinned by name: the form's constant. -/
def laid_unicode_utf8_first : DataW Unit := Go.Pinned.utf8First

/-- 'seabaglaw01.ModeChanges': WHATEVER THE INPUT: true; the input reads as it did. -/
def modeChangesSpec : ChangeSpec := { name := "modeChanges", fn := fun _ => fun
  | [d1, d2, d3, d4] => { results := [.lit (.bool true)], args := [d1, d2, d3, d4] }
  | _ => none }
def modeChangesRow : OpenClaim := { program := "ytbfplannbhafeaadoor", sum := "1f41c45b657ed46a078940e10f4a3dc8f684e2392dea611f7a5c61cdf6fbb769", func := "seabag/seabaglaw01.ModeChanges", spec := "modeChanges", inPlace := ["internal/bytealg.CountString", "internal/bytealg.IndexByteString", "internal/bytealg.IndexString"], named := ["unicode/utf8.first", "unicode/utf8.acceptRanges", "internal/bytealg.MaxLen"], apart := false, laid := [("unicode/utf8.acceptRanges", laid_unicode_utf8_acceptRanges), ("unicode/utf8.first", laid_unicode_utf8_first)] }
def ModeChangesSaid : Prop := modeChangesRow.holds Tryd.pinned (OpenSpec.ofChange modeChangesSpec)

/-- ITS FALSE NEIGHBOUR: 'it returns false'. Refute it at one input. -/
def modeChangesWrong : ChangeSpec := { name := "modeChanges", fn := fun _ => fun
  | [d1, d2, d3, d4] => { results := [.lit (.bool false)], args := [d1, d2, d3, d4] }
  | _ => none }
def ModeChangesWrongFalsely : Prop := modeChangesRow.holds Tryd.pinned (OpenSpec.ofChange modeChangesWrong)

/-- 'seabaglaw01.ModeTwice': WHATEVER THE INPUT: true; the input reads as it did. -/
def modeTwiceSpec : ChangeSpec := { name := "modeTwice", fn := fun _ => fun
  | [d1, d2, d3, d4, d5] => { results := [.lit (.bool true)], args := [d1, d2, d3, d4, d5] }
  | _ => none }
def modeTwiceRow : OpenClaim := { program := "ytbfplannbhafeaadoor", sum := "1f41c45b657ed46a078940e10f4a3dc8f684e2392dea611f7a5c61cdf6fbb769", func := "seabag/seabaglaw01.ModeTwice", spec := "modeTwice", inPlace := ["internal/bytealg.CountString", "internal/bytealg.IndexByteString", "internal/bytealg.IndexString"], named := ["unicode/utf8.first", "unicode/utf8.acceptRanges", "internal/bytealg.MaxLen"], apart := false, laid := [("unicode/utf8.acceptRanges", laid_unicode_utf8_acceptRanges), ("unicode/utf8.first", laid_unicode_utf8_first)] }
def ModeTwiceSaid : Prop := modeTwiceRow.holds Tryd.pinned (OpenSpec.ofChange modeTwiceSpec)

/-- ITS FALSE NEIGHBOUR: 'it returns false'. Refute it at one input. -/
def modeTwiceWrong : ChangeSpec := { name := "modeTwice", fn := fun _ => fun
  | [d1, d2, d3, d4, d5] => { results := [.lit (.bool false)], args := [d1, d2, d3, d4, d5] }
  | _ => none }
def ModeTwiceWrongFalsely : Prop := modeTwiceRow.holds Tryd.pinned (OpenSpec.ofChange modeTwiceWrong)

/-- 'seabaglaw01.ModeTurns': WHATEVER THE INPUT: true; the input reads as it did. -/
def modeTurnsSpec : ChangeSpec := { name := "modeTurns", fn := fun _ => fun
  | [d1, d2, d3, d4, d5, d6] => { results := [.lit (.bool true)], args := [d1, d2, d3, d4, d5, d6] }
  | _ => none }
def modeTurnsRow : OpenClaim := { program := "ytbfplannbhafeaadoor", sum := "1f41c45b657ed46a078940e10f4a3dc8f684e2392dea611f7a5c61cdf6fbb769", func := "seabag/seabaglaw01.ModeTurns", spec := "modeTurns", inPlace := ["internal/bytealg.CountString", "internal/bytealg.IndexByteString", "internal/bytealg.IndexString"], named := ["unicode/utf8.first", "unicode/utf8.acceptRanges", "internal/bytealg.MaxLen"], apart := false, laid := [("unicode/utf8.acceptRanges", laid_unicode_utf8_acceptRanges), ("unicode/utf8.first", laid_unicode_utf8_first)] }
def ModeTurnsSaid : Prop := modeTurnsRow.holds Tryd.pinned (OpenSpec.ofChange modeTurnsSpec)

/-- ITS FALSE NEIGHBOUR: 'it returns false'. Refute it at one input. -/
def modeTurnsWrong : ChangeSpec := { name := "modeTurns", fn := fun _ => fun
  | [d1, d2, d3, d4, d5, d6] => { results := [.lit (.bool false)], args := [d1, d2, d3, d4, d5, d6] }
  | _ => none }
def ModeTurnsWrongFalsely : Prop := modeTurnsRow.holds Tryd.pinned (OpenSpec.ofChange modeTurnsWrong)

/-- 'seabaglaw01.ModeShows': WHATEVER THE INPUT: true; the input reads as it did. -/
def modeShowsSpec : ChangeSpec := { name := "modeShows", fn := fun _ => fun
  | [d1, d2, d3] => { results := [.lit (.bool true)], args := [d1, d2, d3] }
  | _ => none }
def modeShowsRow : OpenClaim := { program := "ytbfplannbhafeaadoor", sum := "1f41c45b657ed46a078940e10f4a3dc8f684e2392dea611f7a5c61cdf6fbb769", func := "seabag/seabaglaw01.ModeShows", spec := "modeShows", inPlace := ["internal/bytealg.CountString", "internal/bytealg.IndexByteString", "internal/bytealg.IndexString"], unfollowed := true, recurses := true, named := ["unicode/utf8.first", "unicode/utf8.acceptRanges", "internal/bytealg.MaxLen"], apart := false, laid := [("unicode/utf8.acceptRanges", laid_unicode_utf8_acceptRanges), ("unicode/utf8.first", laid_unicode_utf8_first)] }
def ModeShowsSaid : Prop := modeShowsRow.holds Tryd.pinned (OpenSpec.ofChange modeShowsSpec)

/-- ITS FALSE NEIGHBOUR: 'it returns false'. Refute it at one input. -/
def modeShowsWrong : ChangeSpec := { name := "modeShows", fn := fun _ => fun
  | [d1, d2, d3] => { results := [.lit (.bool false)], args := [d1, d2, d3] }
  | _ => none }
def ModeShowsWrongFalsely : Prop := modeShowsRow.holds Tryd.pinned (OpenSpec.ofChange modeShowsWrong)

/- THE SECOND FORM. 'bulk': how many values and letters a reading holds, each counted each time it is reached (what is shared counts as often as it is met; a slice's spare places count too). A statement '..UptoSaid' is the law's where the arguments, and the package variables that the reading takes, are together of bulk at most 1048576: NARROWER than '..Said'. Prove '..Said' where nothing that the law and all that it calls make is longer than what came in: it says more and counts as full. Else prove '..UptoSaid'. A law counts once. -/
mutual
def uptoBulk {H : Type} : DataW H → Nat
  | .lit (.string bytes) => bytes.length + 1
  | .lit _ => 1
  | .nil => 1
  | .ptr d => uptoBulk d + 1
  | .slice elems spare => uptoBulkAll elems + uptoBulkAll spare + 1
  | .agg parts => uptoBulkAll parts + 1
  | .iface _ d => uptoBulk d + 1
  | .map entries => uptoBulkEntries entries + 1
  | .held _ => 1
def uptoBulkAll {H : Type} : List (DataW H) → Nat
  | [] => 0
  | d :: r => uptoBulk d + uptoBulkAll r
def uptoBulkEntries {H : Type} : List (Lit × DataW H) → Nat
  | [] => 0
  | x :: r => uptoBulkEntry x + uptoBulkEntries r
def uptoBulkEntry {H : Type} : Lit × DataW H → Nat
  | (.string bytes, d) => bytes.length + uptoBulk d + 1
  | (_, d) => uptoBulk d + 1
 end
def uptoSmall : (H : Type) → List (DataW H) → Bool := fun _ ds => decide (uptoBulkAll ds ≤ 1048576)
def OpenSpec.upto (s : _root_.Go.ChangeSpec) : _root_.Go.OpenSpec := { _root_.Go.OpenSpec.ofChange s with cond := some uptoSmall }

/-- 'seabaglaw01.ModeChanges', WHERE WHAT IT READS IS OF BULK AT MOST 1048576: true; the input reads as it did. -/
def modeChangesUptoRow : OpenClaim := { program := "ytbfplannbhafeaadoor", sum := "1f41c45b657ed46a078940e10f4a3dc8f684e2392dea611f7a5c61cdf6fbb769", func := "seabag/seabaglaw01.ModeChanges", spec := "modeChanges", inPlace := ["internal/bytealg.CountString", "internal/bytealg.IndexByteString", "internal/bytealg.IndexString"], named := ["unicode/utf8.first", "unicode/utf8.acceptRanges", "internal/bytealg.MaxLen"], apart := false, laid := [("unicode/utf8.acceptRanges", laid_unicode_utf8_acceptRanges), ("unicode/utf8.first", laid_unicode_utf8_first)], narrowed := true }
def ModeChangesUptoSaid : Prop := modeChangesUptoRow.holds Tryd.pinned (OpenSpec.upto modeChangesSpec)

/-- 'seabaglaw01.ModeTwice', WHERE WHAT IT READS IS OF BULK AT MOST 1048576: true; the input reads as it did. -/
def modeTwiceUptoRow : OpenClaim := { program := "ytbfplannbhafeaadoor", sum := "1f41c45b657ed46a078940e10f4a3dc8f684e2392dea611f7a5c61cdf6fbb769", func := "seabag/seabaglaw01.ModeTwice", spec := "modeTwice", inPlace := ["internal/bytealg.CountString", "internal/bytealg.IndexByteString", "internal/bytealg.IndexString"], named := ["unicode/utf8.first", "unicode/utf8.acceptRanges", "internal/bytealg.MaxLen"], apart := false, laid := [("unicode/utf8.acceptRanges", laid_unicode_utf8_acceptRanges), ("unicode/utf8.first", laid_unicode_utf8_first)], narrowed := true }
def ModeTwiceUptoSaid : Prop := modeTwiceUptoRow.holds Tryd.pinned (OpenSpec.upto modeTwiceSpec)

/-- 'seabaglaw01.ModeTurns', WHERE WHAT IT READS IS OF BULK AT MOST 1048576: true; the input reads as it did. -/
def modeTurnsUptoRow : OpenClaim := { program := "ytbfplannbhafeaadoor", sum := "1f41c45b657ed46a078940e10f4a3dc8f684e2392dea611f7a5c61cdf6fbb769", func := "seabag/seabaglaw01.ModeTurns", spec := "modeTurns", inPlace := ["internal/bytealg.CountString", "internal/bytealg.IndexByteString", "internal/bytealg.IndexString"], named := ["unicode/utf8.first", "unicode/utf8.acceptRanges", "internal/bytealg.MaxLen"], apart := false, laid := [("unicode/utf8.acceptRanges", laid_unicode_utf8_acceptRanges), ("unicode/utf8.first", laid_unicode_utf8_first)], narrowed := true }
def ModeTurnsUptoSaid : Prop := modeTurnsUptoRow.holds Tryd.pinned (OpenSpec.upto modeTurnsSpec)

/-- 'seabaglaw01.ModeShows', WHERE WHAT IT READS IS OF BULK AT MOST 1048576: true; the input reads as it did. -/
def modeShowsUptoRow : OpenClaim := { program := "ytbfplannbhafeaadoor", sum := "1f41c45b657ed46a078940e10f4a3dc8f684e2392dea611f7a5c61cdf6fbb769", func := "seabag/seabaglaw01.ModeShows", spec := "modeShows", inPlace := ["internal/bytealg.CountString", "internal/bytealg.IndexByteString", "internal/bytealg.IndexString"], unfollowed := true, recurses := true, named := ["unicode/utf8.first", "unicode/utf8.acceptRanges", "internal/bytealg.MaxLen"], apart := false, laid := [("unicode/utf8.acceptRanges", laid_unicode_utf8_acceptRanges), ("unicode/utf8.first", laid_unicode_utf8_first)], narrowed := true }
def ModeShowsUptoSaid : Prop := modeShowsUptoRow.holds Tryd.pinned (OpenSpec.upto modeShowsSpec)

end Rows
end Go.Proofs.YtbfplannbhafeaaDoor
