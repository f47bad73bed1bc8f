/-
  No cell of these rows narrows 'for every input' (looked for: loops, veiled, ifaces, maps, wideKeys, modest, calm, conditions, laid).
  DERIVED. THE GIVEN ROWS OF THIS SEAT. 3 by the template 'for every input the law returns true; each argument reads behind the call as it read before'; 0 by the template 'total and deterministic' (their statements: YtlehofcgkmhgaaaTotals.lean).
  GIVEN WITH THE SEED: the statements are not yours to turn. If you find one false, say at which input.
  Laid BY PROGRAM, IN A SANDBOX (cutbox-rows.mjs): the forced cells as the released guide's own fill.sh prints them over the translation 75772efd3917342b… (all of the seat's roots in one cut). By AI agents, Wed Nov 11 2026. No macro, syntax, notation, axiom, sorry.
-/
import Derived.Test.YtlehofcgkmhgaaaChecked
import GoSem.Claim
import GoSem.ClaimJoined
import GoSem.ClaimMapViews
import Derived.JoinedTies
import Derived.KernelRfl
namespace Go.Proofs.Ytlehofcgkmhgaaa
/- THE CELL 'sum', in the pinned program and in every row, IS THE sha256 OF THE DUMP (.gsa) THAT YtlehofcgkmhgaaaProg.lean LOADS. Nothing in Lean hashes anything: it is a label: what it is worth is what the hold of that sum in a sandbox is worth. -/
noncomputable def Try.pinned : Pinned := { name := "ytlehofcgkmhgaaa", sum := "75772efd3917342b7f78a2bfedaa48d72b6043dc8b9f1e66fab3bc0c8b71a9a1", checked := Try.checked }
namespace Rows
def none {H : Type} : Left H := { results := [], args := [] }

/-- 'seabaglaw19.FieldQuotes': WHATEVER THE INPUT: true; the input reads as it did. -/
def fieldQuotesSpec : ChangeSpec := { name := "fieldQuotes", fn := fun _ => fun
  | [d1, d2] => { results := [.lit (.bool true)], args := [d1, d2] }
  | _ => none }
def fieldQuotesRow : OpenClaim := { program := "ytlehofcgkmhgaaa", sum := "75772efd3917342b7f78a2bfedaa48d72b6043dc8b9f1e66fab3bc0c8b71a9a1", func := "seabag/seabaglaw19.FieldQuotes", spec := "fieldQuotes", inPlace := ["internal/bytealg.IndexByteString", "internal/abi.NoEscape"], apart := false }
def FieldQuotesSaid : Prop := fieldQuotesRow.holds Try.pinned (OpenSpec.ofChange fieldQuotesSpec)

/-- ITS FALSE NEIGHBOUR: 'it returns false'. Refute it at one input. -/
def fieldQuotesWrong : ChangeSpec := { name := "fieldQuotes", fn := fun _ => fun
  | [d1, d2] => { results := [.lit (.bool false)], args := [d1, d2] }
  | _ => none }
def FieldQuotesWrongFalsely : Prop := fieldQuotesRow.holds Try.pinned (OpenSpec.ofChange fieldQuotesWrong)

/-- 'seabaglaw19.FieldCounts': WHATEVER THE INPUT: true; the input reads as it did. -/
def fieldCountsSpec : ChangeSpec := { name := "fieldCounts", fn := fun _ => fun
  | [d1, d2] => { results := [.lit (.bool true)], args := [d1, d2] }
  | _ => none }
def fieldCountsRow : OpenClaim := { program := "ytlehofcgkmhgaaa", sum := "75772efd3917342b7f78a2bfedaa48d72b6043dc8b9f1e66fab3bc0c8b71a9a1", func := "seabag/seabaglaw19.FieldCounts", spec := "fieldCounts", inPlace := ["internal/bytealg.IndexByteString", "internal/abi.NoEscape"], apart := false }
def FieldCountsSaid : Prop := fieldCountsRow.holds Try.pinned (OpenSpec.ofChange fieldCountsSpec)

/-- ITS FALSE NEIGHBOUR: 'it returns false'. Refute it at one input. -/
def fieldCountsWrong : ChangeSpec := { name := "fieldCounts", fn := fun _ => fun
  | [d1, d2] => { results := [.lit (.bool false)], args := [d1, d2] }
  | _ => none }
def FieldCountsWrongFalsely : Prop := fieldCountsRow.holds Try.pinned (OpenSpec.ofChange fieldCountsWrong)

/-- 'seabaglaw19.FieldSplits': WHATEVER THE INPUT: true; the input reads as it did. -/
def fieldSplitsSpec : ChangeSpec := { name := "fieldSplits", fn := fun _ => fun
  | [d1, d2] => { results := [.lit (.bool true)], args := [d1, d2] }
  | _ => none }
def fieldSplitsRow : OpenClaim := { program := "ytlehofcgkmhgaaa", sum := "75772efd3917342b7f78a2bfedaa48d72b6043dc8b9f1e66fab3bc0c8b71a9a1", func := "seabag/seabaglaw19.FieldSplits", spec := "fieldSplits", inPlace := ["internal/bytealg.IndexByteString", "internal/abi.NoEscape"], apart := false }
def FieldSplitsSaid : Prop := fieldSplitsRow.holds Try.pinned (OpenSpec.ofChange fieldSplitsSpec)

/-- ITS FALSE NEIGHBOUR: 'it returns false'. Refute it at one input. -/
def fieldSplitsWrong : ChangeSpec := { name := "fieldSplits", fn := fun _ => fun
  | [d1, d2] => { results := [.lit (.bool false)], args := [d1, d2] }
  | _ => none }
def FieldSplitsWrongFalsely : Prop := fieldSplitsRow.holds Try.pinned (OpenSpec.ofChange fieldSplitsWrong)

/- THE SECOND FORM. 'bulk': how many values and letters a reading holds, each counted each time it is reached (what is shared counts as often as it is met; a slice's spare places count too). A statement '..UptoSaid' is the law's where the arguments, and the package variables that the reading takes, are together of bulk at most 1048576: NARROWER than '..Said'. Prove '..Said' where nothing that the law and all that it calls make is longer than what came in: it says more and counts as full. Else prove '..UptoSaid'. A law counts once. -/
mutual
def uptoBulk {H : Type} : DataW H → Nat
  | .lit (.string bytes) => bytes.length + 1
  | .lit _ => 1
  | .nil => 1
  | .ptr d => uptoBulk d + 1
  | .slice elems spare => uptoBulkAll elems + uptoBulkAll spare + 1
  | .agg parts => uptoBulkAll parts + 1
  | .iface _ d => uptoBulk d + 1
  | .map entries => uptoBulkEntries entries + 1
  | .held _ => 1
def uptoBulkAll {H : Type} : List (DataW H) → Nat
  | [] => 0
  | d :: r => uptoBulk d + uptoBulkAll r
def uptoBulkEntries {H : Type} : List (Lit × DataW H) → Nat
  | [] => 0
  | x :: r => uptoBulkEntry x + uptoBulkEntries r
def uptoBulkEntry {H : Type} : Lit × DataW H → Nat
  | (.string bytes, d) => bytes.length + uptoBulk d + 1
  | (_, d) => uptoBulk d + 1
 end
def uptoSmall : (H : Type) → List (DataW H) → Bool := fun _ ds => decide (uptoBulkAll ds ≤ 1048576)
def OpenSpec.upto (s : _root_.Go.ChangeSpec) : _root_.Go.OpenSpec := { _root_.Go.OpenSpec.ofChange s with cond := some uptoSmall }

/-- 'seabaglaw19.FieldQuotes', WHERE WHAT IT READS IS OF BULK AT MOST 1048576: true; the input reads as it did. -/
def fieldQuotesUptoRow : OpenClaim := { program := "ytlehofcgkmhgaaa", sum := "75772efd3917342b7f78a2bfedaa48d72b6043dc8b9f1e66fab3bc0c8b71a9a1", func := "seabag/seabaglaw19.FieldQuotes", spec := "fieldQuotes", inPlace := ["internal/bytealg.IndexByteString", "internal/abi.NoEscape"], apart := false, narrowed := true }
def FieldQuotesUptoSaid : Prop := fieldQuotesUptoRow.holds Try.pinned (OpenSpec.upto fieldQuotesSpec)

/-- 'seabaglaw19.FieldCounts', WHERE WHAT IT READS IS OF BULK AT MOST 1048576: true; the input reads as it did. -/
def fieldCountsUptoRow : OpenClaim := { program := "ytlehofcgkmhgaaa", sum := "75772efd3917342b7f78a2bfedaa48d72b6043dc8b9f1e66fab3bc0c8b71a9a1", func := "seabag/seabaglaw19.FieldCounts", spec := "fieldCounts", inPlace := ["internal/bytealg.IndexByteString", "internal/abi.NoEscape"], apart := false, narrowed := true }
def FieldCountsUptoSaid : Prop := fieldCountsUptoRow.holds Try.pinned (OpenSpec.upto fieldCountsSpec)

/-- 'seabaglaw19.FieldSplits', WHERE WHAT IT READS IS OF BULK AT MOST 1048576: true; the input reads as it did. -/
def fieldSplitsUptoRow : OpenClaim := { program := "ytlehofcgkmhgaaa", sum := "75772efd3917342b7f78a2bfedaa48d72b6043dc8b9f1e66fab3bc0c8b71a9a1", func := "seabag/seabaglaw19.FieldSplits", spec := "fieldSplits", inPlace := ["internal/bytealg.IndexByteString", "internal/abi.NoEscape"], apart := false, narrowed := true }
def FieldSplitsUptoSaid : Prop := fieldSplitsUptoRow.holds Try.pinned (OpenSpec.upto fieldSplitsSpec)

end Rows
end Go.Proofs.Ytlehofcgkmhgaaa
