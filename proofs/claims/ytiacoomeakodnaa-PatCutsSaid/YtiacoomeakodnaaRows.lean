/-
  No cell of these rows narrows 'for every input' (looked for: loops, veiled, ifaces, maps, wideKeys, modest, calm, conditions, laid).
  DERIVED. THE GIVEN ROWS OF THIS SEAT. 5 by the template 'for every input the law returns true; each argument reads behind the call as it read before'; 0 by the template 'total and deterministic' (their statements: YtiacoomeakodnaaTotals.lean).
  GIVEN WITH THE SEED: the statements are not yours to turn. If you find one false, say at which input.
  Laid BY PROGRAM, IN A SANDBOX (cutbox-rows.mjs): the forced cells as the released guide's own fill.sh prints them over the translation ca0cb222343cb608… (all of the seat's roots in one cut). By AI agents, Wed Nov 11 2026. No macro, syntax, notation, axiom, sorry.
-/
import Derived.Test.YtiacoomeakodnaaChecked
import GoSem.Claim
import GoSem.ClaimJoined
import GoSem.ClaimMapViews
import Derived.JoinedTies
import Derived.KernelRfl
namespace Go.Proofs.Ytiacoomeakodnaa
/- THE CELL 'sum', in the pinned program and in every row, IS THE sha256 OF THE DUMP (.gsa) THAT YtiacoomeakodnaaProg.lean LOADS. Nothing in Lean hashes anything: it is a label: what it is worth is what the hold of that sum in a sandbox is worth. -/
noncomputable def Try.pinned : Pinned := { name := "ytiacoomeakodnaa", sum := "ca0cb222343cb6083968e101b8f8e280d510f40c4fb861676f73cbb52834b0ad", checked := Try.checked }
namespace Rows
def none {H : Type} : Left H := { results := [], args := [] }

/-- 'seabaglaw16.PatSets': WHATEVER THE INPUT: true; the input reads as it did. -/
def patSetsSpec : ChangeSpec := { name := "patSets", fn := fun _ => fun
  | [d1, d2] => { results := [.lit (.bool true)], args := [d1, d2] }
  | _ => none }
def patSetsRow : OpenClaim := { program := "ytiacoomeakodnaa", sum := "ca0cb222343cb6083968e101b8f8e280d510f40c4fb861676f73cbb52834b0ad", func := "seabag/seabaglaw16.PatSets", spec := "patSets", apart := false }
def PatSetsSaid : Prop := patSetsRow.holds Try.pinned (OpenSpec.ofChange patSetsSpec)

/-- ITS FALSE NEIGHBOUR: 'it returns false'. Refute it at one input. -/
def patSetsWrong : ChangeSpec := { name := "patSets", fn := fun _ => fun
  | [d1, d2] => { results := [.lit (.bool false)], args := [d1, d2] }
  | _ => none }
def PatSetsWrongFalsely : Prop := patSetsRow.holds Try.pinned (OpenSpec.ofChange patSetsWrong)

/-- 'seabaglaw16.PatMatches': WHATEVER THE INPUT: true; the input reads as it did. -/
def patMatchesSpec : ChangeSpec := { name := "patMatches", fn := fun _ => fun
  | [d1, d2] => { results := [.lit (.bool true)], args := [d1, d2] }
  | _ => none }
def patMatchesRow : OpenClaim := { program := "ytiacoomeakodnaa", sum := "ca0cb222343cb6083968e101b8f8e280d510f40c4fb861676f73cbb52834b0ad", func := "seabag/seabaglaw16.PatMatches", spec := "patMatches", recurses := true, apart := false }
def PatMatchesSaid : Prop := patMatchesRow.holds Try.pinned (OpenSpec.ofChange patMatchesSpec)

/-- ITS FALSE NEIGHBOUR: 'it returns false'. Refute it at one input. -/
def patMatchesWrong : ChangeSpec := { name := "patMatches", fn := fun _ => fun
  | [d1, d2] => { results := [.lit (.bool false)], args := [d1, d2] }
  | _ => none }
def PatMatchesWrongFalsely : Prop := patMatchesRow.holds Try.pinned (OpenSpec.ofChange patMatchesWrong)

/-- 'seabaglaw16.PatStars': WHATEVER THE INPUT: true; the input reads as it did. -/
def patStarsSpec : ChangeSpec := { name := "patStars", fn := fun _ => fun
  | [d1, d2] => { results := [.lit (.bool true)], args := [d1, d2] }
  | _ => none }
def patStarsRow : OpenClaim := { program := "ytiacoomeakodnaa", sum := "ca0cb222343cb6083968e101b8f8e280d510f40c4fb861676f73cbb52834b0ad", func := "seabag/seabaglaw16.PatStars", spec := "patStars", apart := false }
def PatStarsSaid : Prop := patStarsRow.holds Try.pinned (OpenSpec.ofChange patStarsSpec)

/-- ITS FALSE NEIGHBOUR: 'it returns false'. Refute it at one input. -/
def patStarsWrong : ChangeSpec := { name := "patStars", fn := fun _ => fun
  | [d1, d2] => { results := [.lit (.bool false)], args := [d1, d2] }
  | _ => none }
def PatStarsWrongFalsely : Prop := patStarsRow.holds Try.pinned (OpenSpec.ofChange patStarsWrong)

/-- 'seabaglaw16.PatCuts': WHATEVER THE INPUT: true; the input reads as it did. -/
def patCutsSpec : ChangeSpec := { name := "patCuts", fn := fun _ => fun
  | [d1, d2, d3, d4] => { results := [.lit (.bool true)], args := [d1, d2, d3, d4] }
  | _ => none }
def patCutsRow : OpenClaim := { program := "ytiacoomeakodnaa", sum := "ca0cb222343cb6083968e101b8f8e280d510f40c4fb861676f73cbb52834b0ad", func := "seabag/seabaglaw16.PatCuts", spec := "patCuts", recurses := true, apart := false }
def PatCutsSaid : Prop := patCutsRow.holds Try.pinned (OpenSpec.ofChange patCutsSpec)

/-- ITS FALSE NEIGHBOUR: 'it returns false'. Refute it at one input. -/
def patCutsWrong : ChangeSpec := { name := "patCuts", fn := fun _ => fun
  | [d1, d2, d3, d4] => { results := [.lit (.bool false)], args := [d1, d2, d3, d4] }
  | _ => none }
def PatCutsWrongFalsely : Prop := patCutsRow.holds Try.pinned (OpenSpec.ofChange patCutsWrong)

/-- 'seabaglaw16.PatQuotes': WHATEVER THE INPUT: true; the input reads as it did. -/
def patQuotesSpec : ChangeSpec := { name := "patQuotes", fn := fun _ => fun
  | [d1, d2] => { results := [.lit (.bool true)], args := [d1, d2] }
  | _ => none }
def patQuotesRow : OpenClaim := { program := "ytiacoomeakodnaa", sum := "ca0cb222343cb6083968e101b8f8e280d510f40c4fb861676f73cbb52834b0ad", func := "seabag/seabaglaw16.PatQuotes", spec := "patQuotes", apart := false }
def PatQuotesSaid : Prop := patQuotesRow.holds Try.pinned (OpenSpec.ofChange patQuotesSpec)

/-- ITS FALSE NEIGHBOUR: 'it returns false'. Refute it at one input. -/
def patQuotesWrong : ChangeSpec := { name := "patQuotes", fn := fun _ => fun
  | [d1, d2] => { results := [.lit (.bool false)], args := [d1, d2] }
  | _ => none }
def PatQuotesWrongFalsely : Prop := patQuotesRow.holds Try.pinned (OpenSpec.ofChange patQuotesWrong)

/- THE SECOND FORM. 'bulk': how many values and letters a reading holds, each counted each time it is reached (what is shared counts as often as it is met; a slice's spare places count too). A statement '..UptoSaid' is the law's where the arguments, and the package variables that the reading takes, are together of bulk at most 1048576: NARROWER than '..Said'. Prove '..Said' where nothing that the law and all that it calls make is longer than what came in: it says more and counts as full. Else prove '..UptoSaid'. A law counts once. -/
mutual
def uptoBulk {H : Type} : DataW H → Nat
  | .lit (.string bytes) => bytes.length + 1
  | .lit _ => 1
  | .nil => 1
  | .ptr d => uptoBulk d + 1
  | .slice elems spare => uptoBulkAll elems + uptoBulkAll spare + 1
  | .agg parts => uptoBulkAll parts + 1
  | .iface _ d => uptoBulk d + 1
  | .map entries => uptoBulkEntries entries + 1
  | .held _ => 1
def uptoBulkAll {H : Type} : List (DataW H) → Nat
  | [] => 0
  | d :: r => uptoBulk d + uptoBulkAll r
def uptoBulkEntries {H : Type} : List (Lit × DataW H) → Nat
  | [] => 0
  | x :: r => uptoBulkEntry x + uptoBulkEntries r
def uptoBulkEntry {H : Type} : Lit × DataW H → Nat
  | (.string bytes, d) => bytes.length + uptoBulk d + 1
  | (_, d) => uptoBulk d + 1
 end
def uptoSmall : (H : Type) → List (DataW H) → Bool := fun _ ds => decide (uptoBulkAll ds ≤ 1048576)
def OpenSpec.upto (s : _root_.Go.ChangeSpec) : _root_.Go.OpenSpec := { _root_.Go.OpenSpec.ofChange s with cond := some uptoSmall }

/-- 'seabaglaw16.PatSets', WHERE WHAT IT READS IS OF BULK AT MOST 1048576: true; the input reads as it did. -/
def patSetsUptoRow : OpenClaim := { program := "ytiacoomeakodnaa", sum := "ca0cb222343cb6083968e101b8f8e280d510f40c4fb861676f73cbb52834b0ad", func := "seabag/seabaglaw16.PatSets", spec := "patSets", apart := false, narrowed := true }
def PatSetsUptoSaid : Prop := patSetsUptoRow.holds Try.pinned (OpenSpec.upto patSetsSpec)

/-- 'seabaglaw16.PatMatches', WHERE WHAT IT READS IS OF BULK AT MOST 1048576: true; the input reads as it did. -/
def patMatchesUptoRow : OpenClaim := { program := "ytiacoomeakodnaa", sum := "ca0cb222343cb6083968e101b8f8e280d510f40c4fb861676f73cbb52834b0ad", func := "seabag/seabaglaw16.PatMatches", spec := "patMatches", recurses := true, apart := false, narrowed := true }
def PatMatchesUptoSaid : Prop := patMatchesUptoRow.holds Try.pinned (OpenSpec.upto patMatchesSpec)

/-- 'seabaglaw16.PatStars', WHERE WHAT IT READS IS OF BULK AT MOST 1048576: true; the input reads as it did. -/
def patStarsUptoRow : OpenClaim := { program := "ytiacoomeakodnaa", sum := "ca0cb222343cb6083968e101b8f8e280d510f40c4fb861676f73cbb52834b0ad", func := "seabag/seabaglaw16.PatStars", spec := "patStars", apart := false, narrowed := true }
def PatStarsUptoSaid : Prop := patStarsUptoRow.holds Try.pinned (OpenSpec.upto patStarsSpec)

/-- 'seabaglaw16.PatCuts', WHERE WHAT IT READS IS OF BULK AT MOST 1048576: true; the input reads as it did. -/
def patCutsUptoRow : OpenClaim := { program := "ytiacoomeakodnaa", sum := "ca0cb222343cb6083968e101b8f8e280d510f40c4fb861676f73cbb52834b0ad", func := "seabag/seabaglaw16.PatCuts", spec := "patCuts", recurses := true, apart := false, narrowed := true }
def PatCutsUptoSaid : Prop := patCutsUptoRow.holds Try.pinned (OpenSpec.upto patCutsSpec)

/-- 'seabaglaw16.PatQuotes', WHERE WHAT IT READS IS OF BULK AT MOST 1048576: true; the input reads as it did. -/
def patQuotesUptoRow : OpenClaim := { program := "ytiacoomeakodnaa", sum := "ca0cb222343cb6083968e101b8f8e280d510f40c4fb861676f73cbb52834b0ad", func := "seabag/seabaglaw16.PatQuotes", spec := "patQuotes", apart := false, narrowed := true }
def PatQuotesUptoSaid : Prop := patQuotesUptoRow.holds Try.pinned (OpenSpec.upto patQuotesSpec)

end Rows
end Go.Proofs.Ytiacoomeakodnaa
