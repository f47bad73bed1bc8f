/-
  No cell of these rows narrows 'for every input' (looked for: loops, veiled, ifaces, maps, wideKeys, modest, calm, conditions, laid).
  DERIVED. THE GIVEN ROWS OF THIS SEAT. 4 by the template 'for every input the law returns true; each argument reads behind the call as it read before'; 0 by the template 'total and deterministic' (their statements: YtdffeaolooojgaaTotals.lean).
  GIVEN WITH THE SEED: the statements are not yours to turn. If you find one false, say at which input.
  Laid BY PROGRAM, IN A SANDBOX (cutbox-rows.mjs): the forced cells as the released guide's own fill.sh prints them over the translation 5e73b0cd4a09556f… (all of the seat's roots in one cut). By AI agents, Wed Nov 11 2026. No macro, syntax, notation, axiom, sorry.
-/
import Derived.Test.YtdffeaolooojgaaChecked
import GoSem.Claim
import GoSem.ClaimJoined
import GoSem.ClaimMapViews
import Derived.JoinedTies
import Derived.KernelRfl
namespace Go.Proofs.Ytdffeaolooojgaa
/- THE CELL 'sum', in the pinned program and in every row, IS THE sha256 OF THE DUMP (.gsa) THAT YtdffeaolooojgaaProg.lean LOADS. Nothing in Lean hashes anything: it is a label: what it is worth is what the hold of that sum in a sandbox is worth. -/
noncomputable def Try.pinned : Pinned := { name := "ytdffeaolooojgaa", sum := "5e73b0cd4a09556f1810ff69af13e4352341a990db378ec5b35ace2cbb008f23", checked := Try.checked }
namespace Rows
def none {H : Type} : Left H := { results := [], args := [] }

/-- 'seabaglaw12.GainOrders': WHATEVER THE INPUT: true; the input reads as it did. -/
def gainOrdersSpec : ChangeSpec := { name := "gainOrders", fn := fun _ => fun
  | [d1, d2, d3, d4] => { results := [.lit (.bool true)], args := [d1, d2, d3, d4] }
  | _ => none }
def gainOrdersRow : OpenClaim := { program := "ytdffeaolooojgaa", sum := "5e73b0cd4a09556f1810ff69af13e4352341a990db378ec5b35ace2cbb008f23", func := "seabag/seabaglaw12.GainOrders", spec := "gainOrders", inPlace := ["math.Float64frombits", "math.Float64bits"], apart := false }
def GainOrdersSaid : Prop := gainOrdersRow.holds Try.pinned (OpenSpec.ofChange gainOrdersSpec)

/-- ITS FALSE NEIGHBOUR: 'it returns false'. Refute it at one input. -/
def gainOrdersWrong : ChangeSpec := { name := "gainOrders", fn := fun _ => fun
  | [d1, d2, d3, d4] => { results := [.lit (.bool false)], args := [d1, d2, d3, d4] }
  | _ => none }
def GainOrdersWrongFalsely : Prop := gainOrdersRow.holds Try.pinned (OpenSpec.ofChange gainOrdersWrong)

/-- 'seabaglaw12.GainCosts': WHATEVER THE INPUT: true; the input reads as it did. -/
def gainCostsSpec : ChangeSpec := { name := "gainCosts", fn := fun _ => fun
  | [d1, d2] => { results := [.lit (.bool true)], args := [d1, d2] }
  | _ => none }
def gainCostsRow : OpenClaim := { program := "ytdffeaolooojgaa", sum := "5e73b0cd4a09556f1810ff69af13e4352341a990db378ec5b35ace2cbb008f23", func := "seabag/seabaglaw12.GainCosts", spec := "gainCosts", inPlace := ["math.Float64frombits", "math.Float64bits"], apart := false }
def GainCostsSaid : Prop := gainCostsRow.holds Try.pinned (OpenSpec.ofChange gainCostsSpec)

/-- ITS FALSE NEIGHBOUR: 'it returns false'. Refute it at one input. -/
def gainCostsWrong : ChangeSpec := { name := "gainCosts", fn := fun _ => fun
  | [d1, d2] => { results := [.lit (.bool false)], args := [d1, d2] }
  | _ => none }
def GainCostsWrongFalsely : Prop := gainCostsRow.holds Try.pinned (OpenSpec.ofChange gainCostsWrong)

/-- 'seabaglaw12.GainTexts': WHATEVER THE INPUT: true; the input reads as it did. -/
def gainTextsSpec : ChangeSpec := { name := "gainTexts", fn := fun _ => fun
  | [d1, d2] => { results := [.lit (.bool true)], args := [d1, d2] }
  | _ => none }
def gainTextsRow : OpenClaim := { program := "ytdffeaolooojgaa", sum := "5e73b0cd4a09556f1810ff69af13e4352341a990db378ec5b35ace2cbb008f23", func := "seabag/seabaglaw12.GainTexts", spec := "gainTexts", inPlace := ["math.Float64frombits", "math.Float64bits"], apart := false }
def GainTextsSaid : Prop := gainTextsRow.holds Try.pinned (OpenSpec.ofChange gainTextsSpec)

/-- ITS FALSE NEIGHBOUR: 'it returns false'. Refute it at one input. -/
def gainTextsWrong : ChangeSpec := { name := "gainTexts", fn := fun _ => fun
  | [d1, d2] => { results := [.lit (.bool false)], args := [d1, d2] }
  | _ => none }
def GainTextsWrongFalsely : Prop := gainTextsRow.holds Try.pinned (OpenSpec.ofChange gainTextsWrong)

/-- 'seabaglaw12.GainShares': WHATEVER THE INPUT: true; the input reads as it did. -/
def gainSharesSpec : ChangeSpec := { name := "gainShares", fn := fun _ => fun
  | [d1, d2, d3, d4] => { results := [.lit (.bool true)], args := [d1, d2, d3, d4] }
  | _ => none }
def gainSharesRow : OpenClaim := { program := "ytdffeaolooojgaa", sum := "5e73b0cd4a09556f1810ff69af13e4352341a990db378ec5b35ace2cbb008f23", func := "seabag/seabaglaw12.GainShares", spec := "gainShares", inPlace := ["math.Float64frombits", "math.Float64bits"], apart := false }
def GainSharesSaid : Prop := gainSharesRow.holds Try.pinned (OpenSpec.ofChange gainSharesSpec)

/-- ITS FALSE NEIGHBOUR: 'it returns false'. Refute it at one input. -/
def gainSharesWrong : ChangeSpec := { name := "gainShares", fn := fun _ => fun
  | [d1, d2, d3, d4] => { results := [.lit (.bool false)], args := [d1, d2, d3, d4] }
  | _ => none }
def GainSharesWrongFalsely : Prop := gainSharesRow.holds Try.pinned (OpenSpec.ofChange gainSharesWrong)

/- THE SECOND FORM. 'bulk': how many values and letters a reading holds, each counted each time it is reached (what is shared counts as often as it is met; a slice's spare places count too). A statement '..UptoSaid' is the law's where the arguments, and the package variables that the reading takes, are together of bulk at most 1048576: NARROWER than '..Said'. Prove '..Said' where nothing that the law and all that it calls make is longer than what came in: it says more and counts as full. Else prove '..UptoSaid'. A law counts once. -/
mutual
def uptoBulk {H : Type} : DataW H → Nat
  | .lit (.string bytes) => bytes.length + 1
  | .lit _ => 1
  | .nil => 1
  | .ptr d => uptoBulk d + 1
  | .slice elems spare => uptoBulkAll elems + uptoBulkAll spare + 1
  | .agg parts => uptoBulkAll parts + 1
  | .iface _ d => uptoBulk d + 1
  | .map entries => uptoBulkEntries entries + 1
  | .held _ => 1
def uptoBulkAll {H : Type} : List (DataW H) → Nat
  | [] => 0
  | d :: r => uptoBulk d + uptoBulkAll r
def uptoBulkEntries {H : Type} : List (Lit × DataW H) → Nat
  | [] => 0
  | x :: r => uptoBulkEntry x + uptoBulkEntries r
def uptoBulkEntry {H : Type} : Lit × DataW H → Nat
  | (.string bytes, d) => bytes.length + uptoBulk d + 1
  | (_, d) => uptoBulk d + 1
 end
def uptoSmall : (H : Type) → List (DataW H) → Bool := fun _ ds => decide (uptoBulkAll ds ≤ 1048576)
def OpenSpec.upto (s : _root_.Go.ChangeSpec) : _root_.Go.OpenSpec := { _root_.Go.OpenSpec.ofChange s with cond := some uptoSmall }

/-- 'seabaglaw12.GainOrders', WHERE WHAT IT READS IS OF BULK AT MOST 1048576: true; the input reads as it did. -/
def gainOrdersUptoRow : OpenClaim := { program := "ytdffeaolooojgaa", sum := "5e73b0cd4a09556f1810ff69af13e4352341a990db378ec5b35ace2cbb008f23", func := "seabag/seabaglaw12.GainOrders", spec := "gainOrders", inPlace := ["math.Float64frombits", "math.Float64bits"], apart := false, narrowed := true }
def GainOrdersUptoSaid : Prop := gainOrdersUptoRow.holds Try.pinned (OpenSpec.upto gainOrdersSpec)

/-- 'seabaglaw12.GainCosts', WHERE WHAT IT READS IS OF BULK AT MOST 1048576: true; the input reads as it did. -/
def gainCostsUptoRow : OpenClaim := { program := "ytdffeaolooojgaa", sum := "5e73b0cd4a09556f1810ff69af13e4352341a990db378ec5b35ace2cbb008f23", func := "seabag/seabaglaw12.GainCosts", spec := "gainCosts", inPlace := ["math.Float64frombits", "math.Float64bits"], apart := false, narrowed := true }
def GainCostsUptoSaid : Prop := gainCostsUptoRow.holds Try.pinned (OpenSpec.upto gainCostsSpec)

/-- 'seabaglaw12.GainTexts', WHERE WHAT IT READS IS OF BULK AT MOST 1048576: true; the input reads as it did. -/
def gainTextsUptoRow : OpenClaim := { program := "ytdffeaolooojgaa", sum := "5e73b0cd4a09556f1810ff69af13e4352341a990db378ec5b35ace2cbb008f23", func := "seabag/seabaglaw12.GainTexts", spec := "gainTexts", inPlace := ["math.Float64frombits", "math.Float64bits"], apart := false, narrowed := true }
def GainTextsUptoSaid : Prop := gainTextsUptoRow.holds Try.pinned (OpenSpec.upto gainTextsSpec)

/-- 'seabaglaw12.GainShares', WHERE WHAT IT READS IS OF BULK AT MOST 1048576: true; the input reads as it did. -/
def gainSharesUptoRow : OpenClaim := { program := "ytdffeaolooojgaa", sum := "5e73b0cd4a09556f1810ff69af13e4352341a990db378ec5b35ace2cbb008f23", func := "seabag/seabaglaw12.GainShares", spec := "gainShares", inPlace := ["math.Float64frombits", "math.Float64bits"], apart := false, narrowed := true }
def GainSharesUptoSaid : Prop := gainSharesUptoRow.holds Try.pinned (OpenSpec.upto gainSharesSpec)

end Rows
end Go.Proofs.Ytdffeaolooojgaa
