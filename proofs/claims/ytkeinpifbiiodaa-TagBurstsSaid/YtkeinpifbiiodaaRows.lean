/-
  No cell of these rows narrows 'for every input' (looked for: loops, veiled, ifaces, maps, wideKeys, modest, calm, conditions, laid).
  DERIVED. THE GIVEN ROWS OF THIS SEAT. 4 by the template 'for every input the law returns true; each argument reads behind the call as it read before'; 0 by the template 'total and deterministic' (their statements: YtkeinpifbiiodaaTotals.lean).
  GIVEN WITH THE SEED: the statements are not yours to turn. If you find one false, say at which input.
  Laid BY PROGRAM, IN A SANDBOX (cutbox-rows.mjs): the forced cells as the released guide's own fill.sh prints them over the translation 54ff22bdd13c9c27… (all of the seat's roots in one cut). By AI agents, Wed Nov 11 2026. No macro, syntax, notation, axiom, sorry.
-/
import Derived.Test.YtkeinpifbiiodaaChecked
import GoSem.Claim
import GoSem.ClaimJoined
import GoSem.ClaimMapViews
import Derived.JoinedTies
import Derived.KernelRfl
namespace Go.Proofs.Ytkeinpifbiiodaa
/- THE CELL 'sum', in the pinned program and in every row, IS THE sha256 OF THE DUMP (.gsa) THAT YtkeinpifbiiodaaProg.lean LOADS. Nothing in Lean hashes anything: it is a label: what it is worth is what the hold of that sum in a sandbox is worth. -/
noncomputable def Try.pinned : Pinned := { name := "ytkeinpifbiiodaa", sum := "54ff22bdd13c9c27750e3dc378a60cfdddc566dee8cf3694b9a8698ef14f56a3", checked := Try.checked }
namespace Rows
def none {H : Type} : Left H := { results := [], args := [] }

/-- 'seabaglaw13.TagStages': WHATEVER THE INPUT: true; the input reads as it did. -/
def tagStagesSpec : ChangeSpec := { name := "tagStages", fn := fun _ => fun
  | [d] => { results := [.lit (.bool true)], args := [d] }
  | _ => none }
def tagStagesRow : OpenClaim := { program := "ytkeinpifbiiodaa", sum := "54ff22bdd13c9c27750e3dc378a60cfdddc566dee8cf3694b9a8698ef14f56a3", func := "seabag/seabaglaw13.TagStages", spec := "tagStages", recurses := true, apart := false }
def TagStagesSaid : Prop := tagStagesRow.holds Try.pinned (OpenSpec.ofChange tagStagesSpec)

/-- ITS FALSE NEIGHBOUR: 'it returns false'. Refute it at one input. -/
def tagStagesWrong : ChangeSpec := { name := "tagStages", fn := fun _ => fun
  | [d] => { results := [.lit (.bool false)], args := [d] }
  | _ => none }
def TagStagesWrongFalsely : Prop := tagStagesRow.holds Try.pinned (OpenSpec.ofChange tagStagesWrong)

/-- 'seabaglaw13.TagFinds': WHATEVER THE INPUT: true; the input reads as it did. -/
def tagFindsSpec : ChangeSpec := { name := "tagFinds", fn := fun _ => fun
  | [d1, d2, d3] => { results := [.lit (.bool true)], args := [d1, d2, d3] }
  | _ => none }
def tagFindsRow : OpenClaim := { program := "ytkeinpifbiiodaa", sum := "54ff22bdd13c9c27750e3dc378a60cfdddc566dee8cf3694b9a8698ef14f56a3", func := "seabag/seabaglaw13.TagFinds", spec := "tagFinds", inPlace := ["internal/bytealg.IndexByteString", "internal/bytealg.IndexString"], named := ["internal/bytealg.MaxLen"], apart := false }
def TagFindsSaid : Prop := tagFindsRow.holds Try.pinned (OpenSpec.ofChange tagFindsSpec)

/-- ITS FALSE NEIGHBOUR: 'it returns false'. Refute it at one input. -/
def tagFindsWrong : ChangeSpec := { name := "tagFinds", fn := fun _ => fun
  | [d1, d2, d3] => { results := [.lit (.bool false)], args := [d1, d2, d3] }
  | _ => none }
def TagFindsWrongFalsely : Prop := tagFindsRow.holds Try.pinned (OpenSpec.ofChange tagFindsWrong)

/-- 'seabaglaw13.TagBursts': WHATEVER THE INPUT: true; the input reads as it did. -/
def tagBurstsSpec : ChangeSpec := { name := "tagBursts", fn := fun _ => fun
  | [d1, d2, d3] => { results := [.lit (.bool true)], args := [d1, d2, d3] }
  | _ => none }
def tagBurstsRow : OpenClaim := { program := "ytkeinpifbiiodaa", sum := "54ff22bdd13c9c27750e3dc378a60cfdddc566dee8cf3694b9a8698ef14f56a3", func := "seabag/seabaglaw13.TagBursts", spec := "tagBursts", inPlace := ["internal/bytealg.IndexByteString", "internal/bytealg.IndexString"], named := ["internal/bytealg.MaxLen"], apart := false }
def TagBurstsSaid : Prop := tagBurstsRow.holds Try.pinned (OpenSpec.ofChange tagBurstsSpec)

/-- ITS FALSE NEIGHBOUR: 'it returns false'. Refute it at one input. -/
def tagBurstsWrong : ChangeSpec := { name := "tagBursts", fn := fun _ => fun
  | [d1, d2, d3] => { results := [.lit (.bool false)], args := [d1, d2, d3] }
  | _ => none }
def TagBurstsWrongFalsely : Prop := tagBurstsRow.holds Try.pinned (OpenSpec.ofChange tagBurstsWrong)

/-- 'seabaglaw13.TagRises': WHATEVER THE INPUT: true; the input reads as it did. -/
def tagRisesSpec : ChangeSpec := { name := "tagRises", fn := fun _ => fun
  | [d] => { results := [.lit (.bool true)], args := [d] }
  | _ => none }
def tagRisesRow : OpenClaim := { program := "ytkeinpifbiiodaa", sum := "54ff22bdd13c9c27750e3dc378a60cfdddc566dee8cf3694b9a8698ef14f56a3", func := "seabag/seabaglaw13.TagRises", spec := "tagRises", inPlace := ["internal/bytealg.IndexByteString", "internal/bytealg.IndexString"], named := ["internal/bytealg.MaxLen"], apart := false }
def TagRisesSaid : Prop := tagRisesRow.holds Try.pinned (OpenSpec.ofChange tagRisesSpec)

/-- ITS FALSE NEIGHBOUR: 'it returns false'. Refute it at one input. -/
def tagRisesWrong : ChangeSpec := { name := "tagRises", fn := fun _ => fun
  | [d] => { results := [.lit (.bool false)], args := [d] }
  | _ => none }
def TagRisesWrongFalsely : Prop := tagRisesRow.holds Try.pinned (OpenSpec.ofChange tagRisesWrong)

/- THE SECOND FORM. 'bulk': how many values and letters a reading holds, each counted each time it is reached (what is shared counts as often as it is met; a slice's spare places count too). A statement '..UptoSaid' is the law's where the arguments, and the package variables that the reading takes, are together of bulk at most 1048576: NARROWER than '..Said'. Prove '..Said' where nothing that the law and all that it calls make is longer than what came in: it says more and counts as full. Else prove '..UptoSaid'. A law counts once. -/
mutual
def uptoBulk {H : Type} : DataW H → Nat
  | .lit (.string bytes) => bytes.length + 1
  | .lit _ => 1
  | .nil => 1
  | .ptr d => uptoBulk d + 1
  | .slice elems spare => uptoBulkAll elems + uptoBulkAll spare + 1
  | .agg parts => uptoBulkAll parts + 1
  | .iface _ d => uptoBulk d + 1
  | .map entries => uptoBulkEntries entries + 1
  | .held _ => 1
def uptoBulkAll {H : Type} : List (DataW H) → Nat
  | [] => 0
  | d :: r => uptoBulk d + uptoBulkAll r
def uptoBulkEntries {H : Type} : List (Lit × DataW H) → Nat
  | [] => 0
  | x :: r => uptoBulkEntry x + uptoBulkEntries r
def uptoBulkEntry {H : Type} : Lit × DataW H → Nat
  | (.string bytes, d) => bytes.length + uptoBulk d + 1
  | (_, d) => uptoBulk d + 1
 end
def uptoSmall : (H : Type) → List (DataW H) → Bool := fun _ ds => decide (uptoBulkAll ds ≤ 1048576)
def OpenSpec.upto (s : _root_.Go.ChangeSpec) : _root_.Go.OpenSpec := { _root_.Go.OpenSpec.ofChange s with cond := some uptoSmall }

/-- 'seabaglaw13.TagStages', WHERE WHAT IT READS IS OF BULK AT MOST 1048576: true; the input reads as it did. -/
def tagStagesUptoRow : OpenClaim := { program := "ytkeinpifbiiodaa", sum := "54ff22bdd13c9c27750e3dc378a60cfdddc566dee8cf3694b9a8698ef14f56a3", func := "seabag/seabaglaw13.TagStages", spec := "tagStages", recurses := true, apart := false, narrowed := true }
def TagStagesUptoSaid : Prop := tagStagesUptoRow.holds Try.pinned (OpenSpec.upto tagStagesSpec)

/-- 'seabaglaw13.TagFinds', WHERE WHAT IT READS IS OF BULK AT MOST 1048576: true; the input reads as it did. -/
def tagFindsUptoRow : OpenClaim := { program := "ytkeinpifbiiodaa", sum := "54ff22bdd13c9c27750e3dc378a60cfdddc566dee8cf3694b9a8698ef14f56a3", func := "seabag/seabaglaw13.TagFinds", spec := "tagFinds", inPlace := ["internal/bytealg.IndexByteString", "internal/bytealg.IndexString"], named := ["internal/bytealg.MaxLen"], apart := false, narrowed := true }
def TagFindsUptoSaid : Prop := tagFindsUptoRow.holds Try.pinned (OpenSpec.upto tagFindsSpec)

/-- 'seabaglaw13.TagBursts', WHERE WHAT IT READS IS OF BULK AT MOST 1048576: true; the input reads as it did. -/
def tagBurstsUptoRow : OpenClaim := { program := "ytkeinpifbiiodaa", sum := "54ff22bdd13c9c27750e3dc378a60cfdddc566dee8cf3694b9a8698ef14f56a3", func := "seabag/seabaglaw13.TagBursts", spec := "tagBursts", inPlace := ["internal/bytealg.IndexByteString", "internal/bytealg.IndexString"], named := ["internal/bytealg.MaxLen"], apart := false, narrowed := true }
def TagBurstsUptoSaid : Prop := tagBurstsUptoRow.holds Try.pinned (OpenSpec.upto tagBurstsSpec)

/-- 'seabaglaw13.TagRises', WHERE WHAT IT READS IS OF BULK AT MOST 1048576: true; the input reads as it did. -/
def tagRisesUptoRow : OpenClaim := { program := "ytkeinpifbiiodaa", sum := "54ff22bdd13c9c27750e3dc378a60cfdddc566dee8cf3694b9a8698ef14f56a3", func := "seabag/seabaglaw13.TagRises", spec := "tagRises", inPlace := ["internal/bytealg.IndexByteString", "internal/bytealg.IndexString"], named := ["internal/bytealg.MaxLen"], apart := false, narrowed := true }
def TagRisesUptoSaid : Prop := tagRisesUptoRow.holds Try.pinned (OpenSpec.upto tagRisesSpec)

end Rows
end Go.Proofs.Ytkeinpifbiiodaa
