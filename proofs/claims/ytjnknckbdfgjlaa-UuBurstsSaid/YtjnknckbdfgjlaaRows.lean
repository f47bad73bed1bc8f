/-
  No cell of these rows narrows 'for every input' (looked for: loops, veiled, ifaces, maps, wideKeys, modest, calm, conditions, laid).
  DERIVED. THE GIVEN ROWS OF THIS SEAT. 5 by the template 'for every input the law returns true; each argument reads behind the call as it read before'; 0 by the template 'total and deterministic' (their statements: YtjnknckbdfgjlaaTotals.lean).
  GIVEN WITH THE SEED: the statements are not yours to turn. If you find one false, say at which input.
  Laid BY PROGRAM, IN A SANDBOX (cutbox-rows.mjs): the forced cells as the released guide's own fill.sh prints them over the translation f9ebd93610e019c6… (all of the seat's roots in one cut). By AI agents, Wed Nov 11 2026. No macro, syntax, notation, axiom, sorry.
-/
import Derived.Test.YtjnknckbdfgjlaaChecked
import GoSem.Claim
import GoSem.ClaimJoined
import GoSem.ClaimMapViews
import Derived.JoinedTies
import Derived.KernelRfl
namespace Go.Proofs.Ytjnknckbdfgjlaa
/- THE CELL 'sum', in the pinned program and in every row, IS THE sha256 OF THE DUMP (.gsa) THAT YtjnknckbdfgjlaaProg.lean LOADS. Nothing in Lean hashes anything: it is a label: what it is worth is what the hold of that sum in a sandbox is worth. -/
noncomputable def Try.pinned : Pinned := { name := "ytjnknckbdfgjlaa", sum := "f9ebd93610e019c6e821a324bf7106fe09b96a45f1fa2ea402201019a1b0b933", checked := Try.checked }
namespace Rows
def none {H : Type} : Left H := { results := [], args := [] }

/-- 'seabaglaw09.UuPlain': WHATEVER THE INPUT: true; the input reads as it did. -/
def uuPlainSpec : ChangeSpec := { name := "uuPlain", fn := fun _ => fun
  | [d] => { results := [.lit (.bool true)], args := [d] }
  | _ => none }
def uuPlainRow : OpenClaim := { program := "ytjnknckbdfgjlaa", sum := "f9ebd93610e019c6e821a324bf7106fe09b96a45f1fa2ea402201019a1b0b933", func := "seabag/seabaglaw09.UuPlain", spec := "uuPlain", inPlace := ["internal/bytealg.IndexByteString", "internal/abi.NoEscape"], apart := false }
def UuPlainSaid : Prop := uuPlainRow.holds Try.pinned (OpenSpec.ofChange uuPlainSpec)

/-- ITS FALSE NEIGHBOUR: 'it returns false'. Refute it at one input. -/
def uuPlainWrong : ChangeSpec := { name := "uuPlain", fn := fun _ => fun
  | [d] => { results := [.lit (.bool false)], args := [d] }
  | _ => none }
def UuPlainWrongFalsely : Prop := uuPlainRow.holds Try.pinned (OpenSpec.ofChange uuPlainWrong)

/-- 'seabaglaw09.UuHeads': WHATEVER THE INPUT: true; the input reads as it did. -/
def uuHeadsSpec : ChangeSpec := { name := "uuHeads", fn := fun _ => fun
  | [d1, d2, d3] => { results := [.lit (.bool true)], args := [d1, d2, d3] }
  | _ => none }
def uuHeadsRow : OpenClaim := { program := "ytjnknckbdfgjlaa", sum := "f9ebd93610e019c6e821a324bf7106fe09b96a45f1fa2ea402201019a1b0b933", func := "seabag/seabaglaw09.UuHeads", spec := "uuHeads", inPlace := ["internal/bytealg.IndexByteString", "internal/abi.NoEscape", "internal/bytealg.IndexString"], named := ["internal/bytealg.MaxLen"], apart := false }
def UuHeadsSaid : Prop := uuHeadsRow.holds Try.pinned (OpenSpec.ofChange uuHeadsSpec)

/-- ITS FALSE NEIGHBOUR: 'it returns false'. Refute it at one input. -/
def uuHeadsWrong : ChangeSpec := { name := "uuHeads", fn := fun _ => fun
  | [d1, d2, d3] => { results := [.lit (.bool false)], args := [d1, d2, d3] }
  | _ => none }
def UuHeadsWrongFalsely : Prop := uuHeadsRow.holds Try.pinned (OpenSpec.ofChange uuHeadsWrong)

/-- 'seabaglaw09.UuDecodes': WHATEVER THE INPUT: true; the input reads as it did. -/
def uuDecodesSpec : ChangeSpec := { name := "uuDecodes", fn := fun _ => fun
  | [d1, d2] => { results := [.lit (.bool true)], args := [d1, d2] }
  | _ => none }
def uuDecodesRow : OpenClaim := { program := "ytjnknckbdfgjlaa", sum := "f9ebd93610e019c6e821a324bf7106fe09b96a45f1fa2ea402201019a1b0b933", func := "seabag/seabaglaw09.UuDecodes", spec := "uuDecodes", inPlace := ["internal/bytealg.IndexByteString", "internal/abi.NoEscape", "internal/bytealg.IndexString"], named := ["internal/bytealg.MaxLen"], apart := false }
def UuDecodesSaid : Prop := uuDecodesRow.holds Try.pinned (OpenSpec.ofChange uuDecodesSpec)

/-- ITS FALSE NEIGHBOUR: 'it returns false'. Refute it at one input. -/
def uuDecodesWrong : ChangeSpec := { name := "uuDecodes", fn := fun _ => fun
  | [d1, d2] => { results := [.lit (.bool false)], args := [d1, d2] }
  | _ => none }
def UuDecodesWrongFalsely : Prop := uuDecodesRow.holds Try.pinned (OpenSpec.ofChange uuDecodesWrong)

/-- 'seabaglaw09.UuBursts': WHATEVER THE INPUT: true; the input reads as it did. -/
def uuBurstsSpec : ChangeSpec := { name := "uuBursts", fn := fun _ => fun
  | [d1, d2, d3] => { results := [.lit (.bool true)], args := [d1, d2, d3] }
  | _ => none }
def uuBurstsRow : OpenClaim := { program := "ytjnknckbdfgjlaa", sum := "f9ebd93610e019c6e821a324bf7106fe09b96a45f1fa2ea402201019a1b0b933", func := "seabag/seabaglaw09.UuBursts", spec := "uuBursts", inPlace := ["internal/bytealg.IndexByteString", "internal/abi.NoEscape", "internal/bytealg.IndexString"], named := ["internal/bytealg.MaxLen"], apart := false }
def UuBurstsSaid : Prop := uuBurstsRow.holds Try.pinned (OpenSpec.ofChange uuBurstsSpec)

/-- ITS FALSE NEIGHBOUR: 'it returns false'. Refute it at one input. -/
def uuBurstsWrong : ChangeSpec := { name := "uuBursts", fn := fun _ => fun
  | [d1, d2, d3] => { results := [.lit (.bool false)], args := [d1, d2, d3] }
  | _ => none }
def UuBurstsWrongFalsely : Prop := uuBurstsRow.holds Try.pinned (OpenSpec.ofChange uuBurstsWrong)

/-- 'seabaglaw09.UuEncodes': WHATEVER THE INPUT: true; the input reads as it did. -/
def uuEncodesSpec : ChangeSpec := { name := "uuEncodes", fn := fun _ => fun
  | [d1, d2, d3] => { results := [.lit (.bool true)], args := [d1, d2, d3] }
  | _ => none }
def uuEncodesRow : OpenClaim := { program := "ytjnknckbdfgjlaa", sum := "f9ebd93610e019c6e821a324bf7106fe09b96a45f1fa2ea402201019a1b0b933", func := "seabag/seabaglaw09.UuEncodes", spec := "uuEncodes", inPlace := ["internal/bytealg.IndexByteString", "internal/abi.NoEscape", "internal/bytealg.IndexString"], named := ["internal/bytealg.MaxLen"], apart := false }
def UuEncodesSaid : Prop := uuEncodesRow.holds Try.pinned (OpenSpec.ofChange uuEncodesSpec)

/-- ITS FALSE NEIGHBOUR: 'it returns false'. Refute it at one input. -/
def uuEncodesWrong : ChangeSpec := { name := "uuEncodes", fn := fun _ => fun
  | [d1, d2, d3] => { results := [.lit (.bool false)], args := [d1, d2, d3] }
  | _ => none }
def UuEncodesWrongFalsely : Prop := uuEncodesRow.holds Try.pinned (OpenSpec.ofChange uuEncodesWrong)

/- THE SECOND FORM. 'bulk': how many values and letters a reading holds, each counted each time it is reached (what is shared counts as often as it is met; a slice's spare places count too). A statement '..UptoSaid' is the law's where the arguments, and the package variables that the reading takes, are together of bulk at most 1048576: NARROWER than '..Said'. Prove '..Said' where nothing that the law and all that it calls make is longer than what came in: it says more and counts as full. Else prove '..UptoSaid'. A law counts once. -/
mutual
def uptoBulk {H : Type} : DataW H → Nat
  | .lit (.string bytes) => bytes.length + 1
  | .lit _ => 1
  | .nil => 1
  | .ptr d => uptoBulk d + 1
  | .slice elems spare => uptoBulkAll elems + uptoBulkAll spare + 1
  | .agg parts => uptoBulkAll parts + 1
  | .iface _ d => uptoBulk d + 1
  | .map entries => uptoBulkEntries entries + 1
  | .held _ => 1
def uptoBulkAll {H : Type} : List (DataW H) → Nat
  | [] => 0
  | d :: r => uptoBulk d + uptoBulkAll r
def uptoBulkEntries {H : Type} : List (Lit × DataW H) → Nat
  | [] => 0
  | x :: r => uptoBulkEntry x + uptoBulkEntries r
def uptoBulkEntry {H : Type} : Lit × DataW H → Nat
  | (.string bytes, d) => bytes.length + uptoBulk d + 1
  | (_, d) => uptoBulk d + 1
 end
def uptoSmall : (H : Type) → List (DataW H) → Bool := fun _ ds => decide (uptoBulkAll ds ≤ 1048576)
def OpenSpec.upto (s : _root_.Go.ChangeSpec) : _root_.Go.OpenSpec := { _root_.Go.OpenSpec.ofChange s with cond := some uptoSmall }

/-- 'seabaglaw09.UuPlain', WHERE WHAT IT READS IS OF BULK AT MOST 1048576: true; the input reads as it did. -/
def uuPlainUptoRow : OpenClaim := { program := "ytjnknckbdfgjlaa", sum := "f9ebd93610e019c6e821a324bf7106fe09b96a45f1fa2ea402201019a1b0b933", func := "seabag/seabaglaw09.UuPlain", spec := "uuPlain", inPlace := ["internal/bytealg.IndexByteString", "internal/abi.NoEscape"], apart := false, narrowed := true }
def UuPlainUptoSaid : Prop := uuPlainUptoRow.holds Try.pinned (OpenSpec.upto uuPlainSpec)

/-- 'seabaglaw09.UuHeads', WHERE WHAT IT READS IS OF BULK AT MOST 1048576: true; the input reads as it did. -/
def uuHeadsUptoRow : OpenClaim := { program := "ytjnknckbdfgjlaa", sum := "f9ebd93610e019c6e821a324bf7106fe09b96a45f1fa2ea402201019a1b0b933", func := "seabag/seabaglaw09.UuHeads", spec := "uuHeads", inPlace := ["internal/bytealg.IndexByteString", "internal/abi.NoEscape", "internal/bytealg.IndexString"], named := ["internal/bytealg.MaxLen"], apart := false, narrowed := true }
def UuHeadsUptoSaid : Prop := uuHeadsUptoRow.holds Try.pinned (OpenSpec.upto uuHeadsSpec)

/-- 'seabaglaw09.UuDecodes', WHERE WHAT IT READS IS OF BULK AT MOST 1048576: true; the input reads as it did. -/
def uuDecodesUptoRow : OpenClaim := { program := "ytjnknckbdfgjlaa", sum := "f9ebd93610e019c6e821a324bf7106fe09b96a45f1fa2ea402201019a1b0b933", func := "seabag/seabaglaw09.UuDecodes", spec := "uuDecodes", inPlace := ["internal/bytealg.IndexByteString", "internal/abi.NoEscape", "internal/bytealg.IndexString"], named := ["internal/bytealg.MaxLen"], apart := false, narrowed := true }
def UuDecodesUptoSaid : Prop := uuDecodesUptoRow.holds Try.pinned (OpenSpec.upto uuDecodesSpec)

/-- 'seabaglaw09.UuBursts', WHERE WHAT IT READS IS OF BULK AT MOST 1048576: true; the input reads as it did. -/
def uuBurstsUptoRow : OpenClaim := { program := "ytjnknckbdfgjlaa", sum := "f9ebd93610e019c6e821a324bf7106fe09b96a45f1fa2ea402201019a1b0b933", func := "seabag/seabaglaw09.UuBursts", spec := "uuBursts", inPlace := ["internal/bytealg.IndexByteString", "internal/abi.NoEscape", "internal/bytealg.IndexString"], named := ["internal/bytealg.MaxLen"], apart := false, narrowed := true }
def UuBurstsUptoSaid : Prop := uuBurstsUptoRow.holds Try.pinned (OpenSpec.upto uuBurstsSpec)

/-- 'seabaglaw09.UuEncodes', WHERE WHAT IT READS IS OF BULK AT MOST 1048576: true; the input reads as it did. -/
def uuEncodesUptoRow : OpenClaim := { program := "ytjnknckbdfgjlaa", sum := "f9ebd93610e019c6e821a324bf7106fe09b96a45f1fa2ea402201019a1b0b933", func := "seabag/seabaglaw09.UuEncodes", spec := "uuEncodes", inPlace := ["internal/bytealg.IndexByteString", "internal/abi.NoEscape", "internal/bytealg.IndexString"], named := ["internal/bytealg.MaxLen"], apart := false, narrowed := true }
def UuEncodesUptoSaid : Prop := uuEncodesUptoRow.holds Try.pinned (OpenSpec.upto uuEncodesSpec)

end Rows
end Go.Proofs.Ytjnknckbdfgjlaa
