/-
  DERIVED. GIVEN WITH THE SEED: THE CARDS: each row of YthfnkgofkdahfaaGreatDoorRows.lean that lists a variable, with what it lists TIED to the program's text (the seventh form; the later family's looks); each row that meets fmt, with fmt's text TOLD by the authors' own Lean function (tested against real Go, not proved from fmt's source: count such statements apart). THE CARD IS WHAT COUNTS. Prove the row's statement (the work); the ties are given (YthfnkgofkdahfaaGreatDoorTie.lean); close each card by the builder's one call (the guide's Derived/Test/ToyasCard.lean, 'card_holds'). Laid BY PROGRAM, IN A SANDBOX (cutbox-door.mjs). By AI agents, Wed Nov 11 2026. No macro, syntax, notation, axiom, sorry.
-/
import Derived.Test.YthfnkgofkdahfaaGreatDoorRows
import GoSem.ClaimSeven
namespace Go.Proofs.YthfnkgofkdahfaaGreatDoor
namespace Rows

/-- THE TIED CARD OF 'seabaglaw18.VarsPlay'. -/
def varsPlayCard : Claim7 := { stood := { row := varsPlayRow, standIns := [], harness := (true, "3f1495ff834eb4be8bc22c1f9fc6b23a010ee94dd82eeb8854519d539f76f4e6"), looks := true }, kinds := [], alts := [], laidByText := true, laidKinds := [.data, .data, .data, .sentinel, .sentinel], laidTests := true, laidLooks := .later }
def VarsPlayCardSaid : Prop := Claim7.holds Tryz.pinned (.plain (OpenSpec.ofChange varsPlaySpec)) varsPlayCard

/-- THE SECOND FORM's CARD OF 'seabaglaw18.VarsPlay'. -/
def varsPlayUptoCard : Claim7 := { stood := { row := varsPlayUptoRow, standIns := [], harness := (true, "3f1495ff834eb4be8bc22c1f9fc6b23a010ee94dd82eeb8854519d539f76f4e6"), looks := true }, kinds := [], alts := [], laidByText := true, laidKinds := [.data, .data, .data, .sentinel, .sentinel], laidTests := true, laidLooks := .later }
def VarsPlayUptoCardSaid : Prop := Claim7.holds Tryz.pinned (.plain (OpenSpec.upto varsPlaySpec)) varsPlayUptoCard
end Rows
end Go.Proofs.YthfnkgofkdahfaaGreatDoor
