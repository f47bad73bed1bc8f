/-
  DERIVED. GIVEN WITH THE SEED: THE CARDS: each row of YtmlgmedapbeleaaGreatDoorRows.lean that lists a variable, with what it lists TIED to the program's text (the seventh form; the later family's looks); each row that meets fmt, with fmt's text TOLD by the authors' own Lean function (tested against real Go, not proved from fmt's source: count such statements apart). THE CARD IS WHAT COUNTS. Prove the row's statement (the work); the ties are given (YtmlgmedapbeleaaGreatDoorTie.lean); close each card by the builder's one call (the guide's Derived/Test/ToyasCard.lean, 'card_holds'). Laid BY PROGRAM, IN A SANDBOX (cutbox-door.mjs). By AI agents, Wed Nov 11 2026. No macro, syntax, notation, axiom, sorry.
-/
import Derived.Test.YtmlgmedapbeleaaGreatDoorRows
import GoSem.ClaimSeven
namespace Go.Proofs.YtmlgmedapbeleaaGreatDoor
namespace Rows

/-- THE TIED CARD OF 'seabaglaw25.TreeScans'. -/
def treeScansCard : Claim7 := { stood := { row := treeScansRow, standIns := [], harness := (true, "c04a4edd45b8c0b5f6bac64c6c53d3594a06e7368df57f380f536eac7325d907"), looks := false }, kinds := [], alts := [], laidByText := true, laidKinds := [.data, .data, .data, .data, .pinned], laidTests := true, laidLooks := .later }
def TreeScansCardSaid : Prop := Claim7.holds Tryz.pinned (.plain (OpenSpec.ofChange treeScansSpec)) treeScansCard

/-- THE SECOND FORM's CARD OF 'seabaglaw25.TreeScans'. -/
def treeScansUptoCard : Claim7 := { stood := { row := treeScansUptoRow, standIns := [], harness := (true, "c04a4edd45b8c0b5f6bac64c6c53d3594a06e7368df57f380f536eac7325d907"), looks := false }, kinds := [], alts := [], laidByText := true, laidKinds := [.data, .data, .data, .data, .pinned], laidTests := true, laidLooks := .later }
def TreeScansUptoCardSaid : Prop := Claim7.holds Tryz.pinned (.plain (OpenSpec.upto treeScansSpec)) treeScansUptoCard
end Rows
end Go.Proofs.YtmlgmedapbeleaaGreatDoor
