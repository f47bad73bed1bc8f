/-
  DERIVED. GIVEN WITH THE SEED: THE CARDS: each row of YtnackmnoldkihaaDoorRows.lean that lists a variable, with what it lists TIED to the program's text (the seventh form; the later family's looks); each row that meets fmt, with fmt's text TOLD by the authors' own Lean function (tested against real Go, not proved from fmt's source: count such statements apart). THE CARD IS WHAT COUNTS. Prove the row's statement (the work); the ties are given (YtnackmnoldkihaaDoorTie.lean); close each card by the builder's one call (the guide's Derived/Test/ToyasCard.lean, 'card_holds'). Laid BY PROGRAM, IN A SANDBOX (cutbox-door.mjs). By AI agents, Wed Nov 11 2026. No macro, syntax, notation, axiom, sorry.
-/
import Derived.Test.YtnackmnoldkihaaDoorRows
import GoSem.ClaimSeven
namespace Go.Proofs.YtnackmnoldkihaaDoor
namespace Rows

/-- THE TIED CARD OF 'seabaglaw14.AstDeeper'. -/
def astDeeperCard : Claim7 := { stood := { row := astDeeperRow, standIns := [], harness := (true, "def1b6feb522cb3aed84c484cd2d2a0126cfc91dd8aae43e7c6afa73da7564bf"), looks := false }, kinds := [], alts := [], laidByText := true, laidKinds := [.data, .data, .data, .data, .pinned], laidTests := true, laidLooks := .later }
def AstDeeperCardSaid : Prop := Claim7.holds Tryd.pinned (.plain (OpenSpec.ofChange astDeeperSpec)) astDeeperCard

/-- THE SECOND FORM's CARD OF 'seabaglaw14.AstDeeper'. -/
def astDeeperUptoCard : Claim7 := { stood := { row := astDeeperUptoRow, standIns := [], harness := (true, "def1b6feb522cb3aed84c484cd2d2a0126cfc91dd8aae43e7c6afa73da7564bf"), looks := false }, kinds := [], alts := [], laidByText := true, laidKinds := [.data, .data, .data, .data, .pinned], laidTests := true, laidLooks := .later }
def AstDeeperUptoCardSaid : Prop := Claim7.holds Tryd.pinned (.plain (OpenSpec.upto astDeeperSpec)) astDeeperUptoCard
end Rows
end Go.Proofs.YtnackmnoldkihaaDoor
