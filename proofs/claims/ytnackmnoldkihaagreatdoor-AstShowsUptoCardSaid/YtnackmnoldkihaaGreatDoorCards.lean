/-
  DERIVED. GIVEN WITH THE SEED: THE CARDS: each row of YtnackmnoldkihaaGreatDoorRows.lean that lists a variable, with what it lists TIED to the program's text (the seventh form; the later family's looks); each row that meets fmt, with fmt's text TOLD by the authors' own Lean function (tested against real Go, not proved from fmt's source: count such statements apart). THE CARD IS WHAT COUNTS. Prove the row's statement (the work); the ties are given (YtnackmnoldkihaaGreatDoorTie.lean); close each card by the builder's one call (the guide's Derived/Test/ToyasCard.lean, 'card_holds'). Laid BY PROGRAM, IN A SANDBOX (cutbox-door.mjs). By AI agents, Wed Nov 11 2026. No macro, syntax, notation, axiom, sorry.
-/
import Derived.Test.YtnackmnoldkihaaGreatDoorRows
import GoSem.ClaimSeven
namespace Go.Proofs.YtnackmnoldkihaaGreatDoor
namespace Rows

/-- THE TIED CARD OF 'seabaglaw14.AstRights'. -/
def astRightsCard : Claim7 := { stood := { row := astRightsRow, standIns := [], harness := (true, "747a3f7d828dabc60d424ff48e27aa34d09da8f20cea3d59224a4000cefc0510"), looks := false }, kinds := [], alts := [], laidByText := true, laidKinds := [.data, .data, .data, .data, .pinned], laidTests := true, laidLooks := .later }
def AstRightsCardSaid : Prop := Claim7.holds Tryz.pinned (.plain (OpenSpec.ofChange astRightsSpec)) astRightsCard

/-- THE TIED CARD OF 'seabaglaw14.AstDocs'. -/
def astDocsCard : Claim7 := { stood := { row := astDocsRow, standIns := [], harness := (true, "747a3f7d828dabc60d424ff48e27aa34d09da8f20cea3d59224a4000cefc0510"), looks := false }, kinds := [], alts := [], laidByText := true, laidKinds := [.data, .data, .data, .data, .pinned], laidTests := true, laidLooks := .later }
def AstDocsCardSaid : Prop := Claim7.holds Tryz.pinned (.plain (OpenSpec.ofChange astDocsSpec)) astDocsCard

/-- THE TIED CARD OF 'seabaglaw14.AstTexts'. -/
def astTextsCard : Claim7 := { stood := { row := astTextsRow, standIns := [], harness := (true, "747a3f7d828dabc60d424ff48e27aa34d09da8f20cea3d59224a4000cefc0510"), looks := false }, kinds := [], alts := [], laidByText := true, laidKinds := [.data, .data, .data, .data, .pinned], laidTests := true, laidLooks := .later }
def AstTextsCardSaid : Prop := Claim7.holds Tryz.pinned (.plain (OpenSpec.ofChange astTextsSpec)) astTextsCard

/-- THE TIED CARD OF 'seabaglaw14.AstShows'. -/
def astShowsCard : Claim7 := { stood := { row := astShowsRow, standIns := [], harness := (true, "747a3f7d828dabc60d424ff48e27aa34d09da8f20cea3d59224a4000cefc0510"), looks := false }, kinds := [], alts := [], laidByText := true, laidKinds := [.data, .data, .data, .data, .pinned], laidTests := true, laidLooks := .later }
def AstShowsCardSaid : Prop := Claim7.holds Tryz.pinned (.plain (OpenSpec.ofChange astShowsSpec)) astShowsCard

/-- THE SECOND FORM's CARD OF 'seabaglaw14.AstRights'. -/
def astRightsUptoCard : Claim7 := { stood := { row := astRightsUptoRow, standIns := [], harness := (true, "747a3f7d828dabc60d424ff48e27aa34d09da8f20cea3d59224a4000cefc0510"), looks := false }, kinds := [], alts := [], laidByText := true, laidKinds := [.data, .data, .data, .data, .pinned], laidTests := true, laidLooks := .later }
def AstRightsUptoCardSaid : Prop := Claim7.holds Tryz.pinned (.plain (OpenSpec.upto astRightsSpec)) astRightsUptoCard

/-- THE SECOND FORM's CARD OF 'seabaglaw14.AstDocs'. -/
def astDocsUptoCard : Claim7 := { stood := { row := astDocsUptoRow, standIns := [], harness := (true, "747a3f7d828dabc60d424ff48e27aa34d09da8f20cea3d59224a4000cefc0510"), looks := false }, kinds := [], alts := [], laidByText := true, laidKinds := [.data, .data, .data, .data, .pinned], laidTests := true, laidLooks := .later }
def AstDocsUptoCardSaid : Prop := Claim7.holds Tryz.pinned (.plain (OpenSpec.upto astDocsSpec)) astDocsUptoCard

/-- THE SECOND FORM's CARD OF 'seabaglaw14.AstTexts'. -/
def astTextsUptoCard : Claim7 := { stood := { row := astTextsUptoRow, standIns := [], harness := (true, "747a3f7d828dabc60d424ff48e27aa34d09da8f20cea3d59224a4000cefc0510"), looks := false }, kinds := [], alts := [], laidByText := true, laidKinds := [.data, .data, .data, .data, .pinned], laidTests := true, laidLooks := .later }
def AstTextsUptoCardSaid : Prop := Claim7.holds Tryz.pinned (.plain (OpenSpec.upto astTextsSpec)) astTextsUptoCard

/-- THE SECOND FORM's CARD OF 'seabaglaw14.AstShows'. -/
def astShowsUptoCard : Claim7 := { stood := { row := astShowsUptoRow, standIns := [], harness := (true, "747a3f7d828dabc60d424ff48e27aa34d09da8f20cea3d59224a4000cefc0510"), looks := false }, kinds := [], alts := [], laidByText := true, laidKinds := [.data, .data, .data, .data, .pinned], laidTests := true, laidLooks := .later }
def AstShowsUptoCardSaid : Prop := Claim7.holds Tryz.pinned (.plain (OpenSpec.upto astShowsSpec)) astShowsUptoCard
end Rows
end Go.Proofs.YtnackmnoldkihaaGreatDoor
