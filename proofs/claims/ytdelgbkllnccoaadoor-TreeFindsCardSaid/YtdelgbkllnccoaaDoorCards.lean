/-
  DERIVED. GIVEN WITH THE SEED: THE CARDS: each row of YtdelgbkllnccoaaDoorRows.lean that lists a variable, with what it lists TIED to the program's text (the seventh form; the later family's looks); each row that meets fmt, with fmt's text TOLD by the authors' own Lean function (tested against real Go, not proved from fmt's source: count such statements apart). THE CARD IS WHAT COUNTS. Prove the row's statement (the work); the ties are given (YtdelgbkllnccoaaDoorTie.lean); close each card by the builder's one call (the guide's Derived/Test/ToyasCard.lean, 'card_holds'). Laid BY PROGRAM, IN A SANDBOX (cutbox-door.mjs). By AI agents, Wed Nov 11 2026. No macro, syntax, notation, axiom, sorry.
-/
import Derived.Test.YtdelgbkllnccoaaDoorRows
import GoSem.ClaimSeven
namespace Go.Proofs.YtdelgbkllnccoaaDoor
namespace Rows

/-- THE TIED CARD OF 'seabaglaw25.TreeChecks'. -/
def treeChecksCard : Claim7 := { stood := { row := treeChecksRow, standIns := [], harness := (true, "7a95660295ed43609a370058b1ece32cc96b959bbc49e25aec49db840dfbe943"), looks := false }, kinds := [], alts := [], laidByText := true, laidKinds := [.data, .pinned], laidTests := true, laidLooks := .later }
def TreeChecksCardSaid : Prop := Claim7.holds Tryd.pinned (.plain (OpenSpec.ofChange treeChecksSpec)) treeChecksCard

/-- THE TIED CARD OF 'seabaglaw25.TreeParts'. -/
def treePartsCard : Claim7 := { stood := { row := treePartsRow, standIns := [], harness := (true, "7a95660295ed43609a370058b1ece32cc96b959bbc49e25aec49db840dfbe943"), looks := false }, kinds := [], alts := [], laidByText := true, laidKinds := [.data, .pinned], laidTests := true, laidLooks := .later }
def TreePartsCardSaid : Prop := Claim7.holds Tryd.pinned (.plain (OpenSpec.ofChange treePartsSpec)) treePartsCard

/-- THE TIED CARD OF 'seabaglaw25.TreeFinds'. -/
def treeFindsCard : Claim7 := { stood := { row := treeFindsRow, standIns := [], harness := (true, "7a95660295ed43609a370058b1ece32cc96b959bbc49e25aec49db840dfbe943"), looks := false }, kinds := [], alts := [], laidByText := true, laidKinds := [.data, .pinned], laidTests := true, laidLooks := .later }
def TreeFindsCardSaid : Prop := Claim7.holds Tryd.pinned (.plain (OpenSpec.ofChange treeFindsSpec)) treeFindsCard

/-- THE SECOND FORM's CARD OF 'seabaglaw25.TreeChecks'. -/
def treeChecksUptoCard : Claim7 := { stood := { row := treeChecksUptoRow, standIns := [], harness := (true, "7a95660295ed43609a370058b1ece32cc96b959bbc49e25aec49db840dfbe943"), looks := false }, kinds := [], alts := [], laidByText := true, laidKinds := [.data, .pinned], laidTests := true, laidLooks := .later }
def TreeChecksUptoCardSaid : Prop := Claim7.holds Tryd.pinned (.plain (OpenSpec.upto treeChecksSpec)) treeChecksUptoCard

/-- THE SECOND FORM's CARD OF 'seabaglaw25.TreeParts'. -/
def treePartsUptoCard : Claim7 := { stood := { row := treePartsUptoRow, standIns := [], harness := (true, "7a95660295ed43609a370058b1ece32cc96b959bbc49e25aec49db840dfbe943"), looks := false }, kinds := [], alts := [], laidByText := true, laidKinds := [.data, .pinned], laidTests := true, laidLooks := .later }
def TreePartsUptoCardSaid : Prop := Claim7.holds Tryd.pinned (.plain (OpenSpec.upto treePartsSpec)) treePartsUptoCard

/-- THE SECOND FORM's CARD OF 'seabaglaw25.TreeFinds'. -/
def treeFindsUptoCard : Claim7 := { stood := { row := treeFindsUptoRow, standIns := [], harness := (true, "7a95660295ed43609a370058b1ece32cc96b959bbc49e25aec49db840dfbe943"), looks := false }, kinds := [], alts := [], laidByText := true, laidKinds := [.data, .pinned], laidTests := true, laidLooks := .later }
def TreeFindsUptoCardSaid : Prop := Claim7.holds Tryd.pinned (.plain (OpenSpec.upto treeFindsSpec)) treeFindsUptoCard
end Rows
end Go.Proofs.YtdelgbkllnccoaaDoor
