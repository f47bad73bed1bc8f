/-
  DERIVED. GIVEN WITH THE SEED: THE CARDS: each row of YtjeinpadcknfbaaGreatDoorRows.lean that lists a variable, with what it lists TIED to the program's text (the seventh form; the later family's looks); each row that meets fmt, with fmt's text TOLD by the authors' own Lean function (tested against real Go, not proved from fmt's source: count such statements apart). THE CARD IS WHAT COUNTS. Prove the row's statement (the work); the ties are given (YtjeinpadcknfbaaGreatDoorTie.lean); close each card by the builder's one call (the guide's Derived/Test/ToyasCard.lean, 'card_holds'). Laid BY PROGRAM, IN A SANDBOX (cutbox-door.mjs). By AI agents, Wed Nov 11 2026. No macro, syntax, notation, axiom, sorry.
-/
import Derived.Test.YtjeinpadcknfbaaGreatDoorRows
import GoSem.ClaimSeven
namespace Go.Proofs.YtjeinpadcknfbaaGreatDoor
namespace Rows

/-- THE TIED CARD OF 'seabaglaw20.ExpandCuts'. -/
def expandCutsCard : Claim7 := { stood := { row := expandCutsRow, standIns := [], harness := (true, "26953628d177bbafa42e1257007d20e76d6f49a19e4b77472a007fea72157505"), looks := true }, kinds := [], alts := [], laidByText := true, laidKinds := [.data, .data, .data, .data, .sentinel, .sentinel, .pinned], laidTests := true, laidLooks := .later }
def ExpandCutsCardSaid : Prop := Claim7.holds Tryz.pinned (.plain (OpenSpec.ofChange expandCutsSpec)) expandCutsCard

/-- THE TIED CARD OF 'seabaglaw20.ExpandSets'. -/
def expandSetsCard : Claim7 := { stood := { row := expandSetsRow, standIns := [], harness := (true, "26953628d177bbafa42e1257007d20e76d6f49a19e4b77472a007fea72157505"), looks := true }, kinds := [], alts := [], laidByText := true, laidKinds := [.data, .data, .data, .data, .sentinel, .sentinel, .pinned], laidTests := true, laidLooks := .later }
def ExpandSetsCardSaid : Prop := Claim7.holds Tryz.pinned (.plain (OpenSpec.ofChange expandSetsSpec)) expandSetsCard

/-- THE SECOND FORM's CARD OF 'seabaglaw20.ExpandCuts'. -/
def expandCutsUptoCard : Claim7 := { stood := { row := expandCutsUptoRow, standIns := [], harness := (true, "26953628d177bbafa42e1257007d20e76d6f49a19e4b77472a007fea72157505"), looks := true }, kinds := [], alts := [], laidByText := true, laidKinds := [.data, .data, .data, .data, .sentinel, .sentinel, .pinned], laidTests := true, laidLooks := .later }
def ExpandCutsUptoCardSaid : Prop := Claim7.holds Tryz.pinned (.plain (OpenSpec.upto expandCutsSpec)) expandCutsUptoCard

/-- THE SECOND FORM's CARD OF 'seabaglaw20.ExpandSets'. -/
def expandSetsUptoCard : Claim7 := { stood := { row := expandSetsUptoRow, standIns := [], harness := (true, "26953628d177bbafa42e1257007d20e76d6f49a19e4b77472a007fea72157505"), looks := true }, kinds := [], alts := [], laidByText := true, laidKinds := [.data, .data, .data, .data, .sentinel, .sentinel, .pinned], laidTests := true, laidLooks := .later }
def ExpandSetsUptoCardSaid : Prop := Claim7.holds Tryz.pinned (.plain (OpenSpec.upto expandSetsSpec)) expandSetsUptoCard
end Rows
end Go.Proofs.YtjeinpadcknfbaaGreatDoor
