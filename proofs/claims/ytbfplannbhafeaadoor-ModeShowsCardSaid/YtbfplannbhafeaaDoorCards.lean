/-
  DERIVED. GIVEN WITH THE SEED: THE CARDS: each row of YtbfplannbhafeaaDoorRows.lean that lists a variable, with what it lists TIED to the program's text (the seventh form; the later family's looks); each row that meets fmt, with fmt's text TOLD by the authors' own Lean function (tested against real Go, not proved from fmt's source: count such statements apart). THE CARD IS WHAT COUNTS. Prove the row's statement (the work); the ties are given (YtbfplannbhafeaaDoorTie.lean); close each card by the builder's one call (the guide's Derived/Test/ToyasCard.lean, 'card_holds'). Laid BY PROGRAM, IN A SANDBOX (cutbox-door.mjs). By AI agents, Wed Nov 11 2026. No macro, syntax, notation, axiom, sorry.
-/
import Derived.Test.YtbfplannbhafeaaDoorRows
import GoSem.ClaimSeven
namespace Go.Proofs.YtbfplannbhafeaaDoor
namespace Rows

/-- THE TIED CARD OF 'seabaglaw01.ModeChanges'. -/
def modeChangesCard : Claim7 := { stood := { row := modeChangesRow, standIns := [], harness := (true, "de0169964cdf8d2f237dafba25c074318253bafa32321faef7d694127bff624b"), looks := false }, kinds := [], alts := [], laidByText := true, laidKinds := [.data, .pinned], laidTests := true, laidLooks := .later }
def ModeChangesCardSaid : Prop := Claim7.holds Tryd.pinned (.plain (OpenSpec.ofChange modeChangesSpec)) modeChangesCard

/-- THE TIED CARD OF 'seabaglaw01.ModeTwice'. -/
def modeTwiceCard : Claim7 := { stood := { row := modeTwiceRow, standIns := [], harness := (true, "de0169964cdf8d2f237dafba25c074318253bafa32321faef7d694127bff624b"), looks := false }, kinds := [], alts := [], laidByText := true, laidKinds := [.data, .pinned], laidTests := true, laidLooks := .later }
def ModeTwiceCardSaid : Prop := Claim7.holds Tryd.pinned (.plain (OpenSpec.ofChange modeTwiceSpec)) modeTwiceCard

/-- THE TIED CARD OF 'seabaglaw01.ModeTurns'. -/
def modeTurnsCard : Claim7 := { stood := { row := modeTurnsRow, standIns := [], harness := (true, "de0169964cdf8d2f237dafba25c074318253bafa32321faef7d694127bff624b"), looks := false }, kinds := [], alts := [], laidByText := true, laidKinds := [.data, .pinned], laidTests := true, laidLooks := .later }
def ModeTurnsCardSaid : Prop := Claim7.holds Tryd.pinned (.plain (OpenSpec.ofChange modeTurnsSpec)) modeTurnsCard

/-- THE TIED CARD OF 'seabaglaw01.ModeShows'. -/
def modeShowsCard : Claim7 := { stood := { row := modeShowsRow, standIns := [], harness := (true, "de0169964cdf8d2f237dafba25c074318253bafa32321faef7d694127bff624b"), looks := false }, kinds := [], alts := [], laidByText := true, laidKinds := [.data, .pinned], laidTests := true, laidLooks := .later }
def ModeShowsCardSaid : Prop := Claim7.holds Tryd.pinned (.plain (OpenSpec.ofChange modeShowsSpec)) modeShowsCard

/-- THE SECOND FORM's CARD OF 'seabaglaw01.ModeChanges'. -/
def modeChangesUptoCard : Claim7 := { stood := { row := modeChangesUptoRow, standIns := [], harness := (true, "de0169964cdf8d2f237dafba25c074318253bafa32321faef7d694127bff624b"), looks := false }, kinds := [], alts := [], laidByText := true, laidKinds := [.data, .pinned], laidTests := true, laidLooks := .later }
def ModeChangesUptoCardSaid : Prop := Claim7.holds Tryd.pinned (.plain (OpenSpec.upto modeChangesSpec)) modeChangesUptoCard

/-- THE SECOND FORM's CARD OF 'seabaglaw01.ModeTwice'. -/
def modeTwiceUptoCard : Claim7 := { stood := { row := modeTwiceUptoRow, standIns := [], harness := (true, "de0169964cdf8d2f237dafba25c074318253bafa32321faef7d694127bff624b"), looks := false }, kinds := [], alts := [], laidByText := true, laidKinds := [.data, .pinned], laidTests := true, laidLooks := .later }
def ModeTwiceUptoCardSaid : Prop := Claim7.holds Tryd.pinned (.plain (OpenSpec.upto modeTwiceSpec)) modeTwiceUptoCard

/-- THE SECOND FORM's CARD OF 'seabaglaw01.ModeTurns'. -/
def modeTurnsUptoCard : Claim7 := { stood := { row := modeTurnsUptoRow, standIns := [], harness := (true, "de0169964cdf8d2f237dafba25c074318253bafa32321faef7d694127bff624b"), looks := false }, kinds := [], alts := [], laidByText := true, laidKinds := [.data, .pinned], laidTests := true, laidLooks := .later }
def ModeTurnsUptoCardSaid : Prop := Claim7.holds Tryd.pinned (.plain (OpenSpec.upto modeTurnsSpec)) modeTurnsUptoCard

/-- THE SECOND FORM's CARD OF 'seabaglaw01.ModeShows'. -/
def modeShowsUptoCard : Claim7 := { stood := { row := modeShowsUptoRow, standIns := [], harness := (true, "de0169964cdf8d2f237dafba25c074318253bafa32321faef7d694127bff624b"), looks := false }, kinds := [], alts := [], laidByText := true, laidKinds := [.data, .pinned], laidTests := true, laidLooks := .later }
def ModeShowsUptoCardSaid : Prop := Claim7.holds Tryd.pinned (.plain (OpenSpec.upto modeShowsSpec)) modeShowsUptoCard
end Rows
end Go.Proofs.YtbfplannbhafeaaDoor
