/-
  DERIVED. GIVEN WITH THE SEED: THE CARDS: each row of YtnofoenkeoabpaaDoorRows.lean that lists a variable, with what it lists TIED to the program's text (the seventh form; the later family's looks); each row that meets fmt, with fmt's text TOLD by the authors' own Lean function (tested against real Go, not proved from fmt's source: count such statements apart). THE CARD IS WHAT COUNTS. Prove the row's statement (the work); the ties are given (YtnofoenkeoabpaaDoorTie.lean); close each card by the builder's one call (the guide's Derived/Test/ToyasCard.lean, 'card_holds'). Laid BY PROGRAM, IN A SANDBOX (cutbox-door.mjs). By AI agents, Wed Nov 11 2026. No macro, syntax, notation, axiom, sorry.
-/
import Derived.Test.YtnofoenkeoabpaaDoorRows
import GoSem.ClaimSeven
namespace Go.Proofs.YtnofoenkeoabpaaDoor
namespace Rows

/-- THE TIED CARD OF 'seabaglaw12.GainShows'. -/
def gainShowsCard : Claim7 := { stood := { row := gainShowsRow, standIns := [], harness := (true, "6304d2ba322381550a9ad18abfa1f2463b809d54e6a64b718118ffd7ffa7d51a"), looks := false }, kinds := [], alts := [], laidByText := true, laidKinds := [.data, .data, .data, .data, .pinned, .pinned], laidTests := true, laidLooks := .later }
def GainShowsCardSaid : Prop := Claim7.holds Tryd.pinned (.plain (OpenSpec.ofChange gainShowsSpec)) gainShowsCard

/-- THE SECOND FORM's CARD OF 'seabaglaw12.GainShows'. -/
def gainShowsUptoCard : Claim7 := { stood := { row := gainShowsUptoRow, standIns := [], harness := (true, "6304d2ba322381550a9ad18abfa1f2463b809d54e6a64b718118ffd7ffa7d51a"), looks := false }, kinds := [], alts := [], laidByText := true, laidKinds := [.data, .data, .data, .data, .pinned, .pinned], laidTests := true, laidLooks := .later }
def GainShowsUptoCardSaid : Prop := Claim7.holds Tryd.pinned (.plain (OpenSpec.upto gainShowsSpec)) gainShowsUptoCard
end Rows
end Go.Proofs.YtnofoenkeoabpaaDoor
