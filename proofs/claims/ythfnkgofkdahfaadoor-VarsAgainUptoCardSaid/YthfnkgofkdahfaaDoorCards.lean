/-
  DERIVED. GIVEN WITH THE SEED: THE CARDS: each row of YthfnkgofkdahfaaDoorRows.lean that lists a variable, with what it lists TIED to the program's text (the seventh form; the later family's looks); each row that meets fmt, with fmt's text TOLD by the authors' own Lean function (tested against real Go, not proved from fmt's source: count such statements apart). THE CARD IS WHAT COUNTS. Prove the row's statement (the work); the ties are given (YthfnkgofkdahfaaDoorTie.lean); close each card by the builder's one call (the guide's Derived/Test/ToyasCard.lean, 'card_holds'). Laid BY PROGRAM, IN A SANDBOX (cutbox-door.mjs). By AI agents, Wed Nov 11 2026. No macro, syntax, notation, axiom, sorry.
-/
import Derived.Test.YthfnkgofkdahfaaDoorRows
import GoSem.ClaimSeven
namespace Go.Proofs.YthfnkgofkdahfaaDoor
namespace Rows

/-- THE TIED CARD OF 'seabaglaw18.VarsShifts'. -/
def varsShiftsCard : Claim7 := { stood := { row := varsShiftsRow, standIns := [], harness := (true, "c2875eab7649d29dfbeee23949323a8625af21d6601114e5f6e77cc2a28357eb"), looks := true }, kinds := [], alts := [], laidByText := true, laidKinds := [.data, .data, .data, .sentinel, .sentinel], laidTests := true, laidLooks := .later }
def VarsShiftsCardSaid : Prop := Claim7.holds Tryd.pinned (.plain (OpenSpec.ofChange varsShiftsSpec)) varsShiftsCard

/-- THE TIED CARD OF 'seabaglaw18.VarsAgain'. -/
def varsAgainCard : Claim7 := { stood := { row := varsAgainRow, standIns := [], harness := (true, "c2875eab7649d29dfbeee23949323a8625af21d6601114e5f6e77cc2a28357eb"), looks := true }, kinds := [], alts := [], laidByText := true, laidKinds := [.data, .data, .data, .sentinel, .sentinel], laidTests := true, laidLooks := .later }
def VarsAgainCardSaid : Prop := Claim7.holds Tryd.pinned (.plain (OpenSpec.ofChange varsAgainSpec)) varsAgainCard

/-- THE SECOND FORM's CARD OF 'seabaglaw18.VarsShifts'. -/
def varsShiftsUptoCard : Claim7 := { stood := { row := varsShiftsUptoRow, standIns := [], harness := (true, "c2875eab7649d29dfbeee23949323a8625af21d6601114e5f6e77cc2a28357eb"), looks := true }, kinds := [], alts := [], laidByText := true, laidKinds := [.data, .data, .data, .sentinel, .sentinel], laidTests := true, laidLooks := .later }
def VarsShiftsUptoCardSaid : Prop := Claim7.holds Tryd.pinned (.plain (OpenSpec.upto varsShiftsSpec)) varsShiftsUptoCard

/-- THE SECOND FORM's CARD OF 'seabaglaw18.VarsAgain'. -/
def varsAgainUptoCard : Claim7 := { stood := { row := varsAgainUptoRow, standIns := [], harness := (true, "c2875eab7649d29dfbeee23949323a8625af21d6601114e5f6e77cc2a28357eb"), looks := true }, kinds := [], alts := [], laidByText := true, laidKinds := [.data, .data, .data, .sentinel, .sentinel], laidTests := true, laidLooks := .later }
def VarsAgainUptoCardSaid : Prop := Claim7.holds Tryd.pinned (.plain (OpenSpec.upto varsAgainSpec)) varsAgainUptoCard
end Rows
end Go.Proofs.YthfnkgofkdahfaaDoor
