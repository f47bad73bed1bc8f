/-
  DERIVED. GIVEN WITH THE SEED: THE CARDS: each row of YtaanmmfhkhbchaaDoorRows.lean that lists a variable, with what it lists TIED to the program's text (the seventh form; the later family's looks); each row that meets fmt, with fmt's text TOLD by the authors' own Lean function (tested against real Go, not proved from fmt's source: count such statements apart). THE CARD IS WHAT COUNTS. Prove the row's statement (the work); the ties are given (YtaanmmfhkhbchaaDoorTie.lean); close each card by the builder's one call (the guide's Derived/Test/ToyasCard.lean, 'card_holds'). Laid BY PROGRAM, IN A SANDBOX (cutbox-door.mjs). By AI agents, Wed Nov 11 2026. No macro, syntax, notation, axiom, sorry.
-/
import Derived.Test.YtaanmmfhkhbchaaDoorRows
import GoSem.ClaimSeven
namespace Go.Proofs.YtaanmmfhkhbchaaDoor
namespace Rows

/-- THE TIED CARD OF 'seabaglaw08.CrcBursts'. -/
def crcBurstsCard : Claim7 := { stood := { row := crcBurstsRow, standIns := [], harness := (true, "5ff5db623dffb4c4c3188f68cd8f75aaed165a23405f55d6b75814264baf3086"), looks := false }, kinds := [], alts := [], laidByText := true, laidKinds := [.data, .data, .data], laidTests := true, laidLooks := .later }
def CrcBurstsCardSaid : Prop := Claim7.holds Tryd.pinned (.plain (OpenSpec.ofChange crcBurstsSpec)) crcBurstsCard

/-- THE TIED CARD OF 'seabaglaw08.CrcChecks'. -/
def crcChecksCard : Claim7 := { stood := { row := crcChecksRow, standIns := [], harness := (true, "5ff5db623dffb4c4c3188f68cd8f75aaed165a23405f55d6b75814264baf3086"), looks := false }, kinds := [], alts := [], laidByText := true, laidKinds := [.data, .data, .data], laidTests := true, laidLooks := .later }
def CrcChecksCardSaid : Prop := Claim7.holds Tryd.pinned (.plain (OpenSpec.ofChange crcChecksSpec)) crcChecksCard

/-- THE SECOND FORM's CARD OF 'seabaglaw08.CrcBursts'. -/
def crcBurstsUptoCard : Claim7 := { stood := { row := crcBurstsUptoRow, standIns := [], harness := (true, "5ff5db623dffb4c4c3188f68cd8f75aaed165a23405f55d6b75814264baf3086"), looks := false }, kinds := [], alts := [], laidByText := true, laidKinds := [.data, .data, .data], laidTests := true, laidLooks := .later }
def CrcBurstsUptoCardSaid : Prop := Claim7.holds Tryd.pinned (.plain (OpenSpec.upto crcBurstsSpec)) crcBurstsUptoCard

/-- THE SECOND FORM's CARD OF 'seabaglaw08.CrcChecks'. -/
def crcChecksUptoCard : Claim7 := { stood := { row := crcChecksUptoRow, standIns := [], harness := (true, "5ff5db623dffb4c4c3188f68cd8f75aaed165a23405f55d6b75814264baf3086"), looks := false }, kinds := [], alts := [], laidByText := true, laidKinds := [.data, .data, .data], laidTests := true, laidLooks := .later }
def CrcChecksUptoCardSaid : Prop := Claim7.holds Tryd.pinned (.plain (OpenSpec.upto crcChecksSpec)) crcChecksUptoCard
end Rows
end Go.Proofs.YtaanmmfhkhbchaaDoor
