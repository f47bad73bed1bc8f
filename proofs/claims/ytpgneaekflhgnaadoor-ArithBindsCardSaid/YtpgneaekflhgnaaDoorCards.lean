/-
  DERIVED. GIVEN WITH THE SEED: THE CARDS: each row of YtpgneaekflhgnaaDoorRows.lean that lists a variable, with what it lists TIED to the program's text (the seventh form; the later family's looks); each row that meets fmt, with fmt's text TOLD by the authors' own Lean function (tested against real Go, not proved from fmt's source: count such statements apart). THE CARD IS WHAT COUNTS. Prove the row's statement (the work); the ties are given (YtpgneaekflhgnaaDoorTie.lean); close each card by the builder's one call (the guide's Derived/Test/ToyasCard.lean, 'card_holds'). Laid BY PROGRAM, IN A SANDBOX (cutbox-door.mjs). By AI agents, Wed Nov 11 2026. No macro, syntax, notation, axiom, sorry.
-/
import Derived.Test.YtpgneaekflhgnaaDoorRows
import GoSem.ClaimSeven
namespace Go.Proofs.YtpgneaekflhgnaaDoor
namespace Rows

/-- THE TIED CARD OF 'seabaglaw17.ArithBinds'. -/
def arithBindsCard : Claim7 := { stood := { row := arithBindsRow, standIns := [], harness := (true, "f7eb3d18569fe20d907449ef4efad9c2b60f8f8114022c74a1a7cf08e947e0bd"), looks := true }, kinds := [], alts := [], laidByText := true, laidKinds := [.data, .data, .data, .sentinel, .sentinel], laidTests := true, laidLooks := .later }
def ArithBindsCardSaid : Prop := Claim7.holds Tryd.pinned (.plain (OpenSpec.ofChange arithBindsSpec)) arithBindsCard

/-- THE TIED CARD OF 'seabaglaw17.ArithReads'. -/
def arithReadsCard : Claim7 := { stood := { row := arithReadsRow, standIns := [], harness := (true, "f7eb3d18569fe20d907449ef4efad9c2b60f8f8114022c74a1a7cf08e947e0bd"), looks := true }, kinds := [], alts := [], laidByText := true, laidKinds := [.data, .data, .data, .sentinel, .sentinel], laidTests := true, laidLooks := .later }
def ArithReadsCardSaid : Prop := Claim7.holds Tryd.pinned (.plain (OpenSpec.ofChange arithReadsSpec)) arithReadsCard

/-- THE SECOND FORM's CARD OF 'seabaglaw17.ArithBinds'. -/
def arithBindsUptoCard : Claim7 := { stood := { row := arithBindsUptoRow, standIns := [], harness := (true, "f7eb3d18569fe20d907449ef4efad9c2b60f8f8114022c74a1a7cf08e947e0bd"), looks := true }, kinds := [], alts := [], laidByText := true, laidKinds := [.data, .data, .data, .sentinel, .sentinel], laidTests := true, laidLooks := .later }
def ArithBindsUptoCardSaid : Prop := Claim7.holds Tryd.pinned (.plain (OpenSpec.upto arithBindsSpec)) arithBindsUptoCard

/-- THE SECOND FORM's CARD OF 'seabaglaw17.ArithReads'. -/
def arithReadsUptoCard : Claim7 := { stood := { row := arithReadsUptoRow, standIns := [], harness := (true, "f7eb3d18569fe20d907449ef4efad9c2b60f8f8114022c74a1a7cf08e947e0bd"), looks := true }, kinds := [], alts := [], laidByText := true, laidKinds := [.data, .data, .data, .sentinel, .sentinel], laidTests := true, laidLooks := .later }
def ArithReadsUptoCardSaid : Prop := Claim7.holds Tryd.pinned (.plain (OpenSpec.upto arithReadsSpec)) arithReadsUptoCard
end Rows
end Go.Proofs.YtpgneaekflhgnaaDoor
