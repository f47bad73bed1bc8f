/-
  DERIVED. GIVEN WITH THE SEED: THE CARDS: each row of YtfeejbmpnphnhaaDoorRows.lean that lists a variable, with what it lists TIED to the program's text (the seventh form; the later family's looks); each row that meets fmt, with fmt's text TOLD by the authors' own Lean function (tested against real Go, not proved from fmt's source: count such statements apart). THE CARD IS WHAT COUNTS. Prove the row's statement (the work); the ties are given (YtfeejbmpnphnhaaDoorTie.lean); close each card by the builder's one call (the guide's Derived/Test/ToyasCard.lean, 'card_holds'). Laid BY PROGRAM, IN A SANDBOX (cutbox-door.mjs). By AI agents, Wed Nov 11 2026. No macro, syntax, notation, axiom, sorry.
-/
import Derived.Test.YtfeejbmpnphnhaaDoorRows
import GoSem.ClaimSeven
namespace Go.Proofs.YtfeejbmpnphnhaaDoor
namespace Rows

/-- THE TIED CARD OF 'seabaglaw11.QuoteReads'. -/
def quoteReadsCard : Claim7 := { stood := { row := quoteReadsRow, standIns := [], harness := (true, "ed14708817be66271190577de6129dfff9362886c280075ba1f92a366a9b6f3d"), looks := false }, kinds := [], alts := [], laidByText := true, laidKinds := [.data, .pinned], laidTests := true, laidLooks := .later }
def QuoteReadsCardSaid : Prop := Claim7.holds Tryd.pinned (.plain (OpenSpec.ofChange quoteReadsSpec)) quoteReadsCard

/-- THE TIED CARD OF 'seabaglaw11.QuoteJoins'. -/
def quoteJoinsCard : Claim7 := { stood := { row := quoteJoinsRow, standIns := [], harness := (true, "ed14708817be66271190577de6129dfff9362886c280075ba1f92a366a9b6f3d"), looks := false }, kinds := [], alts := [], laidByText := true, laidKinds := [.data, .pinned], laidTests := true, laidLooks := .later }
def QuoteJoinsCardSaid : Prop := Claim7.holds Tryd.pinned (.plain (OpenSpec.ofChange quoteJoinsSpec)) quoteJoinsCard

/-- THE TIED CARD OF 'seabaglaw11.QuoteWords'. -/
def quoteWordsCard : Claim7 := { stood := { row := quoteWordsRow, standIns := [], harness := (true, "ed14708817be66271190577de6129dfff9362886c280075ba1f92a366a9b6f3d"), looks := false }, kinds := [], alts := [], laidByText := true, laidKinds := [.data, .pinned], laidTests := true, laidLooks := .later }
def QuoteWordsCardSaid : Prop := Claim7.holds Tryd.pinned (.plain (OpenSpec.ofChange quoteWordsSpec)) quoteWordsCard

/-- THE SECOND FORM's CARD OF 'seabaglaw11.QuoteReads'. -/
def quoteReadsUptoCard : Claim7 := { stood := { row := quoteReadsUptoRow, standIns := [], harness := (true, "ed14708817be66271190577de6129dfff9362886c280075ba1f92a366a9b6f3d"), looks := false }, kinds := [], alts := [], laidByText := true, laidKinds := [.data, .pinned], laidTests := true, laidLooks := .later }
def QuoteReadsUptoCardSaid : Prop := Claim7.holds Tryd.pinned (.plain (OpenSpec.upto quoteReadsSpec)) quoteReadsUptoCard

/-- THE SECOND FORM's CARD OF 'seabaglaw11.QuoteJoins'. -/
def quoteJoinsUptoCard : Claim7 := { stood := { row := quoteJoinsUptoRow, standIns := [], harness := (true, "ed14708817be66271190577de6129dfff9362886c280075ba1f92a366a9b6f3d"), looks := false }, kinds := [], alts := [], laidByText := true, laidKinds := [.data, .pinned], laidTests := true, laidLooks := .later }
def QuoteJoinsUptoCardSaid : Prop := Claim7.holds Tryd.pinned (.plain (OpenSpec.upto quoteJoinsSpec)) quoteJoinsUptoCard

/-- THE SECOND FORM's CARD OF 'seabaglaw11.QuoteWords'. -/
def quoteWordsUptoCard : Claim7 := { stood := { row := quoteWordsUptoRow, standIns := [], harness := (true, "ed14708817be66271190577de6129dfff9362886c280075ba1f92a366a9b6f3d"), looks := false }, kinds := [], alts := [], laidByText := true, laidKinds := [.data, .pinned], laidTests := true, laidLooks := .later }
def QuoteWordsUptoCardSaid : Prop := Claim7.holds Tryd.pinned (.plain (OpenSpec.upto quoteWordsSpec)) quoteWordsUptoCard
end Rows
end Go.Proofs.YtfeejbmpnphnhaaDoor
