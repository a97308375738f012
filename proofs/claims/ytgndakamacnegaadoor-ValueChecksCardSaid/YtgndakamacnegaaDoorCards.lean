/-
  DERIVED. GIVEN WITH THE SEED: THE CARDS: each row of YtgndakamacnegaaDoorRows.lean that lists a variable, with what it lists TIED to the program's text (the seventh form; the later family's looks); each row that meets fmt, with fmt's text TOLD by the authors' own Lean function (tested against real Go, not proved from fmt's source: count such statements apart). THE CARD IS WHAT COUNTS. Prove the row's statement (the work); the ties are given (YtgndakamacnegaaDoorTie.lean); close each card by the builder's one call (the guide's Derived/Test/ToyasCard.lean, 'card_holds'). Laid BY PROGRAM, IN A SANDBOX (cutbox-door.mjs). By AI agents, Wed Nov 11 2026. No macro, syntax, notation, axiom, sorry.
-/
import Derived.Test.YtgndakamacnegaaDoorRows
import GoSem.ClaimSeven
namespace Go.Proofs.YtgndakamacnegaaDoor
namespace Rows

/-- THE TIED CARD OF 'chaselaw2.QuoteStrings'. -/
def quoteStringsCard : Claim7 := { stood := { row := quoteStringsRow, standIns := [], harness := (true, "6b5d7a69937edc4dbc33d146a8f652cd1e212cfcdc3c708589a0ccc1298fa1ab"), looks := true }, kinds := [], alts := [], laidByText := true, laidKinds := [.data, .data, .data, .sentinel, .sentinel], laidTests := true, laidLooks := .later }
def QuoteStringsCardSaid : Prop := Claim7.holds Tryd.pinned (.plain (OpenSpec.ofChange quoteStringsSpec)) quoteStringsCard

/-- THE TIED CARD OF 'chaselaw2.ValueChecks'. -/
def valueChecksCard : Claim7 := { stood := { row := valueChecksRow, standIns := [], harness := (true, "6b5d7a69937edc4dbc33d146a8f652cd1e212cfcdc3c708589a0ccc1298fa1ab"), looks := true }, kinds := [], alts := [], laidByText := true, laidKinds := [.data, .listed, .data, .pinned], laidTests := true, laidLooks := .later }
def ValueChecksCardSaid : Prop := Claim7.holds Tryd.pinned (.plain (OpenSpec.ofChange valueChecksSpec)) valueChecksCard

/-- THE SECOND FORM's CARD OF 'chaselaw2.QuoteStrings'. -/
def quoteStringsUptoCard : Claim7 := { stood := { row := quoteStringsUptoRow, standIns := [], harness := (true, "6b5d7a69937edc4dbc33d146a8f652cd1e212cfcdc3c708589a0ccc1298fa1ab"), looks := true }, kinds := [], alts := [], laidByText := true, laidKinds := [.data, .data, .data, .sentinel, .sentinel], laidTests := true, laidLooks := .later }
def QuoteStringsUptoCardSaid : Prop := Claim7.holds Tryd.pinned (.plain (OpenSpec.upto quoteStringsSpec)) quoteStringsUptoCard

/-- THE SECOND FORM's CARD OF 'chaselaw2.ValueChecks'. -/
def valueChecksUptoCard : Claim7 := { stood := { row := valueChecksUptoRow, standIns := [], harness := (true, "6b5d7a69937edc4dbc33d146a8f652cd1e212cfcdc3c708589a0ccc1298fa1ab"), looks := true }, kinds := [], alts := [], laidByText := true, laidKinds := [.data, .listed, .data, .pinned], laidTests := true, laidLooks := .later }
def ValueChecksUptoCardSaid : Prop := Claim7.holds Tryd.pinned (.plain (OpenSpec.upto valueChecksSpec)) valueChecksUptoCard
end Rows
end Go.Proofs.YtgndakamacnegaaDoor
