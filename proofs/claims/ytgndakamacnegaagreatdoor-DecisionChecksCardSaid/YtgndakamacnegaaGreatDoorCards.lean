/-
  DERIVED. GIVEN WITH THE SEED: THE CARDS: each row of YtgndakamacnegaaGreatDoorRows.lean that lists a variable, with what it lists TIED to the program's text (the seventh form; the later family's looks); each row that meets fmt, with fmt's text TOLD by the authors' own Lean function (tested against real Go, not proved from fmt's source: count such statements apart). THE CARD IS WHAT COUNTS. Prove the row's statement (the work); the ties are given (YtgndakamacnegaaGreatDoorTie.lean); close each card by the builder's one call (the guide's Derived/Test/ToyasCard.lean, 'card_holds'). Laid BY PROGRAM, IN A SANDBOX (cutbox-door.mjs). By AI agents, Wed Nov 11 2026. No macro, syntax, notation, axiom, sorry.
-/
import Derived.Test.YtgndakamacnegaaGreatDoorRows
import GoSem.ClaimSeven
namespace Go.Proofs.YtgndakamacnegaaGreatDoor
namespace Rows

/-- THE TIED CARD OF 'chaselaw2.DecisionChecks'. -/
def decisionChecksCard : Claim7 := { stood := { row := decisionChecksRow, standIns := [], harness := (true, "16ccc7538a781f637deb19970af3ab9a086e046198c53d8a93884ac31a96845a"), looks := false }, kinds := [], alts := [], laidByText := true, laidKinds := [.data, .listed, .data, .pinned], laidTests := true, laidLooks := .later }
def DecisionChecksCardSaid : Prop := Claim7.holds Tryz.pinned (.plain (OpenSpec.ofChange decisionChecksSpec)) decisionChecksCard

/-- THE TIED CARD OF 'chaselaw2.LayoutTexts'. -/
def layoutTextsCard : Claim7 := { stood := { row := layoutTextsRow, standIns := [], harness := (true, "16ccc7538a781f637deb19970af3ab9a086e046198c53d8a93884ac31a96845a"), looks := false }, kinds := [], alts := [], laidByText := true, laidKinds := [.data, .listed, .data, .pinned], laidTests := true, laidLooks := .later }
def LayoutTextsCardSaid : Prop := Claim7.holds Tryz.pinned (.plain (OpenSpec.ofChange layoutTextsSpec)) layoutTextsCard

/-- THE SECOND FORM's CARD OF 'chaselaw2.DecisionChecks'. -/
def decisionChecksUptoCard : Claim7 := { stood := { row := decisionChecksUptoRow, standIns := [], harness := (true, "16ccc7538a781f637deb19970af3ab9a086e046198c53d8a93884ac31a96845a"), looks := false }, kinds := [], alts := [], laidByText := true, laidKinds := [.data, .listed, .data, .pinned], laidTests := true, laidLooks := .later }
def DecisionChecksUptoCardSaid : Prop := Claim7.holds Tryz.pinned (.plain (OpenSpec.upto decisionChecksSpec)) decisionChecksUptoCard

/-- THE SECOND FORM's CARD OF 'chaselaw2.LayoutTexts'. -/
def layoutTextsUptoCard : Claim7 := { stood := { row := layoutTextsUptoRow, standIns := [], harness := (true, "16ccc7538a781f637deb19970af3ab9a086e046198c53d8a93884ac31a96845a"), looks := false }, kinds := [], alts := [], laidByText := true, laidKinds := [.data, .listed, .data, .pinned], laidTests := true, laidLooks := .later }
def LayoutTextsUptoCardSaid : Prop := Claim7.holds Tryz.pinned (.plain (OpenSpec.upto layoutTextsSpec)) layoutTextsUptoCard
end Rows
end Go.Proofs.YtgndakamacnegaaGreatDoor
