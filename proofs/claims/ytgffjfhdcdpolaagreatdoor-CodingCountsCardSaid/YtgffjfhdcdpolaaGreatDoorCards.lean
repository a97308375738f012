/-
  DERIVED. GIVEN WITH THE SEED: THE CARDS: each row of YtgffjfhdcdpolaaGreatDoorRows.lean that lists a variable, with what it lists TIED to the program's text (the seventh form; the later family's looks); each row that meets fmt, with fmt's text TOLD by the authors' own Lean function (tested against real Go, not proved from fmt's source: count such statements apart). THE CARD IS WHAT COUNTS. Prove the row's statement (the work); the ties are given (YtgffjfhdcdpolaaGreatDoorTie.lean); close each card by the builder's one call (the guide's Derived/Test/ToyasCard.lean, 'card_holds'). Laid BY PROGRAM, IN A SANDBOX (cutbox-door.mjs). By AI agents, Wed Nov 11 2026. No macro, syntax, notation, axiom, sorry.
-/
import Derived.Test.YtgffjfhdcdpolaaGreatDoorRows
import GoSem.ClaimSeven
namespace Go.Proofs.YtgffjfhdcdpolaaGreatDoor
namespace Rows

/-- THE TIED CARD OF 'chaselaw2.LayoutTexts'. -/
def layoutTextsCard : Claim7 := { stood := { row := layoutTextsRow, standIns := [], harness := (true, "f226ed5a3fbcb40e92d0ecf536a43bcee43fa0dda60faa7787644569bf4eeb63"), looks := false }, kinds := [], alts := [], laidByText := true, laidKinds := [.data, .listed, .data, .pinned], laidTests := true, laidLooks := .later }
def LayoutTextsCardSaid : Prop := Claim7.holds Tryz.pinned (.plain (OpenSpec.ofChange layoutTextsSpec)) layoutTextsCard

/-- THE TIED CARD OF 'chaselaw2.SampleSplits'. -/
def sampleSplitsCard : Claim7 := { stood := { row := sampleSplitsRow, standIns := [], harness := (true, "f226ed5a3fbcb40e92d0ecf536a43bcee43fa0dda60faa7787644569bf4eeb63"), looks := false }, kinds := [], alts := [], laidByText := true, laidKinds := [.data, .data, .data, .data, .pinned], laidTests := true, laidLooks := .later }
def SampleSplitsCardSaid : Prop := Claim7.holds Tryz.pinned (.plain (OpenSpec.ofChange sampleSplitsSpec)) sampleSplitsCard

/-- THE TIED CARD OF 'chaselaw2.CodingCounts'. -/
def codingCountsCard : Claim7 := { stood := { row := codingCountsRow, standIns := [], harness := (true, "f226ed5a3fbcb40e92d0ecf536a43bcee43fa0dda60faa7787644569bf4eeb63"), looks := false }, kinds := [], alts := [], laidByText := true, laidKinds := [.data, .listed, .data, .pinned], laidTests := true, laidLooks := .later }
def CodingCountsCardSaid : Prop := Claim7.holds Tryz.pinned (.plain (OpenSpec.ofChange codingCountsSpec)) codingCountsCard

/-- THE SECOND FORM's CARD OF 'chaselaw2.LayoutTexts'. -/
def layoutTextsUptoCard : Claim7 := { stood := { row := layoutTextsUptoRow, standIns := [], harness := (true, "f226ed5a3fbcb40e92d0ecf536a43bcee43fa0dda60faa7787644569bf4eeb63"), looks := false }, kinds := [], alts := [], laidByText := true, laidKinds := [.data, .listed, .data, .pinned], laidTests := true, laidLooks := .later }
def LayoutTextsUptoCardSaid : Prop := Claim7.holds Tryz.pinned (.plain (OpenSpec.upto layoutTextsSpec)) layoutTextsUptoCard

/-- THE SECOND FORM's CARD OF 'chaselaw2.SampleSplits'. -/
def sampleSplitsUptoCard : Claim7 := { stood := { row := sampleSplitsUptoRow, standIns := [], harness := (true, "f226ed5a3fbcb40e92d0ecf536a43bcee43fa0dda60faa7787644569bf4eeb63"), looks := false }, kinds := [], alts := [], laidByText := true, laidKinds := [.data, .data, .data, .data, .pinned], laidTests := true, laidLooks := .later }
def SampleSplitsUptoCardSaid : Prop := Claim7.holds Tryz.pinned (.plain (OpenSpec.upto sampleSplitsSpec)) sampleSplitsUptoCard

/-- THE SECOND FORM's CARD OF 'chaselaw2.CodingCounts'. -/
def codingCountsUptoCard : Claim7 := { stood := { row := codingCountsUptoRow, standIns := [], harness := (true, "f226ed5a3fbcb40e92d0ecf536a43bcee43fa0dda60faa7787644569bf4eeb63"), looks := false }, kinds := [], alts := [], laidByText := true, laidKinds := [.data, .listed, .data, .pinned], laidTests := true, laidLooks := .later }
def CodingCountsUptoCardSaid : Prop := Claim7.holds Tryz.pinned (.plain (OpenSpec.upto codingCountsSpec)) codingCountsUptoCard
end Rows
end Go.Proofs.YtgffjfhdcdpolaaGreatDoor
