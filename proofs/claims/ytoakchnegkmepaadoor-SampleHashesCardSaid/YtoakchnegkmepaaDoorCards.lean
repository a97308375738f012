/-
  DERIVED. GIVEN WITH THE SEED: THE CARDS: each row of YtoakchnegkmepaaDoorRows.lean that lists a variable, with what it lists TIED to the program's text (the seventh form; the later family's looks); each row that meets fmt, with fmt's text TOLD by the authors' own Lean function (tested against real Go, not proved from fmt's source: count such statements apart). THE CARD IS WHAT COUNTS. Prove the row's statement (the work); the ties are given (YtoakchnegkmepaaDoorTie.lean); close each card by the builder's one call (the guide's Derived/Test/ToyasCard.lean, 'card_holds'). Laid BY PROGRAM, IN A SANDBOX (cutbox-door.mjs). By AI agents, Wed Nov 11 2026. No macro, syntax, notation, axiom, sorry.
-/
import Derived.Test.YtoakchnegkmepaaDoorRows
import GoSem.ClaimSeven
namespace Go.Proofs.YtoakchnegkmepaaDoor
namespace Rows

/-- THE TIED CARD OF 'chaselaw2.SampleHashes'. -/
def sampleHashesCard : Claim7 := { stood := { row := sampleHashesRow, standIns := [], harness := (true, "64458999ed5add3a9839fe9a279cb6ff188337827acf4317c3c5fceaa7d395a6"), looks := false }, kinds := [], alts := [], laidByText := true, laidKinds := [.data, .pinned], laidTests := true, laidLooks := .later }
def SampleHashesCardSaid : Prop := Claim7.holds Tryd.pinned (.plain (OpenSpec.ofChange sampleHashesSpec)) sampleHashesCard

/-- THE SECOND FORM's CARD OF 'chaselaw2.SampleHashes'. -/
def sampleHashesUptoCard : Claim7 := { stood := { row := sampleHashesUptoRow, standIns := [], harness := (true, "64458999ed5add3a9839fe9a279cb6ff188337827acf4317c3c5fceaa7d395a6"), looks := false }, kinds := [], alts := [], laidByText := true, laidKinds := [.data, .pinned], laidTests := true, laidLooks := .later }
def SampleHashesUptoCardSaid : Prop := Claim7.holds Tryd.pinned (.plain (OpenSpec.upto sampleHashesSpec)) sampleHashesUptoCard
end Rows
end Go.Proofs.YtoakchnegkmepaaDoor
