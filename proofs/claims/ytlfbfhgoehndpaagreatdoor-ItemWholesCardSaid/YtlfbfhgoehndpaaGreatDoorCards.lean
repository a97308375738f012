/-
  DERIVED. GIVEN WITH THE SEED: THE CARDS: each row of YtlfbfhgoehndpaaGreatDoorRows.lean that lists a variable, with what it lists TIED to the program's text (the seventh form; the later family's looks); each row that meets fmt, with fmt's text TOLD by the authors' own Lean function (tested against real Go, not proved from fmt's source: count such statements apart). THE CARD IS WHAT COUNTS. Prove the row's statement (the work); the ties are given (YtlfbfhgoehndpaaGreatDoorTie.lean); close each card by the builder's one call (the guide's Derived/Test/ToyasCard.lean, 'card_holds'). Laid BY PROGRAM, IN A SANDBOX (cutbox-door.mjs). By AI agents, Wed Nov 11 2026. No macro, syntax, notation, axiom, sorry.
-/
import Derived.Test.YtlfbfhgoehndpaaGreatDoorRows
import GoSem.ClaimSeven
namespace Go.Proofs.YtlfbfhgoehndpaaGreatDoor
namespace Rows

/-- THE TIED CARD OF 'chaselaw2.ItemChecks'. -/
def itemChecksCard : Claim7 := { stood := { row := itemChecksRow, standIns := [], harness := (true, "2ef08729cc64a743ddf0916f67cb06ad9af076b429cd5d5c90bcef1036e8136f"), looks := true }, kinds := [], alts := [], laidByText := true, laidKinds := [.data, .data, .data, .data, .sentinel, .sentinel, .pinned], laidTests := true, laidLooks := .later }
def ItemChecksCardSaid : Prop := Claim7.holds Tryz.pinned (.plain (OpenSpec.ofChange itemChecksSpec)) itemChecksCard

/-- THE TIED CARD OF 'chaselaw2.MoveChecks'. -/
def moveChecksCard : Claim7 := { stood := { row := moveChecksRow, standIns := [], harness := (true, "2ef08729cc64a743ddf0916f67cb06ad9af076b429cd5d5c90bcef1036e8136f"), looks := true }, kinds := [], alts := [], laidByText := true, laidKinds := [.data, .data, .data, .data, .sentinel, .sentinel, .pinned], laidTests := true, laidLooks := .later }
def MoveChecksCardSaid : Prop := Claim7.holds Tryz.pinned (.plain (OpenSpec.ofChange moveChecksSpec)) moveChecksCard

/-- THE TIED CARD OF 'chaselaw2.ItemFamilies'. -/
def itemFamiliesCard : Claim7 := { stood := { row := itemFamiliesRow, standIns := [], harness := (true, "2ef08729cc64a743ddf0916f67cb06ad9af076b429cd5d5c90bcef1036e8136f"), looks := true }, kinds := [], alts := [], laidByText := true, laidKinds := [.data, .data, .data, .data, .sentinel, .sentinel, .pinned], laidTests := true, laidLooks := .later }
def ItemFamiliesCardSaid : Prop := Claim7.holds Tryz.pinned (.plain (OpenSpec.ofChange itemFamiliesSpec)) itemFamiliesCard

/-- THE TIED CARD OF 'chaselaw2.ItemWholes'. -/
def itemWholesCard : Claim7 := { stood := { row := itemWholesRow, standIns := [], harness := (true, "2ef08729cc64a743ddf0916f67cb06ad9af076b429cd5d5c90bcef1036e8136f"), looks := true }, kinds := [], alts := [], laidByText := true, laidKinds := [.data, .data, .data, .data, .sentinel, .sentinel, .pinned], laidTests := true, laidLooks := .later }
def ItemWholesCardSaid : Prop := Claim7.holds Tryz.pinned (.plain (OpenSpec.ofChange itemWholesSpec)) itemWholesCard

/-- THE TIED CARD OF 'chaselaw2.ItemPlaces'. -/
def itemPlacesCard : Claim7 := { stood := { row := itemPlacesRow, standIns := [], harness := (true, "2ef08729cc64a743ddf0916f67cb06ad9af076b429cd5d5c90bcef1036e8136f"), looks := true }, kinds := [], alts := [], laidByText := true, laidKinds := [.data, .data, .data, .data, .sentinel, .sentinel, .pinned], laidTests := true, laidLooks := .later }
def ItemPlacesCardSaid : Prop := Claim7.holds Tryz.pinned (.plain (OpenSpec.ofChange itemPlacesSpec)) itemPlacesCard

/-- THE SECOND FORM's CARD OF 'chaselaw2.ItemChecks'. -/
def itemChecksUptoCard : Claim7 := { stood := { row := itemChecksUptoRow, standIns := [], harness := (true, "2ef08729cc64a743ddf0916f67cb06ad9af076b429cd5d5c90bcef1036e8136f"), looks := true }, kinds := [], alts := [], laidByText := true, laidKinds := [.data, .data, .data, .data, .sentinel, .sentinel, .pinned], laidTests := true, laidLooks := .later }
def ItemChecksUptoCardSaid : Prop := Claim7.holds Tryz.pinned (.plain (OpenSpec.upto itemChecksSpec)) itemChecksUptoCard

/-- THE SECOND FORM's CARD OF 'chaselaw2.MoveChecks'. -/
def moveChecksUptoCard : Claim7 := { stood := { row := moveChecksUptoRow, standIns := [], harness := (true, "2ef08729cc64a743ddf0916f67cb06ad9af076b429cd5d5c90bcef1036e8136f"), looks := true }, kinds := [], alts := [], laidByText := true, laidKinds := [.data, .data, .data, .data, .sentinel, .sentinel, .pinned], laidTests := true, laidLooks := .later }
def MoveChecksUptoCardSaid : Prop := Claim7.holds Tryz.pinned (.plain (OpenSpec.upto moveChecksSpec)) moveChecksUptoCard

/-- THE SECOND FORM's CARD OF 'chaselaw2.ItemFamilies'. -/
def itemFamiliesUptoCard : Claim7 := { stood := { row := itemFamiliesUptoRow, standIns := [], harness := (true, "2ef08729cc64a743ddf0916f67cb06ad9af076b429cd5d5c90bcef1036e8136f"), looks := true }, kinds := [], alts := [], laidByText := true, laidKinds := [.data, .data, .data, .data, .sentinel, .sentinel, .pinned], laidTests := true, laidLooks := .later }
def ItemFamiliesUptoCardSaid : Prop := Claim7.holds Tryz.pinned (.plain (OpenSpec.upto itemFamiliesSpec)) itemFamiliesUptoCard

/-- THE SECOND FORM's CARD OF 'chaselaw2.ItemWholes'. -/
def itemWholesUptoCard : Claim7 := { stood := { row := itemWholesUptoRow, standIns := [], harness := (true, "2ef08729cc64a743ddf0916f67cb06ad9af076b429cd5d5c90bcef1036e8136f"), looks := true }, kinds := [], alts := [], laidByText := true, laidKinds := [.data, .data, .data, .data, .sentinel, .sentinel, .pinned], laidTests := true, laidLooks := .later }
def ItemWholesUptoCardSaid : Prop := Claim7.holds Tryz.pinned (.plain (OpenSpec.upto itemWholesSpec)) itemWholesUptoCard

/-- THE SECOND FORM's CARD OF 'chaselaw2.ItemPlaces'. -/
def itemPlacesUptoCard : Claim7 := { stood := { row := itemPlacesUptoRow, standIns := [], harness := (true, "2ef08729cc64a743ddf0916f67cb06ad9af076b429cd5d5c90bcef1036e8136f"), looks := true }, kinds := [], alts := [], laidByText := true, laidKinds := [.data, .data, .data, .data, .sentinel, .sentinel, .pinned], laidTests := true, laidLooks := .later }
def ItemPlacesUptoCardSaid : Prop := Claim7.holds Tryz.pinned (.plain (OpenSpec.upto itemPlacesSpec)) itemPlacesUptoCard
end Rows
end Go.Proofs.YtlfbfhgoehndpaaGreatDoor
