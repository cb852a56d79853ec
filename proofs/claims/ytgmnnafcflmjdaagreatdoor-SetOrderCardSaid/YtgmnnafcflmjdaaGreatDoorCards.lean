/-
  DERIVED. GIVEN WITH THE SEED: THE CARDS: each row of YtgmnnafcflmjdaaGreatDoorRows.lean that lists a variable, with what it lists TIED to the program's text (the seventh form; the later family's looks); each row that meets fmt, with fmt's text TOLD by the authors' own Lean function (tested against real Go, not proved from fmt's source: count such statements apart). THE CARD IS WHAT COUNTS. Prove the row's statement (the work); the ties are given (YtgmnnafcflmjdaaGreatDoorTie.lean); close each card by the builder's one call (the guide's Derived/Test/ToyasCard.lean, 'card_holds'). Laid BY PROGRAM, IN A SANDBOX (cutbox-door.mjs). By AI agents, Wed Nov 11 2026. No macro, syntax, notation, axiom, sorry.
-/
import Derived.Test.YtgmnnafcflmjdaaGreatDoorRows
import GoSem.ClaimSeven
namespace Go.Proofs.YtgmnnafcflmjdaaGreatDoor
namespace Rows

/-- THE TIED CARD OF 'punnetlaw11.SetModel'. -/
def setModelCard : Claim7 := { stood := { row := setModelRow, standIns := [], harness := (true, "0bbcab0c832072bc4ee64143b1b98fe60939f6ffb57e3c07a5124fba818df058"), looks := false }, kinds := [], alts := [], laidByText := true, laidKinds := [.data, .data], laidTests := true, laidLooks := .later }
def SetModelCardSaid : Prop := Claim7.holds Tryz.pinned (.plain (OpenSpec.ofChange setModelSpec)) setModelCard

/-- THE TIED CARD OF 'punnetlaw14.ScanTakes'. -/
def scanTakesCard : Claim7 := { stood := { row := scanTakesRow, standIns := [], harness := (true, "0bbcab0c832072bc4ee64143b1b98fe60939f6ffb57e3c07a5124fba818df058"), looks := false }, kinds := [], alts := [], laidByText := true, laidKinds := [.data, .data], laidTests := true, laidLooks := .later }
def ScanTakesCardSaid : Prop := Claim7.holds Tryz.pinned (.plain (OpenSpec.ofChange scanTakesSpec)) scanTakesCard

/-- THE TIED CARD OF 'punnetlaw14.ScanStops'. -/
def scanStopsCard : Claim7 := { stood := { row := scanStopsRow, standIns := [], harness := (true, "0bbcab0c832072bc4ee64143b1b98fe60939f6ffb57e3c07a5124fba818df058"), looks := false }, kinds := [], alts := [], laidByText := true, laidKinds := [.data, .data], laidTests := true, laidLooks := .later }
def ScanStopsCardSaid : Prop := Claim7.holds Tryz.pinned (.plain (OpenSpec.ofChange scanStopsSpec)) scanStopsCard

/-- THE TIED CARD OF 'punnetlaw11.SetOrder'. -/
def setOrderCard : Claim7 := { stood := { row := setOrderRow, standIns := [], harness := (true, "0bbcab0c832072bc4ee64143b1b98fe60939f6ffb57e3c07a5124fba818df058"), looks := false }, kinds := [], alts := [], laidByText := true, laidKinds := [.data, .data], laidTests := true, laidLooks := .later }
def SetOrderCardSaid : Prop := Claim7.holds Tryz.pinned (.plain (OpenSpec.ofChange setOrderSpec)) setOrderCard

/-- THE TIED CARD OF 'punnetlaw14.ScanRanges'. -/
def scanRangesCard : Claim7 := { stood := { row := scanRangesRow, standIns := [], harness := (true, "0bbcab0c832072bc4ee64143b1b98fe60939f6ffb57e3c07a5124fba818df058"), looks := false }, kinds := [], alts := [], laidByText := true, laidKinds := [.data, .data], laidTests := true, laidLooks := .later }
def ScanRangesCardSaid : Prop := Claim7.holds Tryz.pinned (.plain (OpenSpec.ofChange scanRangesSpec)) scanRangesCard

/-- THE TIED CARD OF 'punnetlaw14.ScanParts'. -/
def scanPartsCard : Claim7 := { stood := { row := scanPartsRow, standIns := [], harness := (true, "0bbcab0c832072bc4ee64143b1b98fe60939f6ffb57e3c07a5124fba818df058"), looks := false }, kinds := [], alts := [], laidByText := true, laidKinds := [.data, .data], laidTests := true, laidLooks := .later }
def ScanPartsCardSaid : Prop := Claim7.holds Tryz.pinned (.plain (OpenSpec.ofChange scanPartsSpec)) scanPartsCard

/-- THE TIED CARD OF 'punnetlaw14.ScanFew'. -/
def scanFewCard : Claim7 := { stood := { row := scanFewRow, standIns := [], harness := (true, "0bbcab0c832072bc4ee64143b1b98fe60939f6ffb57e3c07a5124fba818df058"), looks := false }, kinds := [], alts := [], laidByText := true, laidKinds := [.data, .data], laidTests := true, laidLooks := .later }
def ScanFewCardSaid : Prop := Claim7.holds Tryz.pinned (.plain (OpenSpec.ofChange scanFewSpec)) scanFewCard

/-- THE TIED CARD OF 'punnetlaw14.ScanNil'. -/
def scanNilCard : Claim7 := { stood := { row := scanNilRow, standIns := [], harness := (true, "0bbcab0c832072bc4ee64143b1b98fe60939f6ffb57e3c07a5124fba818df058"), looks := false }, kinds := [], alts := [], laidByText := true, laidKinds := [.data, .data], laidTests := true, laidLooks := .later }
def ScanNilCardSaid : Prop := Claim7.holds Tryz.pinned (.plain (OpenSpec.ofChange scanNilSpec)) scanNilCard

/-- THE SECOND FORM's CARD OF 'punnetlaw11.SetModel'. -/
def setModelUptoCard : Claim7 := { stood := { row := setModelUptoRow, standIns := [], harness := (true, "0bbcab0c832072bc4ee64143b1b98fe60939f6ffb57e3c07a5124fba818df058"), looks := false }, kinds := [], alts := [], laidByText := true, laidKinds := [.data, .data], laidTests := true, laidLooks := .later }
def SetModelUptoCardSaid : Prop := Claim7.holds Tryz.pinned (.plain (OpenSpec.upto setModelSpec)) setModelUptoCard

/-- THE SECOND FORM's CARD OF 'punnetlaw14.ScanTakes'. -/
def scanTakesUptoCard : Claim7 := { stood := { row := scanTakesUptoRow, standIns := [], harness := (true, "0bbcab0c832072bc4ee64143b1b98fe60939f6ffb57e3c07a5124fba818df058"), looks := false }, kinds := [], alts := [], laidByText := true, laidKinds := [.data, .data], laidTests := true, laidLooks := .later }
def ScanTakesUptoCardSaid : Prop := Claim7.holds Tryz.pinned (.plain (OpenSpec.upto scanTakesSpec)) scanTakesUptoCard

/-- THE SECOND FORM's CARD OF 'punnetlaw14.ScanStops'. -/
def scanStopsUptoCard : Claim7 := { stood := { row := scanStopsUptoRow, standIns := [], harness := (true, "0bbcab0c832072bc4ee64143b1b98fe60939f6ffb57e3c07a5124fba818df058"), looks := false }, kinds := [], alts := [], laidByText := true, laidKinds := [.data, .data], laidTests := true, laidLooks := .later }
def ScanStopsUptoCardSaid : Prop := Claim7.holds Tryz.pinned (.plain (OpenSpec.upto scanStopsSpec)) scanStopsUptoCard

/-- THE SECOND FORM's CARD OF 'punnetlaw11.SetOrder'. -/
def setOrderUptoCard : Claim7 := { stood := { row := setOrderUptoRow, standIns := [], harness := (true, "0bbcab0c832072bc4ee64143b1b98fe60939f6ffb57e3c07a5124fba818df058"), looks := false }, kinds := [], alts := [], laidByText := true, laidKinds := [.data, .data], laidTests := true, laidLooks := .later }
def SetOrderUptoCardSaid : Prop := Claim7.holds Tryz.pinned (.plain (OpenSpec.upto setOrderSpec)) setOrderUptoCard

/-- THE SECOND FORM's CARD OF 'punnetlaw14.ScanRanges'. -/
def scanRangesUptoCard : Claim7 := { stood := { row := scanRangesUptoRow, standIns := [], harness := (true, "0bbcab0c832072bc4ee64143b1b98fe60939f6ffb57e3c07a5124fba818df058"), looks := false }, kinds := [], alts := [], laidByText := true, laidKinds := [.data, .data], laidTests := true, laidLooks := .later }
def ScanRangesUptoCardSaid : Prop := Claim7.holds Tryz.pinned (.plain (OpenSpec.upto scanRangesSpec)) scanRangesUptoCard

/-- THE SECOND FORM's CARD OF 'punnetlaw14.ScanParts'. -/
def scanPartsUptoCard : Claim7 := { stood := { row := scanPartsUptoRow, standIns := [], harness := (true, "0bbcab0c832072bc4ee64143b1b98fe60939f6ffb57e3c07a5124fba818df058"), looks := false }, kinds := [], alts := [], laidByText := true, laidKinds := [.data, .data], laidTests := true, laidLooks := .later }
def ScanPartsUptoCardSaid : Prop := Claim7.holds Tryz.pinned (.plain (OpenSpec.upto scanPartsSpec)) scanPartsUptoCard

/-- THE SECOND FORM's CARD OF 'punnetlaw14.ScanFew'. -/
def scanFewUptoCard : Claim7 := { stood := { row := scanFewUptoRow, standIns := [], harness := (true, "0bbcab0c832072bc4ee64143b1b98fe60939f6ffb57e3c07a5124fba818df058"), looks := false }, kinds := [], alts := [], laidByText := true, laidKinds := [.data, .data], laidTests := true, laidLooks := .later }
def ScanFewUptoCardSaid : Prop := Claim7.holds Tryz.pinned (.plain (OpenSpec.upto scanFewSpec)) scanFewUptoCard

/-- THE SECOND FORM's CARD OF 'punnetlaw14.ScanNil'. -/
def scanNilUptoCard : Claim7 := { stood := { row := scanNilUptoRow, standIns := [], harness := (true, "0bbcab0c832072bc4ee64143b1b98fe60939f6ffb57e3c07a5124fba818df058"), looks := false }, kinds := [], alts := [], laidByText := true, laidKinds := [.data, .data], laidTests := true, laidLooks := .later }
def ScanNilUptoCardSaid : Prop := Claim7.holds Tryz.pinned (.plain (OpenSpec.upto scanNilSpec)) scanNilUptoCard
end Rows
end Go.Proofs.YtgmnnafcflmjdaaGreatDoor
