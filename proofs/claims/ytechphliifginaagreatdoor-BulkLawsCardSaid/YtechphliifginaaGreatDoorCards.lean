/-
  DERIVED. GIVEN WITH THE SEED: THE CARDS: each row of YtechphliifginaaGreatDoorRows.lean that lists a variable, with what it lists TIED to the program's text (the seventh form; the later family's looks); each row that meets fmt, with fmt's text TOLD by the authors' own Lean function (tested against real Go, not proved from fmt's source: count such statements apart). THE CARD IS WHAT COUNTS. Prove the row's statement (the work); the ties are given (YtechphliifginaaGreatDoorTie.lean); close each card by the builder's one call (the guide's Derived/Test/ToyasCard.lean, 'card_holds'). Laid BY PROGRAM, IN A SANDBOX (cutbox-door.mjs). By AI agents, Wed Nov 11 2026. No macro, syntax, notation, axiom, sorry.
-/
import Derived.Test.YtechphliifginaaGreatDoorRows
import GoSem.ClaimSeven
namespace Go.Proofs.YtechphliifginaaGreatDoor
namespace Rows

/-- THE TIED CARD OF 'punnetlaw09.PmaTells'. -/
def pmaTellsCard : Claim7 := { stood := { row := pmaTellsRow, standIns := [], harness := (true, "0113322355a26426d2504860e9999aa3d58530319f52bd3b5e8025301bf88d96"), looks := false }, kinds := [], alts := [], laidByText := true, laidKinds := [.data, .data], laidTests := true, laidLooks := .later }
def PmaTellsCardSaid : Prop := Claim7.holds Tryz.pinned (.plain (OpenSpec.ofChange pmaTellsSpec)) pmaTellsCard

/-- THE TIED CARD OF 'punnetlaw09.PmaBounds'. -/
def pmaBoundsCard : Claim7 := { stood := { row := pmaBoundsRow, standIns := [], harness := (true, "0113322355a26426d2504860e9999aa3d58530319f52bd3b5e8025301bf88d96"), looks := false }, kinds := [], alts := [], laidByText := true, laidKinds := [.data, .data], laidTests := true, laidLooks := .later }
def PmaBoundsCardSaid : Prop := Claim7.holds Tryz.pinned (.plain (OpenSpec.ofChange pmaBoundsSpec)) pmaBoundsCard

/-- THE TIED CARD OF 'punnetlaw14.ScanTakes'. -/
def scanTakesCard : Claim7 := { stood := { row := scanTakesRow, standIns := [], harness := (true, "0113322355a26426d2504860e9999aa3d58530319f52bd3b5e8025301bf88d96"), looks := false }, kinds := [], alts := [], laidByText := true, laidKinds := [.data, .data], laidTests := true, laidLooks := .later }
def ScanTakesCardSaid : Prop := Claim7.holds Tryz.pinned (.plain (OpenSpec.ofChange scanTakesSpec)) scanTakesCard

/-- THE TIED CARD OF 'punnetlaw14.ScanStops'. -/
def scanStopsCard : Claim7 := { stood := { row := scanStopsRow, standIns := [], harness := (true, "0113322355a26426d2504860e9999aa3d58530319f52bd3b5e8025301bf88d96"), looks := false }, kinds := [], alts := [], laidByText := true, laidKinds := [.data, .data], laidTests := true, laidLooks := .later }
def ScanStopsCardSaid : Prop := Claim7.holds Tryz.pinned (.plain (OpenSpec.ofChange scanStopsSpec)) scanStopsCard

/-- THE TIED CARD OF 'punnetlaw14.ScanRanges'. -/
def scanRangesCard : Claim7 := { stood := { row := scanRangesRow, standIns := [], harness := (true, "0113322355a26426d2504860e9999aa3d58530319f52bd3b5e8025301bf88d96"), looks := false }, kinds := [], alts := [], laidByText := true, laidKinds := [.data, .data], laidTests := true, laidLooks := .later }
def ScanRangesCardSaid : Prop := Claim7.holds Tryz.pinned (.plain (OpenSpec.ofChange scanRangesSpec)) scanRangesCard

/-- THE TIED CARD OF 'punnetlaw14.ScanParts'. -/
def scanPartsCard : Claim7 := { stood := { row := scanPartsRow, standIns := [], harness := (true, "0113322355a26426d2504860e9999aa3d58530319f52bd3b5e8025301bf88d96"), looks := false }, kinds := [], alts := [], laidByText := true, laidKinds := [.data, .data], laidTests := true, laidLooks := .later }
def ScanPartsCardSaid : Prop := Claim7.holds Tryz.pinned (.plain (OpenSpec.ofChange scanPartsSpec)) scanPartsCard

/-- THE TIED CARD OF 'punnetlaw14.ScanFew'. -/
def scanFewCard : Claim7 := { stood := { row := scanFewRow, standIns := [], harness := (true, "0113322355a26426d2504860e9999aa3d58530319f52bd3b5e8025301bf88d96"), looks := false }, kinds := [], alts := [], laidByText := true, laidKinds := [.data, .data], laidTests := true, laidLooks := .later }
def ScanFewCardSaid : Prop := Claim7.holds Tryz.pinned (.plain (OpenSpec.ofChange scanFewSpec)) scanFewCard

/-- THE TIED CARD OF 'punnetlaw14.ScanNil'. -/
def scanNilCard : Claim7 := { stood := { row := scanNilRow, standIns := [], harness := (true, "0113322355a26426d2504860e9999aa3d58530319f52bd3b5e8025301bf88d96"), looks := false }, kinds := [], alts := [], laidByText := true, laidKinds := [.data, .data], laidTests := true, laidLooks := .later }
def ScanNilCardSaid : Prop := Claim7.holds Tryz.pinned (.plain (OpenSpec.ofChange scanNilSpec)) scanNilCard

/-- THE TIED CARD OF 'punnetlaw15.RankBetween'. -/
def rankBetweenCard : Claim7 := { stood := { row := rankBetweenRow, standIns := [], harness := (true, "0113322355a26426d2504860e9999aa3d58530319f52bd3b5e8025301bf88d96"), looks := false }, kinds := [], alts := [], laidByText := true, laidKinds := [.data, .data], laidTests := true, laidLooks := .later }
def RankBetweenCardSaid : Prop := Claim7.holds Tryz.pinned (.plain (OpenSpec.ofChange rankBetweenSpec)) rankBetweenCard

/-- THE TIED CARD OF 'punnetlaw16.BulkThree'. -/
def bulkThreeCard : Claim7 := { stood := { row := bulkThreeRow, standIns := [], harness := (true, "0113322355a26426d2504860e9999aa3d58530319f52bd3b5e8025301bf88d96"), looks := false }, kinds := [], alts := [], laidByText := true, laidKinds := [.data, .data], laidTests := true, laidLooks := .later }
def BulkThreeCardSaid : Prop := Claim7.holds Tryz.pinned (.plain (OpenSpec.ofChange bulkThreeSpec)) bulkThreeCard

/-- THE TIED CARD OF 'punnetlaw16.BulkLaws'. -/
def bulkLawsCard : Claim7 := { stood := { row := bulkLawsRow, standIns := [], harness := (true, "0113322355a26426d2504860e9999aa3d58530319f52bd3b5e8025301bf88d96"), looks := false }, kinds := [], alts := [], laidByText := true, laidKinds := [.data, .data], laidTests := true, laidLooks := .later }
def BulkLawsCardSaid : Prop := Claim7.holds Tryz.pinned (.plain (OpenSpec.ofChange bulkLawsSpec)) bulkLawsCard

/-- THE TIED CARD OF 'punnetlaw16.BulkSteps'. -/
def bulkStepsCard : Claim7 := { stood := { row := bulkStepsRow, standIns := [], harness := (true, "0113322355a26426d2504860e9999aa3d58530319f52bd3b5e8025301bf88d96"), looks := false }, kinds := [], alts := [], laidByText := true, laidKinds := [.data, .data], laidTests := true, laidLooks := .later }
def BulkStepsCardSaid : Prop := Claim7.holds Tryz.pinned (.plain (OpenSpec.ofChange bulkStepsSpec)) bulkStepsCard

/-- THE SECOND FORM's CARD OF 'punnetlaw09.PmaTells'. -/
def pmaTellsUptoCard : Claim7 := { stood := { row := pmaTellsUptoRow, standIns := [], harness := (true, "0113322355a26426d2504860e9999aa3d58530319f52bd3b5e8025301bf88d96"), looks := false }, kinds := [], alts := [], laidByText := true, laidKinds := [.data, .data], laidTests := true, laidLooks := .later }
def PmaTellsUptoCardSaid : Prop := Claim7.holds Tryz.pinned (.plain (OpenSpec.upto pmaTellsSpec)) pmaTellsUptoCard

/-- THE SECOND FORM's CARD OF 'punnetlaw09.PmaBounds'. -/
def pmaBoundsUptoCard : Claim7 := { stood := { row := pmaBoundsUptoRow, standIns := [], harness := (true, "0113322355a26426d2504860e9999aa3d58530319f52bd3b5e8025301bf88d96"), looks := false }, kinds := [], alts := [], laidByText := true, laidKinds := [.data, .data], laidTests := true, laidLooks := .later }
def PmaBoundsUptoCardSaid : Prop := Claim7.holds Tryz.pinned (.plain (OpenSpec.upto pmaBoundsSpec)) pmaBoundsUptoCard

/-- THE SECOND FORM's CARD OF 'punnetlaw14.ScanTakes'. -/
def scanTakesUptoCard : Claim7 := { stood := { row := scanTakesUptoRow, standIns := [], harness := (true, "0113322355a26426d2504860e9999aa3d58530319f52bd3b5e8025301bf88d96"), looks := false }, kinds := [], alts := [], laidByText := true, laidKinds := [.data, .data], laidTests := true, laidLooks := .later }
def ScanTakesUptoCardSaid : Prop := Claim7.holds Tryz.pinned (.plain (OpenSpec.upto scanTakesSpec)) scanTakesUptoCard

/-- THE SECOND FORM's CARD OF 'punnetlaw14.ScanStops'. -/
def scanStopsUptoCard : Claim7 := { stood := { row := scanStopsUptoRow, standIns := [], harness := (true, "0113322355a26426d2504860e9999aa3d58530319f52bd3b5e8025301bf88d96"), looks := false }, kinds := [], alts := [], laidByText := true, laidKinds := [.data, .data], laidTests := true, laidLooks := .later }
def ScanStopsUptoCardSaid : Prop := Claim7.holds Tryz.pinned (.plain (OpenSpec.upto scanStopsSpec)) scanStopsUptoCard

/-- THE SECOND FORM's CARD OF 'punnetlaw14.ScanRanges'. -/
def scanRangesUptoCard : Claim7 := { stood := { row := scanRangesUptoRow, standIns := [], harness := (true, "0113322355a26426d2504860e9999aa3d58530319f52bd3b5e8025301bf88d96"), looks := false }, kinds := [], alts := [], laidByText := true, laidKinds := [.data, .data], laidTests := true, laidLooks := .later }
def ScanRangesUptoCardSaid : Prop := Claim7.holds Tryz.pinned (.plain (OpenSpec.upto scanRangesSpec)) scanRangesUptoCard

/-- THE SECOND FORM's CARD OF 'punnetlaw14.ScanParts'. -/
def scanPartsUptoCard : Claim7 := { stood := { row := scanPartsUptoRow, standIns := [], harness := (true, "0113322355a26426d2504860e9999aa3d58530319f52bd3b5e8025301bf88d96"), looks := false }, kinds := [], alts := [], laidByText := true, laidKinds := [.data, .data], laidTests := true, laidLooks := .later }
def ScanPartsUptoCardSaid : Prop := Claim7.holds Tryz.pinned (.plain (OpenSpec.upto scanPartsSpec)) scanPartsUptoCard

/-- THE SECOND FORM's CARD OF 'punnetlaw14.ScanFew'. -/
def scanFewUptoCard : Claim7 := { stood := { row := scanFewUptoRow, standIns := [], harness := (true, "0113322355a26426d2504860e9999aa3d58530319f52bd3b5e8025301bf88d96"), looks := false }, kinds := [], alts := [], laidByText := true, laidKinds := [.data, .data], laidTests := true, laidLooks := .later }
def ScanFewUptoCardSaid : Prop := Claim7.holds Tryz.pinned (.plain (OpenSpec.upto scanFewSpec)) scanFewUptoCard

/-- THE SECOND FORM's CARD OF 'punnetlaw14.ScanNil'. -/
def scanNilUptoCard : Claim7 := { stood := { row := scanNilUptoRow, standIns := [], harness := (true, "0113322355a26426d2504860e9999aa3d58530319f52bd3b5e8025301bf88d96"), looks := false }, kinds := [], alts := [], laidByText := true, laidKinds := [.data, .data], laidTests := true, laidLooks := .later }
def ScanNilUptoCardSaid : Prop := Claim7.holds Tryz.pinned (.plain (OpenSpec.upto scanNilSpec)) scanNilUptoCard

/-- THE SECOND FORM's CARD OF 'punnetlaw15.RankBetween'. -/
def rankBetweenUptoCard : Claim7 := { stood := { row := rankBetweenUptoRow, standIns := [], harness := (true, "0113322355a26426d2504860e9999aa3d58530319f52bd3b5e8025301bf88d96"), looks := false }, kinds := [], alts := [], laidByText := true, laidKinds := [.data, .data], laidTests := true, laidLooks := .later }
def RankBetweenUptoCardSaid : Prop := Claim7.holds Tryz.pinned (.plain (OpenSpec.upto rankBetweenSpec)) rankBetweenUptoCard

/-- THE SECOND FORM's CARD OF 'punnetlaw16.BulkThree'. -/
def bulkThreeUptoCard : Claim7 := { stood := { row := bulkThreeUptoRow, standIns := [], harness := (true, "0113322355a26426d2504860e9999aa3d58530319f52bd3b5e8025301bf88d96"), looks := false }, kinds := [], alts := [], laidByText := true, laidKinds := [.data, .data], laidTests := true, laidLooks := .later }
def BulkThreeUptoCardSaid : Prop := Claim7.holds Tryz.pinned (.plain (OpenSpec.upto bulkThreeSpec)) bulkThreeUptoCard

/-- THE SECOND FORM's CARD OF 'punnetlaw16.BulkLaws'. -/
def bulkLawsUptoCard : Claim7 := { stood := { row := bulkLawsUptoRow, standIns := [], harness := (true, "0113322355a26426d2504860e9999aa3d58530319f52bd3b5e8025301bf88d96"), looks := false }, kinds := [], alts := [], laidByText := true, laidKinds := [.data, .data], laidTests := true, laidLooks := .later }
def BulkLawsUptoCardSaid : Prop := Claim7.holds Tryz.pinned (.plain (OpenSpec.upto bulkLawsSpec)) bulkLawsUptoCard

/-- THE SECOND FORM's CARD OF 'punnetlaw16.BulkSteps'. -/
def bulkStepsUptoCard : Claim7 := { stood := { row := bulkStepsUptoRow, standIns := [], harness := (true, "0113322355a26426d2504860e9999aa3d58530319f52bd3b5e8025301bf88d96"), looks := false }, kinds := [], alts := [], laidByText := true, laidKinds := [.data, .data], laidTests := true, laidLooks := .later }
def BulkStepsUptoCardSaid : Prop := Claim7.holds Tryz.pinned (.plain (OpenSpec.upto bulkStepsSpec)) bulkStepsUptoCard
end Rows
end Go.Proofs.YtechphliifginaaGreatDoor
