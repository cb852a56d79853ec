/-
  DERIVED. GIVEN WITH THE SEED: THE CARDS: each row of YtmbkmojekpkfhaaGreatDoorRows.lean that lists a variable, with what it lists TIED to the program's text (the seventh form; the later family's looks); each row that meets fmt, with fmt's text TOLD by the authors' own Lean function (tested against real Go, not proved from fmt's source: count such statements apart). THE CARD IS WHAT COUNTS. Prove the row's statement (the work); the ties are given (YtmbkmojekpkfhaaGreatDoorTie.lean); close each card by the builder's one call (the guide's Derived/Test/ToyasCard.lean, 'card_holds'). Laid BY PROGRAM, IN A SANDBOX (cutbox-door.mjs). By AI agents, Wed Nov 11 2026. No macro, syntax, notation, axiom, sorry.
-/
import Derived.Test.YtmbkmojekpkfhaaGreatDoorRows
import GoSem.ClaimSeven
namespace Go.Proofs.YtmbkmojekpkfhaaGreatDoor
namespace Rows

/-- THE TIED CARD OF 'punnetlaw09.PmaTells'. -/
def pmaTellsCard : Claim7 := { stood := { row := pmaTellsRow, standIns := [], harness := (true, "090fae922392b64d8e9f018d5a24fb699b9f9fc2c39f86cc6090b880e6fe5232"), looks := false }, kinds := [], alts := [], laidByText := true, laidKinds := [.data, .data], laidTests := true, laidLooks := .later }
def PmaTellsCardSaid : Prop := Claim7.holds Tryz.pinned (.plain (OpenSpec.ofChange pmaTellsSpec)) pmaTellsCard

/-- THE TIED CARD OF 'punnetlaw09.PmaBounds'. -/
def pmaBoundsCard : Claim7 := { stood := { row := pmaBoundsRow, standIns := [], harness := (true, "090fae922392b64d8e9f018d5a24fb699b9f9fc2c39f86cc6090b880e6fe5232"), looks := false }, kinds := [], alts := [], laidByText := true, laidKinds := [.data, .data], laidTests := true, laidLooks := .later }
def PmaBoundsCardSaid : Prop := Claim7.holds Tryz.pinned (.plain (OpenSpec.ofChange pmaBoundsSpec)) pmaBoundsCard

/-- THE TIED CARD OF 'punnetlaw15.RankRanks'. -/
def rankRanksCard : Claim7 := { stood := { row := rankRanksRow, standIns := [], harness := (true, "090fae922392b64d8e9f018d5a24fb699b9f9fc2c39f86cc6090b880e6fe5232"), looks := false }, kinds := [], alts := [], laidByText := true, laidKinds := [.data, .data], laidTests := true, laidLooks := .later }
def RankRanksCardSaid : Prop := Claim7.holds Tryz.pinned (.plain (OpenSpec.ofChange rankRanksSpec)) rankRanksCard

/-- THE TIED CARD OF 'punnetlaw15.RankQuantiles'. -/
def rankQuantilesCard : Claim7 := { stood := { row := rankQuantilesRow, standIns := [], harness := (true, "090fae922392b64d8e9f018d5a24fb699b9f9fc2c39f86cc6090b880e6fe5232"), looks := false }, kinds := [], alts := [], laidByText := true, laidKinds := [.data, .data], laidTests := true, laidLooks := .later }
def RankQuantilesCardSaid : Prop := Claim7.holds Tryz.pinned (.plain (OpenSpec.ofChange rankQuantilesSpec)) rankQuantilesCard

/-- THE TIED CARD OF 'punnetlaw15.RankRises'. -/
def rankRisesCard : Claim7 := { stood := { row := rankRisesRow, standIns := [], harness := (true, "090fae922392b64d8e9f018d5a24fb699b9f9fc2c39f86cc6090b880e6fe5232"), looks := false }, kinds := [], alts := [], laidByText := true, laidKinds := [.data, .data], laidTests := true, laidLooks := .later }
def RankRisesCardSaid : Prop := Claim7.holds Tryz.pinned (.plain (OpenSpec.ofChange rankRisesSpec)) rankRisesCard

/-- THE TIED CARD OF 'punnetlaw15.RankStays'. -/
def rankStaysCard : Claim7 := { stood := { row := rankStaysRow, standIns := [], harness := (true, "090fae922392b64d8e9f018d5a24fb699b9f9fc2c39f86cc6090b880e6fe5232"), looks := false }, kinds := [], alts := [], laidByText := true, laidKinds := [.data, .data], laidTests := true, laidLooks := .later }
def RankStaysCardSaid : Prop := Claim7.holds Tryz.pinned (.plain (OpenSpec.ofChange rankStaysSpec)) rankStaysCard

/-- THE TIED CARD OF 'punnetlaw15.RankBack'. -/
def rankBackCard : Claim7 := { stood := { row := rankBackRow, standIns := [], harness := (true, "090fae922392b64d8e9f018d5a24fb699b9f9fc2c39f86cc6090b880e6fe5232"), looks := false }, kinds := [], alts := [], laidByText := true, laidKinds := [.data, .data], laidTests := true, laidLooks := .later }
def RankBackCardSaid : Prop := Claim7.holds Tryz.pinned (.plain (OpenSpec.ofChange rankBackSpec)) rankBackCard

/-- THE SECOND FORM's CARD OF 'punnetlaw09.PmaTells'. -/
def pmaTellsUptoCard : Claim7 := { stood := { row := pmaTellsUptoRow, standIns := [], harness := (true, "090fae922392b64d8e9f018d5a24fb699b9f9fc2c39f86cc6090b880e6fe5232"), looks := false }, kinds := [], alts := [], laidByText := true, laidKinds := [.data, .data], laidTests := true, laidLooks := .later }
def PmaTellsUptoCardSaid : Prop := Claim7.holds Tryz.pinned (.plain (OpenSpec.upto pmaTellsSpec)) pmaTellsUptoCard

/-- THE SECOND FORM's CARD OF 'punnetlaw09.PmaBounds'. -/
def pmaBoundsUptoCard : Claim7 := { stood := { row := pmaBoundsUptoRow, standIns := [], harness := (true, "090fae922392b64d8e9f018d5a24fb699b9f9fc2c39f86cc6090b880e6fe5232"), looks := false }, kinds := [], alts := [], laidByText := true, laidKinds := [.data, .data], laidTests := true, laidLooks := .later }
def PmaBoundsUptoCardSaid : Prop := Claim7.holds Tryz.pinned (.plain (OpenSpec.upto pmaBoundsSpec)) pmaBoundsUptoCard

/-- THE SECOND FORM's CARD OF 'punnetlaw15.RankRanks'. -/
def rankRanksUptoCard : Claim7 := { stood := { row := rankRanksUptoRow, standIns := [], harness := (true, "090fae922392b64d8e9f018d5a24fb699b9f9fc2c39f86cc6090b880e6fe5232"), looks := false }, kinds := [], alts := [], laidByText := true, laidKinds := [.data, .data], laidTests := true, laidLooks := .later }
def RankRanksUptoCardSaid : Prop := Claim7.holds Tryz.pinned (.plain (OpenSpec.upto rankRanksSpec)) rankRanksUptoCard

/-- THE SECOND FORM's CARD OF 'punnetlaw15.RankQuantiles'. -/
def rankQuantilesUptoCard : Claim7 := { stood := { row := rankQuantilesUptoRow, standIns := [], harness := (true, "090fae922392b64d8e9f018d5a24fb699b9f9fc2c39f86cc6090b880e6fe5232"), looks := false }, kinds := [], alts := [], laidByText := true, laidKinds := [.data, .data], laidTests := true, laidLooks := .later }
def RankQuantilesUptoCardSaid : Prop := Claim7.holds Tryz.pinned (.plain (OpenSpec.upto rankQuantilesSpec)) rankQuantilesUptoCard

/-- THE SECOND FORM's CARD OF 'punnetlaw15.RankRises'. -/
def rankRisesUptoCard : Claim7 := { stood := { row := rankRisesUptoRow, standIns := [], harness := (true, "090fae922392b64d8e9f018d5a24fb699b9f9fc2c39f86cc6090b880e6fe5232"), looks := false }, kinds := [], alts := [], laidByText := true, laidKinds := [.data, .data], laidTests := true, laidLooks := .later }
def RankRisesUptoCardSaid : Prop := Claim7.holds Tryz.pinned (.plain (OpenSpec.upto rankRisesSpec)) rankRisesUptoCard

/-- THE SECOND FORM's CARD OF 'punnetlaw15.RankStays'. -/
def rankStaysUptoCard : Claim7 := { stood := { row := rankStaysUptoRow, standIns := [], harness := (true, "090fae922392b64d8e9f018d5a24fb699b9f9fc2c39f86cc6090b880e6fe5232"), looks := false }, kinds := [], alts := [], laidByText := true, laidKinds := [.data, .data], laidTests := true, laidLooks := .later }
def RankStaysUptoCardSaid : Prop := Claim7.holds Tryz.pinned (.plain (OpenSpec.upto rankStaysSpec)) rankStaysUptoCard

/-- THE SECOND FORM's CARD OF 'punnetlaw15.RankBack'. -/
def rankBackUptoCard : Claim7 := { stood := { row := rankBackUptoRow, standIns := [], harness := (true, "090fae922392b64d8e9f018d5a24fb699b9f9fc2c39f86cc6090b880e6fe5232"), looks := false }, kinds := [], alts := [], laidByText := true, laidKinds := [.data, .data], laidTests := true, laidLooks := .later }
def RankBackUptoCardSaid : Prop := Claim7.holds Tryz.pinned (.plain (OpenSpec.upto rankBackSpec)) rankBackUptoCard
end Rows
end Go.Proofs.YtmbkmojekpkfhaaGreatDoor
