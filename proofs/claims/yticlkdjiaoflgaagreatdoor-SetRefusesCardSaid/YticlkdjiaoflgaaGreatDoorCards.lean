/-
  DERIVED. GIVEN WITH THE SEED: THE CARDS: each row of YticlkdjiaoflgaaGreatDoorRows.lean that lists a variable, with what it lists TIED to the program's text (the seventh form; the later family's looks); each row that meets fmt, with fmt's text TOLD by the authors' own Lean function (tested against real Go, not proved from fmt's source: count such statements apart). THE CARD IS WHAT COUNTS. Prove the row's statement (the work); the ties are given (YticlkdjiaoflgaaGreatDoorTie.lean); close each card by the builder's one call (the guide's Derived/Test/ToyasCard.lean, 'card_holds'). Laid BY PROGRAM, IN A SANDBOX (cutbox-door.mjs). By AI agents, Wed Nov 11 2026. No macro, syntax, notation, axiom, sorry.
-/
import Derived.Test.YticlkdjiaoflgaaGreatDoorRows
import GoSem.ClaimSeven
namespace Go.Proofs.YticlkdjiaoflgaaGreatDoor
namespace Rows

/-- THE TIED CARD OF 'punnetlaw11.SetBeside'. -/
def setBesideCard : Claim7 := { stood := { row := setBesideRow, standIns := [], harness := (true, "4658a30a16b1234e22c8bc77372ec5a08f0510bae17dd90eb9a14e9bf2cddb0d"), looks := false }, kinds := [], alts := [], laidByText := true, laidKinds := [.data, .data], laidTests := true, laidLooks := .later }
def SetBesideCardSaid : Prop := Claim7.holds Tryz.pinned (.plain (OpenSpec.ofChange setBesideSpec)) setBesideCard

/-- THE TIED CARD OF 'punnetlaw11.SetModel'. -/
def setModelCard : Claim7 := { stood := { row := setModelRow, standIns := [], harness := (true, "4658a30a16b1234e22c8bc77372ec5a08f0510bae17dd90eb9a14e9bf2cddb0d"), looks := false }, kinds := [], alts := [], laidByText := true, laidKinds := [.data, .data], laidTests := true, laidLooks := .later }
def SetModelCardSaid : Prop := Claim7.holds Tryz.pinned (.plain (OpenSpec.ofChange setModelSpec)) setModelCard

/-- THE TIED CARD OF 'punnetlaw11.SetFull'. -/
def setFullCard : Claim7 := { stood := { row := setFullRow, standIns := [], harness := (true, "4658a30a16b1234e22c8bc77372ec5a08f0510bae17dd90eb9a14e9bf2cddb0d"), looks := false }, kinds := [], alts := [], laidByText := true, laidKinds := [.data, .data], laidTests := true, laidLooks := .later }
def SetFullCardSaid : Prop := Claim7.holds Tryz.pinned (.plain (OpenSpec.ofChange setFullSpec)) setFullCard

/-- THE TIED CARD OF 'punnetlaw11.SetOf'. -/
def setOfCard : Claim7 := { stood := { row := setOfRow, standIns := [], harness := (true, "4658a30a16b1234e22c8bc77372ec5a08f0510bae17dd90eb9a14e9bf2cddb0d"), looks := false }, kinds := [], alts := [], laidByText := true, laidKinds := [.data, .data], laidTests := true, laidLooks := .later }
def SetOfCardSaid : Prop := Claim7.holds Tryz.pinned (.plain (OpenSpec.ofChange setOfSpec)) setOfCard

/-- THE TIED CARD OF 'punnetlaw11.SetOrder'. -/
def setOrderCard : Claim7 := { stood := { row := setOrderRow, standIns := [], harness := (true, "4658a30a16b1234e22c8bc77372ec5a08f0510bae17dd90eb9a14e9bf2cddb0d"), looks := false }, kinds := [], alts := [], laidByText := true, laidKinds := [.data, .data], laidTests := true, laidLooks := .later }
def SetOrderCardSaid : Prop := Claim7.holds Tryz.pinned (.plain (OpenSpec.ofChange setOrderSpec)) setOrderCard

/-- THE TIED CARD OF 'punnetlaw11.SetPlays'. -/
def setPlaysCard : Claim7 := { stood := { row := setPlaysRow, standIns := [], harness := (true, "4658a30a16b1234e22c8bc77372ec5a08f0510bae17dd90eb9a14e9bf2cddb0d"), looks := false }, kinds := [], alts := [], laidByText := true, laidKinds := [.data, .data], laidTests := true, laidLooks := .later }
def SetPlaysCardSaid : Prop := Claim7.holds Tryz.pinned (.plain (OpenSpec.ofChange setPlaysSpec)) setPlaysCard

/-- THE TIED CARD OF 'punnetlaw11.SetRefuses'. -/
def setRefusesCard : Claim7 := { stood := { row := setRefusesRow, standIns := [], harness := (true, "4658a30a16b1234e22c8bc77372ec5a08f0510bae17dd90eb9a14e9bf2cddb0d"), looks := false }, kinds := [], alts := [], laidByText := true, laidKinds := [.data, .data], laidTests := true, laidLooks := .later }
def SetRefusesCardSaid : Prop := Claim7.holds Tryz.pinned (.plain (OpenSpec.ofChange setRefusesSpec)) setRefusesCard

/-- THE SECOND FORM's CARD OF 'punnetlaw11.SetBeside'. -/
def setBesideUptoCard : Claim7 := { stood := { row := setBesideUptoRow, standIns := [], harness := (true, "4658a30a16b1234e22c8bc77372ec5a08f0510bae17dd90eb9a14e9bf2cddb0d"), looks := false }, kinds := [], alts := [], laidByText := true, laidKinds := [.data, .data], laidTests := true, laidLooks := .later }
def SetBesideUptoCardSaid : Prop := Claim7.holds Tryz.pinned (.plain (OpenSpec.upto setBesideSpec)) setBesideUptoCard

/-- THE SECOND FORM's CARD OF 'punnetlaw11.SetModel'. -/
def setModelUptoCard : Claim7 := { stood := { row := setModelUptoRow, standIns := [], harness := (true, "4658a30a16b1234e22c8bc77372ec5a08f0510bae17dd90eb9a14e9bf2cddb0d"), looks := false }, kinds := [], alts := [], laidByText := true, laidKinds := [.data, .data], laidTests := true, laidLooks := .later }
def SetModelUptoCardSaid : Prop := Claim7.holds Tryz.pinned (.plain (OpenSpec.upto setModelSpec)) setModelUptoCard

/-- THE SECOND FORM's CARD OF 'punnetlaw11.SetFull'. -/
def setFullUptoCard : Claim7 := { stood := { row := setFullUptoRow, standIns := [], harness := (true, "4658a30a16b1234e22c8bc77372ec5a08f0510bae17dd90eb9a14e9bf2cddb0d"), looks := false }, kinds := [], alts := [], laidByText := true, laidKinds := [.data, .data], laidTests := true, laidLooks := .later }
def SetFullUptoCardSaid : Prop := Claim7.holds Tryz.pinned (.plain (OpenSpec.upto setFullSpec)) setFullUptoCard

/-- THE SECOND FORM's CARD OF 'punnetlaw11.SetOf'. -/
def setOfUptoCard : Claim7 := { stood := { row := setOfUptoRow, standIns := [], harness := (true, "4658a30a16b1234e22c8bc77372ec5a08f0510bae17dd90eb9a14e9bf2cddb0d"), looks := false }, kinds := [], alts := [], laidByText := true, laidKinds := [.data, .data], laidTests := true, laidLooks := .later }
def SetOfUptoCardSaid : Prop := Claim7.holds Tryz.pinned (.plain (OpenSpec.upto setOfSpec)) setOfUptoCard

/-- THE SECOND FORM's CARD OF 'punnetlaw11.SetOrder'. -/
def setOrderUptoCard : Claim7 := { stood := { row := setOrderUptoRow, standIns := [], harness := (true, "4658a30a16b1234e22c8bc77372ec5a08f0510bae17dd90eb9a14e9bf2cddb0d"), looks := false }, kinds := [], alts := [], laidByText := true, laidKinds := [.data, .data], laidTests := true, laidLooks := .later }
def SetOrderUptoCardSaid : Prop := Claim7.holds Tryz.pinned (.plain (OpenSpec.upto setOrderSpec)) setOrderUptoCard

/-- THE SECOND FORM's CARD OF 'punnetlaw11.SetPlays'. -/
def setPlaysUptoCard : Claim7 := { stood := { row := setPlaysUptoRow, standIns := [], harness := (true, "4658a30a16b1234e22c8bc77372ec5a08f0510bae17dd90eb9a14e9bf2cddb0d"), looks := false }, kinds := [], alts := [], laidByText := true, laidKinds := [.data, .data], laidTests := true, laidLooks := .later }
def SetPlaysUptoCardSaid : Prop := Claim7.holds Tryz.pinned (.plain (OpenSpec.upto setPlaysSpec)) setPlaysUptoCard

/-- THE SECOND FORM's CARD OF 'punnetlaw11.SetRefuses'. -/
def setRefusesUptoCard : Claim7 := { stood := { row := setRefusesUptoRow, standIns := [], harness := (true, "4658a30a16b1234e22c8bc77372ec5a08f0510bae17dd90eb9a14e9bf2cddb0d"), looks := false }, kinds := [], alts := [], laidByText := true, laidKinds := [.data, .data], laidTests := true, laidLooks := .later }
def SetRefusesUptoCardSaid : Prop := Claim7.holds Tryz.pinned (.plain (OpenSpec.upto setRefusesSpec)) setRefusesUptoCard
end Rows
end Go.Proofs.YticlkdjiaoflgaaGreatDoor
