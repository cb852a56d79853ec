/-
  DERIVED. GIVEN WITH THE SEED: THE CARDS: each row of YtanefeeneladnaaDoorRows.lean that lists a variable, with what it lists TIED to the program's text (the seventh form; the later family's looks); each row that meets fmt, with fmt's text TOLD by the authors' own Lean function (tested against real Go, not proved from fmt's source: count such statements apart). THE CARD IS WHAT COUNTS. Prove the row's statement (the work); the ties are given (YtanefeeneladnaaDoorTie.lean); close each card by the builder's one call (the guide's Derived/Test/ToyasCard.lean, 'card_holds'). Laid BY PROGRAM, IN A SANDBOX (cutbox-door.mjs). By AI agents, Wed Nov 11 2026. No macro, syntax, notation, axiom, sorry.
-/
import Derived.Test.YtanefeeneladnaaDoorRows
import GoSem.ClaimSeven
namespace Go.Proofs.YtanefeeneladnaaDoor
namespace Rows

/-- THE TIED CARD OF 'punnetlaw09.PmaFollows'. -/
def pmaFollowsCard : Claim7 := { stood := { row := pmaFollowsRow, standIns := [], harness := (true, "5e986a0eec13d81bccb5a2381a87f01d83af71eeda3d9345b12fc3f825dd9dbf"), looks := false }, kinds := [], alts := [], laidByText := true, laidKinds := [.data, .data], laidTests := true, laidLooks := .later }
def PmaFollowsCardSaid : Prop := Claim7.holds Tryd.pinned (.plain (OpenSpec.ofChange pmaFollowsSpec)) pmaFollowsCard

/-- THE TIED CARD OF 'punnetlaw09.PmaFull'. -/
def pmaFullCard : Claim7 := { stood := { row := pmaFullRow, standIns := [], harness := (true, "5e986a0eec13d81bccb5a2381a87f01d83af71eeda3d9345b12fc3f825dd9dbf"), looks := false }, kinds := [], alts := [], laidByText := true, laidKinds := [.data, .data], laidTests := true, laidLooks := .later }
def PmaFullCardSaid : Prop := Claim7.holds Tryd.pinned (.plain (OpenSpec.ofChange pmaFullSpec)) pmaFullCard

/-- THE TIED CARD OF 'punnetlaw09.PmaList'. -/
def pmaListCard : Claim7 := { stood := { row := pmaListRow, standIns := [], harness := (true, "5e986a0eec13d81bccb5a2381a87f01d83af71eeda3d9345b12fc3f825dd9dbf"), looks := false }, kinds := [], alts := [], laidByText := true, laidKinds := [.data, .data], laidTests := true, laidLooks := .later }
def PmaListCardSaid : Prop := Claim7.holds Tryd.pinned (.plain (OpenSpec.ofChange pmaListSpec)) pmaListCard

/-- THE TIED CARD OF 'punnetlaw09.PmaLocal'. -/
def pmaLocalCard : Claim7 := { stood := { row := pmaLocalRow, standIns := [], harness := (true, "5e986a0eec13d81bccb5a2381a87f01d83af71eeda3d9345b12fc3f825dd9dbf"), looks := false }, kinds := [], alts := [], laidByText := true, laidKinds := [.data, .data], laidTests := true, laidLooks := .later }
def PmaLocalCardSaid : Prop := Claim7.holds Tryd.pinned (.plain (OpenSpec.ofChange pmaLocalSpec)) pmaLocalCard

/-- THE SECOND FORM's CARD OF 'punnetlaw09.PmaFollows'. -/
def pmaFollowsUptoCard : Claim7 := { stood := { row := pmaFollowsUptoRow, standIns := [], harness := (true, "5e986a0eec13d81bccb5a2381a87f01d83af71eeda3d9345b12fc3f825dd9dbf"), looks := false }, kinds := [], alts := [], laidByText := true, laidKinds := [.data, .data], laidTests := true, laidLooks := .later }
def PmaFollowsUptoCardSaid : Prop := Claim7.holds Tryd.pinned (.plain (OpenSpec.upto pmaFollowsSpec)) pmaFollowsUptoCard

/-- THE SECOND FORM's CARD OF 'punnetlaw09.PmaFull'. -/
def pmaFullUptoCard : Claim7 := { stood := { row := pmaFullUptoRow, standIns := [], harness := (true, "5e986a0eec13d81bccb5a2381a87f01d83af71eeda3d9345b12fc3f825dd9dbf"), looks := false }, kinds := [], alts := [], laidByText := true, laidKinds := [.data, .data], laidTests := true, laidLooks := .later }
def PmaFullUptoCardSaid : Prop := Claim7.holds Tryd.pinned (.plain (OpenSpec.upto pmaFullSpec)) pmaFullUptoCard

/-- THE SECOND FORM's CARD OF 'punnetlaw09.PmaList'. -/
def pmaListUptoCard : Claim7 := { stood := { row := pmaListUptoRow, standIns := [], harness := (true, "5e986a0eec13d81bccb5a2381a87f01d83af71eeda3d9345b12fc3f825dd9dbf"), looks := false }, kinds := [], alts := [], laidByText := true, laidKinds := [.data, .data], laidTests := true, laidLooks := .later }
def PmaListUptoCardSaid : Prop := Claim7.holds Tryd.pinned (.plain (OpenSpec.upto pmaListSpec)) pmaListUptoCard

/-- THE SECOND FORM's CARD OF 'punnetlaw09.PmaLocal'. -/
def pmaLocalUptoCard : Claim7 := { stood := { row := pmaLocalUptoRow, standIns := [], harness := (true, "5e986a0eec13d81bccb5a2381a87f01d83af71eeda3d9345b12fc3f825dd9dbf"), looks := false }, kinds := [], alts := [], laidByText := true, laidKinds := [.data, .data], laidTests := true, laidLooks := .later }
def PmaLocalUptoCardSaid : Prop := Claim7.holds Tryd.pinned (.plain (OpenSpec.upto pmaLocalSpec)) pmaLocalUptoCard
end Rows
end Go.Proofs.YtanefeeneladnaaDoor
