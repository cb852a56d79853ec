/-
  DERIVED. GIVEN WITH THE SEED: THE CARDS: each row of YtogjfaiidciedaaGreatDoorRows.lean that lists a variable, with what it lists TIED to the program's text (the seventh form; the later family's looks); each row that meets fmt, with fmt's text TOLD by the authors' own Lean function (tested against real Go, not proved from fmt's source: count such statements apart). THE CARD IS WHAT COUNTS. Prove the row's statement (the work); the ties are given (YtogjfaiidciedaaGreatDoorTie.lean); close each card by the builder's one call (the guide's Derived/Test/ToyasCard.lean, 'card_holds'). Laid BY PROGRAM, IN A SANDBOX (cutbox-door.mjs). By AI agents, Wed Nov 11 2026. No macro, syntax, notation, axiom, sorry.
-/
import Derived.Test.YtogjfaiidciedaaGreatDoorRows
import GoSem.ClaimSeven
namespace Go.Proofs.YtogjfaiidciedaaGreatDoor
namespace Rows

/-- THE TIED CARD OF 'punnetlaw13.OrderBefore'. -/
def orderBeforeCard : Claim7 := { stood := { row := orderBeforeRow, standIns := [], harness := (true, "730bc9e0cf04b7f83ec35cf5bc1bdcbb275272eab447a9a5da8f05d7d89d41a4"), looks := true }, kinds := [], alts := [], laidByText := true, laidKinds := [.data, .data], laidTests := true, laidLooks := .later }
def OrderBeforeCardSaid : Prop := Claim7.holds Tryz.pinned (.plain (OpenSpec.ofChange orderBeforeSpec)) orderBeforeCard

/-- THE TIED CARD OF 'punnetlaw13.OrderStale'. -/
def orderStaleCard : Claim7 := { stood := { row := orderStaleRow, standIns := [], harness := (true, "730bc9e0cf04b7f83ec35cf5bc1bdcbb275272eab447a9a5da8f05d7d89d41a4"), looks := true }, kinds := [], alts := [], laidByText := true, laidKinds := [.data, .data], laidTests := true, laidLooks := .later }
def OrderStaleCardSaid : Prop := Claim7.holds Tryz.pinned (.plain (OpenSpec.ofChange orderStaleSpec)) orderStaleCard

/-- THE TIED CARD OF 'punnetlaw13.OrderModel'. -/
def orderModelCard : Claim7 := { stood := { row := orderModelRow, standIns := [], harness := (true, "730bc9e0cf04b7f83ec35cf5bc1bdcbb275272eab447a9a5da8f05d7d89d41a4"), looks := true }, kinds := [], alts := [], laidByText := true, laidKinds := [.data, .data], laidTests := true, laidLooks := .later }
def OrderModelCardSaid : Prop := Claim7.holds Tryz.pinned (.plain (OpenSpec.ofChange orderModelSpec)) orderModelCard

/-- THE TIED CARD OF 'punnetlaw13.OrderFull'. -/
def orderFullCard : Claim7 := { stood := { row := orderFullRow, standIns := [], harness := (true, "730bc9e0cf04b7f83ec35cf5bc1bdcbb275272eab447a9a5da8f05d7d89d41a4"), looks := true }, kinds := [], alts := [], laidByText := true, laidKinds := [.data, .data], laidTests := true, laidLooks := .later }
def OrderFullCardSaid : Prop := Claim7.holds Tryz.pinned (.plain (OpenSpec.ofChange orderFullSpec)) orderFullCard

/-- THE TIED CARD OF 'punnetlaw13.OrderTable'. -/
def orderTableCard : Claim7 := { stood := { row := orderTableRow, standIns := [], harness := (true, "730bc9e0cf04b7f83ec35cf5bc1bdcbb275272eab447a9a5da8f05d7d89d41a4"), looks := true }, kinds := [], alts := [], laidByText := true, laidKinds := [.data, .data], laidTests := true, laidLooks := .later }
def OrderTableCardSaid : Prop := Claim7.holds Tryz.pinned (.plain (OpenSpec.ofChange orderTableSpec)) orderTableCard

/-- THE TIED CARD OF 'punnetlaw13.OrderOwn'. -/
def orderOwnCard : Claim7 := { stood := { row := orderOwnRow, standIns := [], harness := (true, "730bc9e0cf04b7f83ec35cf5bc1bdcbb275272eab447a9a5da8f05d7d89d41a4"), looks := true }, kinds := [], alts := [], laidByText := true, laidKinds := [.data, .data], laidTests := true, laidLooks := .later }
def OrderOwnCardSaid : Prop := Claim7.holds Tryz.pinned (.plain (OpenSpec.ofChange orderOwnSpec)) orderOwnCard

/-- THE SECOND FORM's CARD OF 'punnetlaw13.OrderBefore'. -/
def orderBeforeUptoCard : Claim7 := { stood := { row := orderBeforeUptoRow, standIns := [], harness := (true, "730bc9e0cf04b7f83ec35cf5bc1bdcbb275272eab447a9a5da8f05d7d89d41a4"), looks := true }, kinds := [], alts := [], laidByText := true, laidKinds := [.data, .data], laidTests := true, laidLooks := .later }
def OrderBeforeUptoCardSaid : Prop := Claim7.holds Tryz.pinned (.plain (OpenSpec.upto orderBeforeSpec)) orderBeforeUptoCard

/-- THE SECOND FORM's CARD OF 'punnetlaw13.OrderStale'. -/
def orderStaleUptoCard : Claim7 := { stood := { row := orderStaleUptoRow, standIns := [], harness := (true, "730bc9e0cf04b7f83ec35cf5bc1bdcbb275272eab447a9a5da8f05d7d89d41a4"), looks := true }, kinds := [], alts := [], laidByText := true, laidKinds := [.data, .data], laidTests := true, laidLooks := .later }
def OrderStaleUptoCardSaid : Prop := Claim7.holds Tryz.pinned (.plain (OpenSpec.upto orderStaleSpec)) orderStaleUptoCard

/-- THE SECOND FORM's CARD OF 'punnetlaw13.OrderModel'. -/
def orderModelUptoCard : Claim7 := { stood := { row := orderModelUptoRow, standIns := [], harness := (true, "730bc9e0cf04b7f83ec35cf5bc1bdcbb275272eab447a9a5da8f05d7d89d41a4"), looks := true }, kinds := [], alts := [], laidByText := true, laidKinds := [.data, .data], laidTests := true, laidLooks := .later }
def OrderModelUptoCardSaid : Prop := Claim7.holds Tryz.pinned (.plain (OpenSpec.upto orderModelSpec)) orderModelUptoCard

/-- THE SECOND FORM's CARD OF 'punnetlaw13.OrderFull'. -/
def orderFullUptoCard : Claim7 := { stood := { row := orderFullUptoRow, standIns := [], harness := (true, "730bc9e0cf04b7f83ec35cf5bc1bdcbb275272eab447a9a5da8f05d7d89d41a4"), looks := true }, kinds := [], alts := [], laidByText := true, laidKinds := [.data, .data], laidTests := true, laidLooks := .later }
def OrderFullUptoCardSaid : Prop := Claim7.holds Tryz.pinned (.plain (OpenSpec.upto orderFullSpec)) orderFullUptoCard

/-- THE SECOND FORM's CARD OF 'punnetlaw13.OrderTable'. -/
def orderTableUptoCard : Claim7 := { stood := { row := orderTableUptoRow, standIns := [], harness := (true, "730bc9e0cf04b7f83ec35cf5bc1bdcbb275272eab447a9a5da8f05d7d89d41a4"), looks := true }, kinds := [], alts := [], laidByText := true, laidKinds := [.data, .data], laidTests := true, laidLooks := .later }
def OrderTableUptoCardSaid : Prop := Claim7.holds Tryz.pinned (.plain (OpenSpec.upto orderTableSpec)) orderTableUptoCard

/-- THE SECOND FORM's CARD OF 'punnetlaw13.OrderOwn'. -/
def orderOwnUptoCard : Claim7 := { stood := { row := orderOwnUptoRow, standIns := [], harness := (true, "730bc9e0cf04b7f83ec35cf5bc1bdcbb275272eab447a9a5da8f05d7d89d41a4"), looks := true }, kinds := [], alts := [], laidByText := true, laidKinds := [.data, .data], laidTests := true, laidLooks := .later }
def OrderOwnUptoCardSaid : Prop := Claim7.holds Tryz.pinned (.plain (OpenSpec.upto orderOwnSpec)) orderOwnUptoCard
end Rows
end Go.Proofs.YtogjfaiidciedaaGreatDoor
