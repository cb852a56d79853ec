/-
  DERIVED. GIVEN WITH THE SEED: THE CARDS: each row of YtonoaklajnfmiaaDoorRows.lean that lists a variable, with what it lists TIED to the program's text (the seventh form; the later family's looks); each row that meets fmt, with fmt's text TOLD by the authors' own Lean function (tested against real Go, not proved from fmt's source: count such statements apart). THE CARD IS WHAT COUNTS. Prove the row's statement (the work); the ties are given (YtonoaklajnfmiaaDoorTie.lean); close each card by the builder's one call (the guide's Derived/Test/ToyasCard.lean, 'card_holds'). Laid BY PROGRAM, IN A SANDBOX (cutbox-door.mjs). By AI agents, Wed Nov 11 2026. No macro, syntax, notation, axiom, sorry.
-/
import Derived.Test.YtonoaklajnfmiaaDoorRows
import GoSem.ClaimSeven
namespace Go.Proofs.YtonoaklajnfmiaaDoor
namespace Rows

/-- THE TIED CARD OF 'punnetlaw22.AuditTurns'. -/
def auditTurnsCard : Claim7 := { stood := { row := auditTurnsRow, standIns := [], harness := (true, "5e2b70a4a6cae9dcd85f39c0d1ab6b2bb3754d2e0ee18c4bbc3c8fdb64ea408f"), looks := false }, kinds := [], alts := [], laidByText := true, laidKinds := [.data], laidTests := true, laidLooks := .later }
def AuditTurnsCardSaid : Prop := Claim7.holds Tryd.pinned (.plain (OpenSpec.ofChange auditTurnsSpec)) auditTurnsCard

/-- THE TIED CARD OF 'punnetlaw22.AuditRows'. -/
def auditRowsCard : Claim7 := { stood := { row := auditRowsRow, standIns := [], harness := (true, "5e2b70a4a6cae9dcd85f39c0d1ab6b2bb3754d2e0ee18c4bbc3c8fdb64ea408f"), looks := false }, kinds := [], alts := [], laidByText := true, laidKinds := [.data], laidTests := true, laidLooks := .later }
def AuditRowsCardSaid : Prop := Claim7.holds Tryd.pinned (.plain (OpenSpec.ofChange auditRowsSpec)) auditRowsCard

/-- THE TIED CARD OF 'punnetlaw22.AuditSteps'. -/
def auditStepsCard : Claim7 := { stood := { row := auditStepsRow, standIns := [], harness := (true, "5e2b70a4a6cae9dcd85f39c0d1ab6b2bb3754d2e0ee18c4bbc3c8fdb64ea408f"), looks := false }, kinds := [], alts := [], laidByText := true, laidKinds := [.data], laidTests := true, laidLooks := .later }
def AuditStepsCardSaid : Prop := Claim7.holds Tryd.pinned (.plain (OpenSpec.ofChange auditStepsSpec)) auditStepsCard

/-- THE TIED CARD OF 'punnetlaw22.AuditTables'. -/
def auditTablesCard : Claim7 := { stood := { row := auditTablesRow, standIns := [], harness := (true, "5e2b70a4a6cae9dcd85f39c0d1ab6b2bb3754d2e0ee18c4bbc3c8fdb64ea408f"), looks := false }, kinds := [], alts := [], laidByText := true, laidKinds := [.data], laidTests := true, laidLooks := .later }
def AuditTablesCardSaid : Prop := Claim7.holds Tryd.pinned (.plain (OpenSpec.ofChange auditTablesSpec)) auditTablesCard

/-- THE SECOND FORM's CARD OF 'punnetlaw22.AuditTurns'. -/
def auditTurnsUptoCard : Claim7 := { stood := { row := auditTurnsUptoRow, standIns := [], harness := (true, "5e2b70a4a6cae9dcd85f39c0d1ab6b2bb3754d2e0ee18c4bbc3c8fdb64ea408f"), looks := false }, kinds := [], alts := [], laidByText := true, laidKinds := [.data], laidTests := true, laidLooks := .later }
def AuditTurnsUptoCardSaid : Prop := Claim7.holds Tryd.pinned (.plain (OpenSpec.upto auditTurnsSpec)) auditTurnsUptoCard

/-- THE SECOND FORM's CARD OF 'punnetlaw22.AuditRows'. -/
def auditRowsUptoCard : Claim7 := { stood := { row := auditRowsUptoRow, standIns := [], harness := (true, "5e2b70a4a6cae9dcd85f39c0d1ab6b2bb3754d2e0ee18c4bbc3c8fdb64ea408f"), looks := false }, kinds := [], alts := [], laidByText := true, laidKinds := [.data], laidTests := true, laidLooks := .later }
def AuditRowsUptoCardSaid : Prop := Claim7.holds Tryd.pinned (.plain (OpenSpec.upto auditRowsSpec)) auditRowsUptoCard

/-- THE SECOND FORM's CARD OF 'punnetlaw22.AuditSteps'. -/
def auditStepsUptoCard : Claim7 := { stood := { row := auditStepsUptoRow, standIns := [], harness := (true, "5e2b70a4a6cae9dcd85f39c0d1ab6b2bb3754d2e0ee18c4bbc3c8fdb64ea408f"), looks := false }, kinds := [], alts := [], laidByText := true, laidKinds := [.data], laidTests := true, laidLooks := .later }
def AuditStepsUptoCardSaid : Prop := Claim7.holds Tryd.pinned (.plain (OpenSpec.upto auditStepsSpec)) auditStepsUptoCard

/-- THE SECOND FORM's CARD OF 'punnetlaw22.AuditTables'. -/
def auditTablesUptoCard : Claim7 := { stood := { row := auditTablesUptoRow, standIns := [], harness := (true, "5e2b70a4a6cae9dcd85f39c0d1ab6b2bb3754d2e0ee18c4bbc3c8fdb64ea408f"), looks := false }, kinds := [], alts := [], laidByText := true, laidKinds := [.data], laidTests := true, laidLooks := .later }
def AuditTablesUptoCardSaid : Prop := Claim7.holds Tryd.pinned (.plain (OpenSpec.upto auditTablesSpec)) auditTablesUptoCard
end Rows
end Go.Proofs.YtonoaklajnfmiaaDoor
