/- Acts of a set. -/
import Derived.Test.YtmbkmojekpkfhaaGreatDoorSJ
set_option linter.unusedVariables false
set_option linter.unusedSimpArgs false
namespace Go.Proofs.YtmbkmojekpkfhaaGreatDoor
open Go.RowKit

/-- An act of a set. -/
structure AcS where
  goes : Bool
  key : Int
end Go.Proofs.YtmbkmojekpkfhaaGreatDoor
