/-
  NARROWER THAN 'FOR EVERY INPUT', by the rows' own cells (each row's printed sentence says how): PmaTells: laid · PmaBounds: laid · RankRanks: laid · RankQuantiles: laid · RankRises: laid · RankStays: laid · RankBack: laid.
  DERIVED. THE GIVEN ROWS OF THIS SEAT. 7 by the template 'for every input the law returns true; each argument reads behind the call as it read before'; 0 by the template 'total and deterministic' (their statements: YtmbkmojekpkfhaaGreatDoorTotals.lean).
  GIVEN WITH THE SEED: the statements are not yours to turn. If you find one false, say at which input.
  Laid BY PROGRAM, IN A SANDBOX (cutbox-rows.mjs): the forced cells as the released guide's own fill.sh prints them over the translation de4cd5da39ae0992… (all of the seat's roots in one cut). By AI agents, Wed Nov 11 2026. No macro, syntax, notation, axiom, sorry.
-/
import Derived.Test.YtmbkmojekpkfhaaGreatDoorChecked
import GoSem.Claim
import GoSem.ClaimJoined
import GoSem.ClaimMapViews
import Derived.JoinedTies
import Derived.KernelRfl
namespace Go.Proofs.YtmbkmojekpkfhaaGreatDoor
/- THE CELL 'sum', in the pinned program and in every row, IS THE sha256 OF THE DUMP (.gsa) THAT YtmbkmojekpkfhaaGreatDoorProg.lean LOADS. Nothing in Lean hashes anything: it is a label: what it is worth is what the hold of that sum in a sandbox is worth. -/
noncomputable def Tryz.pinned : Pinned := { name := "ytmbkmojekpkfhaagreatdoor", sum := "de4cd5da39ae099279a69bb3132b3cb45226a09b62ffa08792737a1d21d1ef47", checked := Tryz.checked }
namespace Rows
def none {H : Type} : Left H := { results := [], args := [] }

/- WHAT THE LISTED PACKAGE-LEVEL VARIABLES READ AS WHEN THE CALL BEGINS. Each datum BY PROGRAM (the guide's laid-datum.mjs) off the statement by which the dump's own 'gosem.cut.vars' lays the variable. In a bare row this is a premise. The card (YtmbkmojekpkfhaaGreatDoorCards.lean) ties it to the program's text. -/
def laid_math_bits_deBruijn32tab {H : Type} : DataW H := .agg [.lit (.int .u8 0), .lit (.int .u8 1), .lit (.int .u8 28), .lit (.int .u8 2), .lit (.int .u8 29), .lit (.int .u8 14), .lit (.int .u8 24), .lit (.int .u8 3), .lit (.int .u8 30), .lit (.int .u8 22), .lit (.int .u8 20), .lit (.int .u8 15), .lit (.int .u8 25), .lit (.int .u8 17), .lit (.int .u8 4), .lit (.int .u8 8), .lit (.int .u8 31), .lit (.int .u8 27), .lit (.int .u8 13), .lit (.int .u8 23), .lit (.int .u8 21), .lit (.int .u8 19), .lit (.int .u8 16), .lit (.int .u8 7), .lit (.int .u8 26), .lit (.int .u8 12), .lit (.int .u8 18), .lit (.int .u8 6), .lit (.int .u8 11), .lit (.int .u8 5), .lit (.int .u8 10), .lit (.int .u8 9)]
def laid_math_bits_deBruijn64tab {H : Type} : DataW H := .agg [.lit (.int .u8 0), .lit (.int .u8 1), .lit (.int .u8 56), .lit (.int .u8 2), .lit (.int .u8 57), .lit (.int .u8 49), .lit (.int .u8 28), .lit (.int .u8 3), .lit (.int .u8 61), .lit (.int .u8 58), .lit (.int .u8 42), .lit (.int .u8 50), .lit (.int .u8 38), .lit (.int .u8 29), .lit (.int .u8 17), .lit (.int .u8 4), .lit (.int .u8 62), .lit (.int .u8 47), .lit (.int .u8 59), .lit (.int .u8 36), .lit (.int .u8 45), .lit (.int .u8 43), .lit (.int .u8 51), .lit (.int .u8 22), .lit (.int .u8 53), .lit (.int .u8 39), .lit (.int .u8 33), .lit (.int .u8 30), .lit (.int .u8 24), .lit (.int .u8 18), .lit (.int .u8 12), .lit (.int .u8 5), .lit (.int .u8 63), .lit (.int .u8 55), .lit (.int .u8 48), .lit (.int .u8 27), .lit (.int .u8 60), .lit (.int .u8 41), .lit (.int .u8 37), .lit (.int .u8 16), .lit (.int .u8 46), .lit (.int .u8 35), .lit (.int .u8 44), .lit (.int .u8 21), .lit (.int .u8 52), .lit (.int .u8 32), .lit (.int .u8 23), .lit (.int .u8 11), .lit (.int .u8 54), .lit (.int .u8 26), .lit (.int .u8 40), .lit (.int .u8 15), .lit (.int .u8 34), .lit (.int .u8 20), .lit (.int .u8 31), .lit (.int .u8 10), .lit (.int .u8 25), .lit (.int .u8 14), .lit (.int .u8 19), .lit (.int .u8 9), .lit (.int .u8 13), .lit (.int .u8 8), .lit (.int .u8 7), .lit (.int .u8 6)]

/-- 'punnetlaw09.PmaTells': WHATEVER THE INPUT: true; the input reads as it did. -/
def pmaTellsSpec : ChangeSpec := { name := "pmaTells", fn := fun _ => fun
  | [d1, d2] => { results := [.lit (.bool true)], args := [d1, d2] }
  | _ => none }
def pmaTellsRow : OpenClaim := { program := "ytmbkmojekpkfhaagreatdoor", sum := "de4cd5da39ae099279a69bb3132b3cb45226a09b62ffa08792737a1d21d1ef47", func := "punnet/punnetlaw09.PmaTells", spec := "pmaTells", unfollowed := true, recurses := true, named := ["math/bits.deBruijn32tab", "math/bits.deBruijn64tab"], apart := false, laid := [("math/bits.deBruijn32tab", laid_math_bits_deBruijn32tab), ("math/bits.deBruijn64tab", laid_math_bits_deBruijn64tab)] }
def PmaTellsSaid : Prop := pmaTellsRow.holds Tryz.pinned (OpenSpec.ofChange pmaTellsSpec)

/-- ITS FALSE NEIGHBOUR: 'it returns false'. Refute it at one input. -/
def pmaTellsWrong : ChangeSpec := { name := "pmaTells", fn := fun _ => fun
  | [d1, d2] => { results := [.lit (.bool false)], args := [d1, d2] }
  | _ => none }
def PmaTellsWrongFalsely : Prop := pmaTellsRow.holds Tryz.pinned (OpenSpec.ofChange pmaTellsWrong)

/-- 'punnetlaw09.PmaBounds': WHATEVER THE INPUT: true; the input reads as it did. -/
def pmaBoundsSpec : ChangeSpec := { name := "pmaBounds", fn := fun _ => fun
  | [d] => { results := [.lit (.bool true)], args := [d] }
  | _ => none }
def pmaBoundsRow : OpenClaim := { program := "ytmbkmojekpkfhaagreatdoor", sum := "de4cd5da39ae099279a69bb3132b3cb45226a09b62ffa08792737a1d21d1ef47", func := "punnet/punnetlaw09.PmaBounds", spec := "pmaBounds", unfollowed := true, recurses := true, named := ["math/bits.deBruijn32tab", "math/bits.deBruijn64tab"], apart := false, laid := [("math/bits.deBruijn32tab", laid_math_bits_deBruijn32tab), ("math/bits.deBruijn64tab", laid_math_bits_deBruijn64tab)] }
def PmaBoundsSaid : Prop := pmaBoundsRow.holds Tryz.pinned (OpenSpec.ofChange pmaBoundsSpec)

/-- ITS FALSE NEIGHBOUR: 'it returns false'. Refute it at one input. -/
def pmaBoundsWrong : ChangeSpec := { name := "pmaBounds", fn := fun _ => fun
  | [d] => { results := [.lit (.bool false)], args := [d] }
  | _ => none }
def PmaBoundsWrongFalsely : Prop := pmaBoundsRow.holds Tryz.pinned (OpenSpec.ofChange pmaBoundsWrong)

/-- 'punnetlaw15.RankRanks': WHATEVER THE INPUT: true; the input reads as it did. -/
def rankRanksSpec : ChangeSpec := { name := "rankRanks", fn := fun _ => fun
  | [d1, d2, d3] => { results := [.lit (.bool true)], args := [d1, d2, d3] }
  | _ => none }
def rankRanksRow : OpenClaim := { program := "ytmbkmojekpkfhaagreatdoor", sum := "de4cd5da39ae099279a69bb3132b3cb45226a09b62ffa08792737a1d21d1ef47", func := "punnet/punnetlaw15.RankRanks", spec := "rankRanks", unfollowed := true, recurses := true, named := ["math/bits.deBruijn64tab", "math/bits.deBruijn32tab"], apart := false, laid := [("math/bits.deBruijn32tab", laid_math_bits_deBruijn32tab), ("math/bits.deBruijn64tab", laid_math_bits_deBruijn64tab)] }
def RankRanksSaid : Prop := rankRanksRow.holds Tryz.pinned (OpenSpec.ofChange rankRanksSpec)

/-- ITS FALSE NEIGHBOUR: 'it returns false'. Refute it at one input. -/
def rankRanksWrong : ChangeSpec := { name := "rankRanks", fn := fun _ => fun
  | [d1, d2, d3] => { results := [.lit (.bool false)], args := [d1, d2, d3] }
  | _ => none }
def RankRanksWrongFalsely : Prop := rankRanksRow.holds Tryz.pinned (OpenSpec.ofChange rankRanksWrong)

/-- 'punnetlaw15.RankQuantiles': WHATEVER THE INPUT: true; the input reads as it did. -/
def rankQuantilesSpec : ChangeSpec := { name := "rankQuantiles", fn := fun _ => fun
  | [d1, d2, d3] => { results := [.lit (.bool true)], args := [d1, d2, d3] }
  | _ => none }
def rankQuantilesRow : OpenClaim := { program := "ytmbkmojekpkfhaagreatdoor", sum := "de4cd5da39ae099279a69bb3132b3cb45226a09b62ffa08792737a1d21d1ef47", func := "punnet/punnetlaw15.RankQuantiles", spec := "rankQuantiles", unfollowed := true, recurses := true, named := ["math/bits.deBruijn64tab", "math/bits.deBruijn32tab"], apart := false, laid := [("math/bits.deBruijn32tab", laid_math_bits_deBruijn32tab), ("math/bits.deBruijn64tab", laid_math_bits_deBruijn64tab)] }
def RankQuantilesSaid : Prop := rankQuantilesRow.holds Tryz.pinned (OpenSpec.ofChange rankQuantilesSpec)

/-- ITS FALSE NEIGHBOUR: 'it returns false'. Refute it at one input. -/
def rankQuantilesWrong : ChangeSpec := { name := "rankQuantiles", fn := fun _ => fun
  | [d1, d2, d3] => { results := [.lit (.bool false)], args := [d1, d2, d3] }
  | _ => none }
def RankQuantilesWrongFalsely : Prop := rankQuantilesRow.holds Tryz.pinned (OpenSpec.ofChange rankQuantilesWrong)

/-- 'punnetlaw15.RankRises': WHATEVER THE INPUT: true; the input reads as it did. -/
def rankRisesSpec : ChangeSpec := { name := "rankRises", fn := fun _ => fun
  | [d1, d2, d3] => { results := [.lit (.bool true)], args := [d1, d2, d3] }
  | _ => none }
def rankRisesRow : OpenClaim := { program := "ytmbkmojekpkfhaagreatdoor", sum := "de4cd5da39ae099279a69bb3132b3cb45226a09b62ffa08792737a1d21d1ef47", func := "punnet/punnetlaw15.RankRises", spec := "rankRises", unfollowed := true, recurses := true, named := ["math/bits.deBruijn64tab", "math/bits.deBruijn32tab"], apart := false, laid := [("math/bits.deBruijn32tab", laid_math_bits_deBruijn32tab), ("math/bits.deBruijn64tab", laid_math_bits_deBruijn64tab)] }
def RankRisesSaid : Prop := rankRisesRow.holds Tryz.pinned (OpenSpec.ofChange rankRisesSpec)

/-- ITS FALSE NEIGHBOUR: 'it returns false'. Refute it at one input. -/
def rankRisesWrong : ChangeSpec := { name := "rankRises", fn := fun _ => fun
  | [d1, d2, d3] => { results := [.lit (.bool false)], args := [d1, d2, d3] }
  | _ => none }
def RankRisesWrongFalsely : Prop := rankRisesRow.holds Tryz.pinned (OpenSpec.ofChange rankRisesWrong)

/-- 'punnetlaw15.RankStays': WHATEVER THE INPUT: true; the input reads as it did. -/
def rankStaysSpec : ChangeSpec := { name := "rankStays", fn := fun _ => fun
  | [d1, d2] => { results := [.lit (.bool true)], args := [d1, d2] }
  | _ => none }
def rankStaysRow : OpenClaim := { program := "ytmbkmojekpkfhaagreatdoor", sum := "de4cd5da39ae099279a69bb3132b3cb45226a09b62ffa08792737a1d21d1ef47", func := "punnet/punnetlaw15.RankStays", spec := "rankStays", unfollowed := true, recurses := true, named := ["math/bits.deBruijn64tab", "math/bits.deBruijn32tab"], apart := false, laid := [("math/bits.deBruijn32tab", laid_math_bits_deBruijn32tab), ("math/bits.deBruijn64tab", laid_math_bits_deBruijn64tab)] }
def RankStaysSaid : Prop := rankStaysRow.holds Tryz.pinned (OpenSpec.ofChange rankStaysSpec)

/-- ITS FALSE NEIGHBOUR: 'it returns false'. Refute it at one input. -/
def rankStaysWrong : ChangeSpec := { name := "rankStays", fn := fun _ => fun
  | [d1, d2] => { results := [.lit (.bool false)], args := [d1, d2] }
  | _ => none }
def RankStaysWrongFalsely : Prop := rankStaysRow.holds Tryz.pinned (OpenSpec.ofChange rankStaysWrong)

/-- 'punnetlaw15.RankBack': WHATEVER THE INPUT: true; the input reads as it did. -/
def rankBackSpec : ChangeSpec := { name := "rankBack", fn := fun _ => fun
  | [d1, d2] => { results := [.lit (.bool true)], args := [d1, d2] }
  | _ => none }
def rankBackRow : OpenClaim := { program := "ytmbkmojekpkfhaagreatdoor", sum := "de4cd5da39ae099279a69bb3132b3cb45226a09b62ffa08792737a1d21d1ef47", func := "punnet/punnetlaw15.RankBack", spec := "rankBack", unfollowed := true, recurses := true, named := ["math/bits.deBruijn64tab", "math/bits.deBruijn32tab"], apart := false, laid := [("math/bits.deBruijn32tab", laid_math_bits_deBruijn32tab), ("math/bits.deBruijn64tab", laid_math_bits_deBruijn64tab)] }
def RankBackSaid : Prop := rankBackRow.holds Tryz.pinned (OpenSpec.ofChange rankBackSpec)

/-- ITS FALSE NEIGHBOUR: 'it returns false'. Refute it at one input. -/
def rankBackWrong : ChangeSpec := { name := "rankBack", fn := fun _ => fun
  | [d1, d2] => { results := [.lit (.bool false)], args := [d1, d2] }
  | _ => none }
def RankBackWrongFalsely : Prop := rankBackRow.holds Tryz.pinned (OpenSpec.ofChange rankBackWrong)

/- THE SECOND FORM. 'bulk': how many values and letters a reading holds, each counted each time it is reached (what is shared counts as often as it is met; a slice's spare places count too). A statement '..UptoSaid' is the law's where the arguments, and the package variables that the reading takes, are together of bulk at most 1048576: NARROWER than '..Said'. Prove '..Said' where nothing that the law and all that it calls make is longer than what came in: it says more and counts as full. Else prove '..UptoSaid'. A law counts once. -/
mutual
def uptoBulk {H : Type} : DataW H → Nat
  | .lit (.string bytes) => bytes.length + 1
  | .lit _ => 1
  | .nil => 1
  | .ptr d => uptoBulk d + 1
  | .slice elems spare => uptoBulkAll elems + uptoBulkAll spare + 1
  | .agg parts => uptoBulkAll parts + 1
  | .iface _ d => uptoBulk d + 1
  | .map entries => uptoBulkEntries entries + 1
  | .held _ => 1
def uptoBulkAll {H : Type} : List (DataW H) → Nat
  | [] => 0
  | d :: r => uptoBulk d + uptoBulkAll r
def uptoBulkEntries {H : Type} : List (Lit × DataW H) → Nat
  | [] => 0
  | x :: r => uptoBulkEntry x + uptoBulkEntries r
def uptoBulkEntry {H : Type} : Lit × DataW H → Nat
  | (.string bytes, d) => bytes.length + uptoBulk d + 1
  | (_, d) => uptoBulk d + 1
 end
def uptoSmall : (H : Type) → List (DataW H) → Bool := fun _ ds => decide (uptoBulkAll ds ≤ 1048576)
def OpenSpec.upto (s : _root_.Go.ChangeSpec) : _root_.Go.OpenSpec := { _root_.Go.OpenSpec.ofChange s with cond := some uptoSmall }

/-- 'punnetlaw09.PmaTells', WHERE WHAT IT READS IS OF BULK AT MOST 1048576: true; the input reads as it did. -/
def pmaTellsUptoRow : OpenClaim := { program := "ytmbkmojekpkfhaagreatdoor", sum := "de4cd5da39ae099279a69bb3132b3cb45226a09b62ffa08792737a1d21d1ef47", func := "punnet/punnetlaw09.PmaTells", spec := "pmaTells", unfollowed := true, recurses := true, named := ["math/bits.deBruijn32tab", "math/bits.deBruijn64tab"], apart := false, laid := [("math/bits.deBruijn32tab", laid_math_bits_deBruijn32tab), ("math/bits.deBruijn64tab", laid_math_bits_deBruijn64tab)], narrowed := true }
def PmaTellsUptoSaid : Prop := pmaTellsUptoRow.holds Tryz.pinned (OpenSpec.upto pmaTellsSpec)

/-- 'punnetlaw09.PmaBounds', WHERE WHAT IT READS IS OF BULK AT MOST 1048576: true; the input reads as it did. -/
def pmaBoundsUptoRow : OpenClaim := { program := "ytmbkmojekpkfhaagreatdoor", sum := "de4cd5da39ae099279a69bb3132b3cb45226a09b62ffa08792737a1d21d1ef47", func := "punnet/punnetlaw09.PmaBounds", spec := "pmaBounds", unfollowed := true, recurses := true, named := ["math/bits.deBruijn32tab", "math/bits.deBruijn64tab"], apart := false, laid := [("math/bits.deBruijn32tab", laid_math_bits_deBruijn32tab), ("math/bits.deBruijn64tab", laid_math_bits_deBruijn64tab)], narrowed := true }
def PmaBoundsUptoSaid : Prop := pmaBoundsUptoRow.holds Tryz.pinned (OpenSpec.upto pmaBoundsSpec)

/-- 'punnetlaw15.RankRanks', WHERE WHAT IT READS IS OF BULK AT MOST 1048576: true; the input reads as it did. -/
def rankRanksUptoRow : OpenClaim := { program := "ytmbkmojekpkfhaagreatdoor", sum := "de4cd5da39ae099279a69bb3132b3cb45226a09b62ffa08792737a1d21d1ef47", func := "punnet/punnetlaw15.RankRanks", spec := "rankRanks", unfollowed := true, recurses := true, named := ["math/bits.deBruijn64tab", "math/bits.deBruijn32tab"], apart := false, laid := [("math/bits.deBruijn32tab", laid_math_bits_deBruijn32tab), ("math/bits.deBruijn64tab", laid_math_bits_deBruijn64tab)], narrowed := true }
def RankRanksUptoSaid : Prop := rankRanksUptoRow.holds Tryz.pinned (OpenSpec.upto rankRanksSpec)

/-- 'punnetlaw15.RankQuantiles', WHERE WHAT IT READS IS OF BULK AT MOST 1048576: true; the input reads as it did. -/
def rankQuantilesUptoRow : OpenClaim := { program := "ytmbkmojekpkfhaagreatdoor", sum := "de4cd5da39ae099279a69bb3132b3cb45226a09b62ffa08792737a1d21d1ef47", func := "punnet/punnetlaw15.RankQuantiles", spec := "rankQuantiles", unfollowed := true, recurses := true, named := ["math/bits.deBruijn64tab", "math/bits.deBruijn32tab"], apart := false, laid := [("math/bits.deBruijn32tab", laid_math_bits_deBruijn32tab), ("math/bits.deBruijn64tab", laid_math_bits_deBruijn64tab)], narrowed := true }
def RankQuantilesUptoSaid : Prop := rankQuantilesUptoRow.holds Tryz.pinned (OpenSpec.upto rankQuantilesSpec)

/-- 'punnetlaw15.RankRises', WHERE WHAT IT READS IS OF BULK AT MOST 1048576: true; the input reads as it did. -/
def rankRisesUptoRow : OpenClaim := { program := "ytmbkmojekpkfhaagreatdoor", sum := "de4cd5da39ae099279a69bb3132b3cb45226a09b62ffa08792737a1d21d1ef47", func := "punnet/punnetlaw15.RankRises", spec := "rankRises", unfollowed := true, recurses := true, named := ["math/bits.deBruijn64tab", "math/bits.deBruijn32tab"], apart := false, laid := [("math/bits.deBruijn32tab", laid_math_bits_deBruijn32tab), ("math/bits.deBruijn64tab", laid_math_bits_deBruijn64tab)], narrowed := true }
def RankRisesUptoSaid : Prop := rankRisesUptoRow.holds Tryz.pinned (OpenSpec.upto rankRisesSpec)

/-- 'punnetlaw15.RankStays', WHERE WHAT IT READS IS OF BULK AT MOST 1048576: true; the input reads as it did. -/
def rankStaysUptoRow : OpenClaim := { program := "ytmbkmojekpkfhaagreatdoor", sum := "de4cd5da39ae099279a69bb3132b3cb45226a09b62ffa08792737a1d21d1ef47", func := "punnet/punnetlaw15.RankStays", spec := "rankStays", unfollowed := true, recurses := true, named := ["math/bits.deBruijn64tab", "math/bits.deBruijn32tab"], apart := false, laid := [("math/bits.deBruijn32tab", laid_math_bits_deBruijn32tab), ("math/bits.deBruijn64tab", laid_math_bits_deBruijn64tab)], narrowed := true }
def RankStaysUptoSaid : Prop := rankStaysUptoRow.holds Tryz.pinned (OpenSpec.upto rankStaysSpec)

/-- 'punnetlaw15.RankBack', WHERE WHAT IT READS IS OF BULK AT MOST 1048576: true; the input reads as it did. -/
def rankBackUptoRow : OpenClaim := { program := "ytmbkmojekpkfhaagreatdoor", sum := "de4cd5da39ae099279a69bb3132b3cb45226a09b62ffa08792737a1d21d1ef47", func := "punnet/punnetlaw15.RankBack", spec := "rankBack", unfollowed := true, recurses := true, named := ["math/bits.deBruijn64tab", "math/bits.deBruijn32tab"], apart := false, laid := [("math/bits.deBruijn32tab", laid_math_bits_deBruijn32tab), ("math/bits.deBruijn64tab", laid_math_bits_deBruijn64tab)], narrowed := true }
def RankBackUptoSaid : Prop := rankBackUptoRow.holds Tryz.pinned (OpenSpec.upto rankBackSpec)

end Rows
end Go.Proofs.YtmbkmojekpkfhaaGreatDoor
