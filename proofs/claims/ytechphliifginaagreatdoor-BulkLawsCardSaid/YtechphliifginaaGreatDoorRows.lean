/-
  NARROWER THAN 'FOR EVERY INPUT', by the rows' own cells (each row's printed sentence says how): PmaTells: laid · PmaBounds: laid · ScanTakes: laid · ScanStops: laid · ScanRanges: laid · ScanParts: laid · ScanFew: laid · ScanNil: laid · RankBetween: laid · BulkThree: laid · BulkLaws: laid · BulkSteps: laid.
  DERIVED. THE GIVEN ROWS OF THIS SEAT. 12 by the template 'for every input the law returns true; each argument reads behind the call as it read before'; 0 by the template 'total and deterministic' (their statements: YtechphliifginaaGreatDoorTotals.lean).
  GIVEN WITH THE SEED: the statements are not yours to turn. If you find one false, say at which input.
  Laid BY PROGRAM, IN A SANDBOX (cutbox-rows.mjs): the forced cells as the released guide's own fill.sh prints them over the translation 19236971e510cd8d… (all of the seat's roots in one cut). By AI agents, Wed Nov 11 2026. No macro, syntax, notation, axiom, sorry.
-/
import Derived.Test.YtechphliifginaaGreatDoorChecked
import GoSem.Claim
import GoSem.ClaimJoined
import GoSem.ClaimMapViews
import Derived.JoinedTies
import Derived.KernelRfl
namespace Go.Proofs.YtechphliifginaaGreatDoor
/- THE CELL 'sum', in the pinned program and in every row, IS THE sha256 OF THE DUMP (.gsa) THAT YtechphliifginaaGreatDoorProg.lean LOADS. Nothing in Lean hashes anything: it is a label: what it is worth is what the hold of that sum in a sandbox is worth. -/
noncomputable def Tryz.pinned : Pinned := { name := "ytechphliifginaagreatdoor", sum := "19236971e510cd8d654ba639cf507463c0890b6c96725eeb43288fb9fb06261a", checked := Tryz.checked }
namespace Rows
def none {H : Type} : Left H := { results := [], args := [] }

/- WHAT THE LISTED PACKAGE-LEVEL VARIABLES READ AS WHEN THE CALL BEGINS. Each datum BY PROGRAM (the guide's laid-datum.mjs) off the statement by which the dump's own 'gosem.cut.vars' lays the variable. In a bare row this is a premise. The card (YtechphliifginaaGreatDoorCards.lean) ties it to the program's text. -/
def laid_math_bits_deBruijn32tab {H : Type} : DataW H := .agg [.lit (.int .u8 0), .lit (.int .u8 1), .lit (.int .u8 28), .lit (.int .u8 2), .lit (.int .u8 29), .lit (.int .u8 14), .lit (.int .u8 24), .lit (.int .u8 3), .lit (.int .u8 30), .lit (.int .u8 22), .lit (.int .u8 20), .lit (.int .u8 15), .lit (.int .u8 25), .lit (.int .u8 17), .lit (.int .u8 4), .lit (.int .u8 8), .lit (.int .u8 31), .lit (.int .u8 27), .lit (.int .u8 13), .lit (.int .u8 23), .lit (.int .u8 21), .lit (.int .u8 19), .lit (.int .u8 16), .lit (.int .u8 7), .lit (.int .u8 26), .lit (.int .u8 12), .lit (.int .u8 18), .lit (.int .u8 6), .lit (.int .u8 11), .lit (.int .u8 5), .lit (.int .u8 10), .lit (.int .u8 9)]
def laid_math_bits_deBruijn64tab {H : Type} : DataW H := .agg [.lit (.int .u8 0), .lit (.int .u8 1), .lit (.int .u8 56), .lit (.int .u8 2), .lit (.int .u8 57), .lit (.int .u8 49), .lit (.int .u8 28), .lit (.int .u8 3), .lit (.int .u8 61), .lit (.int .u8 58), .lit (.int .u8 42), .lit (.int .u8 50), .lit (.int .u8 38), .lit (.int .u8 29), .lit (.int .u8 17), .lit (.int .u8 4), .lit (.int .u8 62), .lit (.int .u8 47), .lit (.int .u8 59), .lit (.int .u8 36), .lit (.int .u8 45), .lit (.int .u8 43), .lit (.int .u8 51), .lit (.int .u8 22), .lit (.int .u8 53), .lit (.int .u8 39), .lit (.int .u8 33), .lit (.int .u8 30), .lit (.int .u8 24), .lit (.int .u8 18), .lit (.int .u8 12), .lit (.int .u8 5), .lit (.int .u8 63), .lit (.int .u8 55), .lit (.int .u8 48), .lit (.int .u8 27), .lit (.int .u8 60), .lit (.int .u8 41), .lit (.int .u8 37), .lit (.int .u8 16), .lit (.int .u8 46), .lit (.int .u8 35), .lit (.int .u8 44), .lit (.int .u8 21), .lit (.int .u8 52), .lit (.int .u8 32), .lit (.int .u8 23), .lit (.int .u8 11), .lit (.int .u8 54), .lit (.int .u8 26), .lit (.int .u8 40), .lit (.int .u8 15), .lit (.int .u8 34), .lit (.int .u8 20), .lit (.int .u8 31), .lit (.int .u8 10), .lit (.int .u8 25), .lit (.int .u8 14), .lit (.int .u8 19), .lit (.int .u8 9), .lit (.int .u8 13), .lit (.int .u8 8), .lit (.int .u8 7), .lit (.int .u8 6)]

/-- 'punnetlaw09.PmaTells': WHATEVER THE INPUT: true; the input reads as it did. -/
def pmaTellsSpec : ChangeSpec := { name := "pmaTells", fn := fun _ => fun
  | [d1, d2] => { results := [.lit (.bool true)], args := [d1, d2] }
  | _ => none }
def pmaTellsRow : OpenClaim := { program := "ytechphliifginaagreatdoor", sum := "19236971e510cd8d654ba639cf507463c0890b6c96725eeb43288fb9fb06261a", func := "punnet/punnetlaw09.PmaTells", spec := "pmaTells", unfollowed := true, recurses := true, named := ["math/bits.deBruijn32tab", "math/bits.deBruijn64tab"], apart := false, laid := [("math/bits.deBruijn32tab", laid_math_bits_deBruijn32tab), ("math/bits.deBruijn64tab", laid_math_bits_deBruijn64tab)] }
def PmaTellsSaid : Prop := pmaTellsRow.holds Tryz.pinned (OpenSpec.ofChange pmaTellsSpec)

/-- ITS FALSE NEIGHBOUR: 'it returns false'. Refute it at one input. -/
def pmaTellsWrong : ChangeSpec := { name := "pmaTells", fn := fun _ => fun
  | [d1, d2] => { results := [.lit (.bool false)], args := [d1, d2] }
  | _ => none }
def PmaTellsWrongFalsely : Prop := pmaTellsRow.holds Tryz.pinned (OpenSpec.ofChange pmaTellsWrong)

/-- 'punnetlaw09.PmaBounds': WHATEVER THE INPUT: true; the input reads as it did. -/
def pmaBoundsSpec : ChangeSpec := { name := "pmaBounds", fn := fun _ => fun
  | [d] => { results := [.lit (.bool true)], args := [d] }
  | _ => none }
def pmaBoundsRow : OpenClaim := { program := "ytechphliifginaagreatdoor", sum := "19236971e510cd8d654ba639cf507463c0890b6c96725eeb43288fb9fb06261a", func := "punnet/punnetlaw09.PmaBounds", spec := "pmaBounds", unfollowed := true, recurses := true, named := ["math/bits.deBruijn32tab", "math/bits.deBruijn64tab"], apart := false, laid := [("math/bits.deBruijn32tab", laid_math_bits_deBruijn32tab), ("math/bits.deBruijn64tab", laid_math_bits_deBruijn64tab)] }
def PmaBoundsSaid : Prop := pmaBoundsRow.holds Tryz.pinned (OpenSpec.ofChange pmaBoundsSpec)

/-- ITS FALSE NEIGHBOUR: 'it returns false'. Refute it at one input. -/
def pmaBoundsWrong : ChangeSpec := { name := "pmaBounds", fn := fun _ => fun
  | [d] => { results := [.lit (.bool false)], args := [d] }
  | _ => none }
def PmaBoundsWrongFalsely : Prop := pmaBoundsRow.holds Tryz.pinned (OpenSpec.ofChange pmaBoundsWrong)

/-- 'punnetlaw14.ScanTakes': WHATEVER THE INPUT: true; the input reads as it did. -/
def scanTakesSpec : ChangeSpec := { name := "scanTakes", fn := fun _ => fun
  | [d1, d2, d3] => { results := [.lit (.bool true)], args := [d1, d2, d3] }
  | _ => none }
def scanTakesRow : OpenClaim := { program := "ytechphliifginaagreatdoor", sum := "19236971e510cd8d654ba639cf507463c0890b6c96725eeb43288fb9fb06261a", func := "punnet/punnetlaw14.ScanTakes", spec := "scanTakes", unfollowed := true, recurses := true, named := ["math/bits.deBruijn64tab", "math/bits.deBruijn32tab"], apart := false, laid := [("math/bits.deBruijn32tab", laid_math_bits_deBruijn32tab), ("math/bits.deBruijn64tab", laid_math_bits_deBruijn64tab)] }
def ScanTakesSaid : Prop := scanTakesRow.holds Tryz.pinned (OpenSpec.ofChange scanTakesSpec)

/-- ITS FALSE NEIGHBOUR: 'it returns false'. Refute it at one input. -/
def scanTakesWrong : ChangeSpec := { name := "scanTakes", fn := fun _ => fun
  | [d1, d2, d3] => { results := [.lit (.bool false)], args := [d1, d2, d3] }
  | _ => none }
def ScanTakesWrongFalsely : Prop := scanTakesRow.holds Tryz.pinned (OpenSpec.ofChange scanTakesWrong)

/-- 'punnetlaw14.ScanStops': WHATEVER THE INPUT: true; the input reads as it did. -/
def scanStopsSpec : ChangeSpec := { name := "scanStops", fn := fun _ => fun
  | [d1, d2, d3] => { results := [.lit (.bool true)], args := [d1, d2, d3] }
  | _ => none }
def scanStopsRow : OpenClaim := { program := "ytechphliifginaagreatdoor", sum := "19236971e510cd8d654ba639cf507463c0890b6c96725eeb43288fb9fb06261a", func := "punnet/punnetlaw14.ScanStops", spec := "scanStops", unfollowed := true, recurses := true, named := ["math/bits.deBruijn64tab", "math/bits.deBruijn32tab"], apart := false, laid := [("math/bits.deBruijn32tab", laid_math_bits_deBruijn32tab), ("math/bits.deBruijn64tab", laid_math_bits_deBruijn64tab)] }
def ScanStopsSaid : Prop := scanStopsRow.holds Tryz.pinned (OpenSpec.ofChange scanStopsSpec)

/-- ITS FALSE NEIGHBOUR: 'it returns false'. Refute it at one input. -/
def scanStopsWrong : ChangeSpec := { name := "scanStops", fn := fun _ => fun
  | [d1, d2, d3] => { results := [.lit (.bool false)], args := [d1, d2, d3] }
  | _ => none }
def ScanStopsWrongFalsely : Prop := scanStopsRow.holds Tryz.pinned (OpenSpec.ofChange scanStopsWrong)

/-- 'punnetlaw14.ScanRanges': WHATEVER THE INPUT: true; the input reads as it did. -/
def scanRangesSpec : ChangeSpec := { name := "scanRanges", fn := fun _ => fun
  | [d1, d2, d3] => { results := [.lit (.bool true)], args := [d1, d2, d3] }
  | _ => none }
def scanRangesRow : OpenClaim := { program := "ytechphliifginaagreatdoor", sum := "19236971e510cd8d654ba639cf507463c0890b6c96725eeb43288fb9fb06261a", func := "punnet/punnetlaw14.ScanRanges", spec := "scanRanges", unfollowed := true, recurses := true, named := ["math/bits.deBruijn64tab", "math/bits.deBruijn32tab"], apart := false, laid := [("math/bits.deBruijn32tab", laid_math_bits_deBruijn32tab), ("math/bits.deBruijn64tab", laid_math_bits_deBruijn64tab)] }
def ScanRangesSaid : Prop := scanRangesRow.holds Tryz.pinned (OpenSpec.ofChange scanRangesSpec)

/-- ITS FALSE NEIGHBOUR: 'it returns false'. Refute it at one input. -/
def scanRangesWrong : ChangeSpec := { name := "scanRanges", fn := fun _ => fun
  | [d1, d2, d3] => { results := [.lit (.bool false)], args := [d1, d2, d3] }
  | _ => none }
def ScanRangesWrongFalsely : Prop := scanRangesRow.holds Tryz.pinned (OpenSpec.ofChange scanRangesWrong)

/-- 'punnetlaw14.ScanParts': WHATEVER THE INPUT: true; the input reads as it did. -/
def scanPartsSpec : ChangeSpec := { name := "scanParts", fn := fun _ => fun
  | [d1, d2] => { results := [.lit (.bool true)], args := [d1, d2] }
  | _ => none }
def scanPartsRow : OpenClaim := { program := "ytechphliifginaagreatdoor", sum := "19236971e510cd8d654ba639cf507463c0890b6c96725eeb43288fb9fb06261a", func := "punnet/punnetlaw14.ScanParts", spec := "scanParts", unfollowed := true, recurses := true, named := ["math/bits.deBruijn64tab", "math/bits.deBruijn32tab"], apart := false, laid := [("math/bits.deBruijn32tab", laid_math_bits_deBruijn32tab), ("math/bits.deBruijn64tab", laid_math_bits_deBruijn64tab)] }
def ScanPartsSaid : Prop := scanPartsRow.holds Tryz.pinned (OpenSpec.ofChange scanPartsSpec)

/-- ITS FALSE NEIGHBOUR: 'it returns false'. Refute it at one input. -/
def scanPartsWrong : ChangeSpec := { name := "scanParts", fn := fun _ => fun
  | [d1, d2] => { results := [.lit (.bool false)], args := [d1, d2] }
  | _ => none }
def ScanPartsWrongFalsely : Prop := scanPartsRow.holds Tryz.pinned (OpenSpec.ofChange scanPartsWrong)

/-- 'punnetlaw14.ScanFew': WHATEVER THE INPUT: true; the input reads as it did. -/
def scanFewSpec : ChangeSpec := { name := "scanFew", fn := fun _ => fun
  | [d1, d2, d3] => { results := [.lit (.bool true)], args := [d1, d2, d3] }
  | _ => none }
def scanFewRow : OpenClaim := { program := "ytechphliifginaagreatdoor", sum := "19236971e510cd8d654ba639cf507463c0890b6c96725eeb43288fb9fb06261a", func := "punnet/punnetlaw14.ScanFew", spec := "scanFew", unfollowed := true, recurses := true, named := ["math/bits.deBruijn64tab", "math/bits.deBruijn32tab"], apart := false, laid := [("math/bits.deBruijn32tab", laid_math_bits_deBruijn32tab), ("math/bits.deBruijn64tab", laid_math_bits_deBruijn64tab)] }
def ScanFewSaid : Prop := scanFewRow.holds Tryz.pinned (OpenSpec.ofChange scanFewSpec)

/-- ITS FALSE NEIGHBOUR: 'it returns false'. Refute it at one input. -/
def scanFewWrong : ChangeSpec := { name := "scanFew", fn := fun _ => fun
  | [d1, d2, d3] => { results := [.lit (.bool false)], args := [d1, d2, d3] }
  | _ => none }
def ScanFewWrongFalsely : Prop := scanFewRow.holds Tryz.pinned (OpenSpec.ofChange scanFewWrong)

/-- 'punnetlaw14.ScanNil': WHATEVER THE INPUT: true; the input reads as it did. -/
def scanNilSpec : ChangeSpec := { name := "scanNil", fn := fun _ => fun
  | [d1, d2, d3] => { results := [.lit (.bool true)], args := [d1, d2, d3] }
  | _ => none }
def scanNilRow : OpenClaim := { program := "ytechphliifginaagreatdoor", sum := "19236971e510cd8d654ba639cf507463c0890b6c96725eeb43288fb9fb06261a", func := "punnet/punnetlaw14.ScanNil", spec := "scanNil", unfollowed := true, recurses := true, named := ["math/bits.deBruijn64tab", "math/bits.deBruijn32tab"], apart := false, laid := [("math/bits.deBruijn32tab", laid_math_bits_deBruijn32tab), ("math/bits.deBruijn64tab", laid_math_bits_deBruijn64tab)] }
def ScanNilSaid : Prop := scanNilRow.holds Tryz.pinned (OpenSpec.ofChange scanNilSpec)

/-- ITS FALSE NEIGHBOUR: 'it returns false'. Refute it at one input. -/
def scanNilWrong : ChangeSpec := { name := "scanNil", fn := fun _ => fun
  | [d1, d2, d3] => { results := [.lit (.bool false)], args := [d1, d2, d3] }
  | _ => none }
def ScanNilWrongFalsely : Prop := scanNilRow.holds Tryz.pinned (OpenSpec.ofChange scanNilWrong)

/-- 'punnetlaw15.RankBetween': WHATEVER THE INPUT: true; the input reads as it did. -/
def rankBetweenSpec : ChangeSpec := { name := "rankBetween", fn := fun _ => fun
  | [d1, d2] => { results := [.lit (.bool true)], args := [d1, d2] }
  | _ => none }
def rankBetweenRow : OpenClaim := { program := "ytechphliifginaagreatdoor", sum := "19236971e510cd8d654ba639cf507463c0890b6c96725eeb43288fb9fb06261a", func := "punnet/punnetlaw15.RankBetween", spec := "rankBetween", unfollowed := true, recurses := true, named := ["math/bits.deBruijn64tab", "math/bits.deBruijn32tab"], apart := false, laid := [("math/bits.deBruijn32tab", laid_math_bits_deBruijn32tab), ("math/bits.deBruijn64tab", laid_math_bits_deBruijn64tab)] }
def RankBetweenSaid : Prop := rankBetweenRow.holds Tryz.pinned (OpenSpec.ofChange rankBetweenSpec)

/-- ITS FALSE NEIGHBOUR: 'it returns false'. Refute it at one input. -/
def rankBetweenWrong : ChangeSpec := { name := "rankBetween", fn := fun _ => fun
  | [d1, d2] => { results := [.lit (.bool false)], args := [d1, d2] }
  | _ => none }
def RankBetweenWrongFalsely : Prop := rankBetweenRow.holds Tryz.pinned (OpenSpec.ofChange rankBetweenWrong)

/-- 'punnetlaw16.BulkThree': WHATEVER THE INPUT: true; the input reads as it did. -/
def bulkThreeSpec : ChangeSpec := { name := "bulkThree", fn := fun _ => fun
  | [d] => { results := [.lit (.bool true)], args := [d] }
  | _ => none }
def bulkThreeRow : OpenClaim := { program := "ytechphliifginaagreatdoor", sum := "19236971e510cd8d654ba639cf507463c0890b6c96725eeb43288fb9fb06261a", func := "punnet/punnetlaw16.BulkThree", spec := "bulkThree", unfollowed := true, recurses := true, named := ["math/bits.deBruijn64tab", "math/bits.deBruijn32tab"], apart := false, laid := [("math/bits.deBruijn32tab", laid_math_bits_deBruijn32tab), ("math/bits.deBruijn64tab", laid_math_bits_deBruijn64tab)] }
def BulkThreeSaid : Prop := bulkThreeRow.holds Tryz.pinned (OpenSpec.ofChange bulkThreeSpec)

/-- ITS FALSE NEIGHBOUR: 'it returns false'. Refute it at one input. -/
def bulkThreeWrong : ChangeSpec := { name := "bulkThree", fn := fun _ => fun
  | [d] => { results := [.lit (.bool false)], args := [d] }
  | _ => none }
def BulkThreeWrongFalsely : Prop := bulkThreeRow.holds Tryz.pinned (OpenSpec.ofChange bulkThreeWrong)

/-- 'punnetlaw16.BulkLaws': WHATEVER THE INPUT: true; the input reads as it did. -/
def bulkLawsSpec : ChangeSpec := { name := "bulkLaws", fn := fun _ => fun
  | [d1, d2] => { results := [.lit (.bool true)], args := [d1, d2] }
  | _ => none }
def bulkLawsRow : OpenClaim := { program := "ytechphliifginaagreatdoor", sum := "19236971e510cd8d654ba639cf507463c0890b6c96725eeb43288fb9fb06261a", func := "punnet/punnetlaw16.BulkLaws", spec := "bulkLaws", unfollowed := true, recurses := true, named := ["math/bits.deBruijn64tab", "math/bits.deBruijn32tab"], apart := false, laid := [("math/bits.deBruijn32tab", laid_math_bits_deBruijn32tab), ("math/bits.deBruijn64tab", laid_math_bits_deBruijn64tab)] }
def BulkLawsSaid : Prop := bulkLawsRow.holds Tryz.pinned (OpenSpec.ofChange bulkLawsSpec)

/-- ITS FALSE NEIGHBOUR: 'it returns false'. Refute it at one input. -/
def bulkLawsWrong : ChangeSpec := { name := "bulkLaws", fn := fun _ => fun
  | [d1, d2] => { results := [.lit (.bool false)], args := [d1, d2] }
  | _ => none }
def BulkLawsWrongFalsely : Prop := bulkLawsRow.holds Tryz.pinned (OpenSpec.ofChange bulkLawsWrong)

/-- 'punnetlaw16.BulkSteps': WHATEVER THE INPUT: true; the input reads as it did. -/
def bulkStepsSpec : ChangeSpec := { name := "bulkSteps", fn := fun _ => fun
  | [d1, d2] => { results := [.lit (.bool true)], args := [d1, d2] }
  | _ => none }
def bulkStepsRow : OpenClaim := { program := "ytechphliifginaagreatdoor", sum := "19236971e510cd8d654ba639cf507463c0890b6c96725eeb43288fb9fb06261a", func := "punnet/punnetlaw16.BulkSteps", spec := "bulkSteps", unfollowed := true, recurses := true, named := ["math/bits.deBruijn64tab", "math/bits.deBruijn32tab"], apart := false, laid := [("math/bits.deBruijn32tab", laid_math_bits_deBruijn32tab), ("math/bits.deBruijn64tab", laid_math_bits_deBruijn64tab)] }
def BulkStepsSaid : Prop := bulkStepsRow.holds Tryz.pinned (OpenSpec.ofChange bulkStepsSpec)

/-- ITS FALSE NEIGHBOUR: 'it returns false'. Refute it at one input. -/
def bulkStepsWrong : ChangeSpec := { name := "bulkSteps", fn := fun _ => fun
  | [d1, d2] => { results := [.lit (.bool false)], args := [d1, d2] }
  | _ => none }
def BulkStepsWrongFalsely : Prop := bulkStepsRow.holds Tryz.pinned (OpenSpec.ofChange bulkStepsWrong)

/- THE SECOND FORM. 'bulk': how many values and letters a reading holds, each counted each time it is reached (what is shared counts as often as it is met; a slice's spare places count too). A statement '..UptoSaid' is the law's where the arguments, and the package variables that the reading takes, are together of bulk at most 1048576: NARROWER than '..Said'. Prove '..Said' where nothing that the law and all that it calls make is longer than what came in: it says more and counts as full. Else prove '..UptoSaid'. A law counts once. -/
mutual
def uptoBulk {H : Type} : DataW H → Nat
  | .lit (.string bytes) => bytes.length + 1
  | .lit _ => 1
  | .nil => 1
  | .ptr d => uptoBulk d + 1
  | .slice elems spare => uptoBulkAll elems + uptoBulkAll spare + 1
  | .agg parts => uptoBulkAll parts + 1
  | .iface _ d => uptoBulk d + 1
  | .map entries => uptoBulkEntries entries + 1
  | .held _ => 1
def uptoBulkAll {H : Type} : List (DataW H) → Nat
  | [] => 0
  | d :: r => uptoBulk d + uptoBulkAll r
def uptoBulkEntries {H : Type} : List (Lit × DataW H) → Nat
  | [] => 0
  | x :: r => uptoBulkEntry x + uptoBulkEntries r
def uptoBulkEntry {H : Type} : Lit × DataW H → Nat
  | (.string bytes, d) => bytes.length + uptoBulk d + 1
  | (_, d) => uptoBulk d + 1
 end
def uptoSmall : (H : Type) → List (DataW H) → Bool := fun _ ds => decide (uptoBulkAll ds ≤ 1048576)
def OpenSpec.upto (s : _root_.Go.ChangeSpec) : _root_.Go.OpenSpec := { _root_.Go.OpenSpec.ofChange s with cond := some uptoSmall }

/-- 'punnetlaw09.PmaTells', WHERE WHAT IT READS IS OF BULK AT MOST 1048576: true; the input reads as it did. -/
def pmaTellsUptoRow : OpenClaim := { program := "ytechphliifginaagreatdoor", sum := "19236971e510cd8d654ba639cf507463c0890b6c96725eeb43288fb9fb06261a", func := "punnet/punnetlaw09.PmaTells", spec := "pmaTells", unfollowed := true, recurses := true, named := ["math/bits.deBruijn32tab", "math/bits.deBruijn64tab"], apart := false, laid := [("math/bits.deBruijn32tab", laid_math_bits_deBruijn32tab), ("math/bits.deBruijn64tab", laid_math_bits_deBruijn64tab)], narrowed := true }
def PmaTellsUptoSaid : Prop := pmaTellsUptoRow.holds Tryz.pinned (OpenSpec.upto pmaTellsSpec)

/-- 'punnetlaw09.PmaBounds', WHERE WHAT IT READS IS OF BULK AT MOST 1048576: true; the input reads as it did. -/
def pmaBoundsUptoRow : OpenClaim := { program := "ytechphliifginaagreatdoor", sum := "19236971e510cd8d654ba639cf507463c0890b6c96725eeb43288fb9fb06261a", func := "punnet/punnetlaw09.PmaBounds", spec := "pmaBounds", unfollowed := true, recurses := true, named := ["math/bits.deBruijn32tab", "math/bits.deBruijn64tab"], apart := false, laid := [("math/bits.deBruijn32tab", laid_math_bits_deBruijn32tab), ("math/bits.deBruijn64tab", laid_math_bits_deBruijn64tab)], narrowed := true }
def PmaBoundsUptoSaid : Prop := pmaBoundsUptoRow.holds Tryz.pinned (OpenSpec.upto pmaBoundsSpec)

/-- 'punnetlaw14.ScanTakes', WHERE WHAT IT READS IS OF BULK AT MOST 1048576: true; the input reads as it did. -/
def scanTakesUptoRow : OpenClaim := { program := "ytechphliifginaagreatdoor", sum := "19236971e510cd8d654ba639cf507463c0890b6c96725eeb43288fb9fb06261a", func := "punnet/punnetlaw14.ScanTakes", spec := "scanTakes", unfollowed := true, recurses := true, named := ["math/bits.deBruijn64tab", "math/bits.deBruijn32tab"], apart := false, laid := [("math/bits.deBruijn32tab", laid_math_bits_deBruijn32tab), ("math/bits.deBruijn64tab", laid_math_bits_deBruijn64tab)], narrowed := true }
def ScanTakesUptoSaid : Prop := scanTakesUptoRow.holds Tryz.pinned (OpenSpec.upto scanTakesSpec)

/-- 'punnetlaw14.ScanStops', WHERE WHAT IT READS IS OF BULK AT MOST 1048576: true; the input reads as it did. -/
def scanStopsUptoRow : OpenClaim := { program := "ytechphliifginaagreatdoor", sum := "19236971e510cd8d654ba639cf507463c0890b6c96725eeb43288fb9fb06261a", func := "punnet/punnetlaw14.ScanStops", spec := "scanStops", unfollowed := true, recurses := true, named := ["math/bits.deBruijn64tab", "math/bits.deBruijn32tab"], apart := false, laid := [("math/bits.deBruijn32tab", laid_math_bits_deBruijn32tab), ("math/bits.deBruijn64tab", laid_math_bits_deBruijn64tab)], narrowed := true }
def ScanStopsUptoSaid : Prop := scanStopsUptoRow.holds Tryz.pinned (OpenSpec.upto scanStopsSpec)

/-- 'punnetlaw14.ScanRanges', WHERE WHAT IT READS IS OF BULK AT MOST 1048576: true; the input reads as it did. -/
def scanRangesUptoRow : OpenClaim := { program := "ytechphliifginaagreatdoor", sum := "19236971e510cd8d654ba639cf507463c0890b6c96725eeb43288fb9fb06261a", func := "punnet/punnetlaw14.ScanRanges", spec := "scanRanges", unfollowed := true, recurses := true, named := ["math/bits.deBruijn64tab", "math/bits.deBruijn32tab"], apart := false, laid := [("math/bits.deBruijn32tab", laid_math_bits_deBruijn32tab), ("math/bits.deBruijn64tab", laid_math_bits_deBruijn64tab)], narrowed := true }
def ScanRangesUptoSaid : Prop := scanRangesUptoRow.holds Tryz.pinned (OpenSpec.upto scanRangesSpec)

/-- 'punnetlaw14.ScanParts', WHERE WHAT IT READS IS OF BULK AT MOST 1048576: true; the input reads as it did. -/
def scanPartsUptoRow : OpenClaim := { program := "ytechphliifginaagreatdoor", sum := "19236971e510cd8d654ba639cf507463c0890b6c96725eeb43288fb9fb06261a", func := "punnet/punnetlaw14.ScanParts", spec := "scanParts", unfollowed := true, recurses := true, named := ["math/bits.deBruijn64tab", "math/bits.deBruijn32tab"], apart := false, laid := [("math/bits.deBruijn32tab", laid_math_bits_deBruijn32tab), ("math/bits.deBruijn64tab", laid_math_bits_deBruijn64tab)], narrowed := true }
def ScanPartsUptoSaid : Prop := scanPartsUptoRow.holds Tryz.pinned (OpenSpec.upto scanPartsSpec)

/-- 'punnetlaw14.ScanFew', WHERE WHAT IT READS IS OF BULK AT MOST 1048576: true; the input reads as it did. -/
def scanFewUptoRow : OpenClaim := { program := "ytechphliifginaagreatdoor", sum := "19236971e510cd8d654ba639cf507463c0890b6c96725eeb43288fb9fb06261a", func := "punnet/punnetlaw14.ScanFew", spec := "scanFew", unfollowed := true, recurses := true, named := ["math/bits.deBruijn64tab", "math/bits.deBruijn32tab"], apart := false, laid := [("math/bits.deBruijn32tab", laid_math_bits_deBruijn32tab), ("math/bits.deBruijn64tab", laid_math_bits_deBruijn64tab)], narrowed := true }
def ScanFewUptoSaid : Prop := scanFewUptoRow.holds Tryz.pinned (OpenSpec.upto scanFewSpec)

/-- 'punnetlaw14.ScanNil', WHERE WHAT IT READS IS OF BULK AT MOST 1048576: true; the input reads as it did. -/
def scanNilUptoRow : OpenClaim := { program := "ytechphliifginaagreatdoor", sum := "19236971e510cd8d654ba639cf507463c0890b6c96725eeb43288fb9fb06261a", func := "punnet/punnetlaw14.ScanNil", spec := "scanNil", unfollowed := true, recurses := true, named := ["math/bits.deBruijn64tab", "math/bits.deBruijn32tab"], apart := false, laid := [("math/bits.deBruijn32tab", laid_math_bits_deBruijn32tab), ("math/bits.deBruijn64tab", laid_math_bits_deBruijn64tab)], narrowed := true }
def ScanNilUptoSaid : Prop := scanNilUptoRow.holds Tryz.pinned (OpenSpec.upto scanNilSpec)

/-- 'punnetlaw15.RankBetween', WHERE WHAT IT READS IS OF BULK AT MOST 1048576: true; the input reads as it did. -/
def rankBetweenUptoRow : OpenClaim := { program := "ytechphliifginaagreatdoor", sum := "19236971e510cd8d654ba639cf507463c0890b6c96725eeb43288fb9fb06261a", func := "punnet/punnetlaw15.RankBetween", spec := "rankBetween", unfollowed := true, recurses := true, named := ["math/bits.deBruijn64tab", "math/bits.deBruijn32tab"], apart := false, laid := [("math/bits.deBruijn32tab", laid_math_bits_deBruijn32tab), ("math/bits.deBruijn64tab", laid_math_bits_deBruijn64tab)], narrowed := true }
def RankBetweenUptoSaid : Prop := rankBetweenUptoRow.holds Tryz.pinned (OpenSpec.upto rankBetweenSpec)

/-- 'punnetlaw16.BulkThree', WHERE WHAT IT READS IS OF BULK AT MOST 1048576: true; the input reads as it did. -/
def bulkThreeUptoRow : OpenClaim := { program := "ytechphliifginaagreatdoor", sum := "19236971e510cd8d654ba639cf507463c0890b6c96725eeb43288fb9fb06261a", func := "punnet/punnetlaw16.BulkThree", spec := "bulkThree", unfollowed := true, recurses := true, named := ["math/bits.deBruijn64tab", "math/bits.deBruijn32tab"], apart := false, laid := [("math/bits.deBruijn32tab", laid_math_bits_deBruijn32tab), ("math/bits.deBruijn64tab", laid_math_bits_deBruijn64tab)], narrowed := true }
def BulkThreeUptoSaid : Prop := bulkThreeUptoRow.holds Tryz.pinned (OpenSpec.upto bulkThreeSpec)

/-- 'punnetlaw16.BulkLaws', WHERE WHAT IT READS IS OF BULK AT MOST 1048576: true; the input reads as it did. -/
def bulkLawsUptoRow : OpenClaim := { program := "ytechphliifginaagreatdoor", sum := "19236971e510cd8d654ba639cf507463c0890b6c96725eeb43288fb9fb06261a", func := "punnet/punnetlaw16.BulkLaws", spec := "bulkLaws", unfollowed := true, recurses := true, named := ["math/bits.deBruijn64tab", "math/bits.deBruijn32tab"], apart := false, laid := [("math/bits.deBruijn32tab", laid_math_bits_deBruijn32tab), ("math/bits.deBruijn64tab", laid_math_bits_deBruijn64tab)], narrowed := true }
def BulkLawsUptoSaid : Prop := bulkLawsUptoRow.holds Tryz.pinned (OpenSpec.upto bulkLawsSpec)

/-- 'punnetlaw16.BulkSteps', WHERE WHAT IT READS IS OF BULK AT MOST 1048576: true; the input reads as it did. -/
def bulkStepsUptoRow : OpenClaim := { program := "ytechphliifginaagreatdoor", sum := "19236971e510cd8d654ba639cf507463c0890b6c96725eeb43288fb9fb06261a", func := "punnet/punnetlaw16.BulkSteps", spec := "bulkSteps", unfollowed := true, recurses := true, named := ["math/bits.deBruijn64tab", "math/bits.deBruijn32tab"], apart := false, laid := [("math/bits.deBruijn32tab", laid_math_bits_deBruijn32tab), ("math/bits.deBruijn64tab", laid_math_bits_deBruijn64tab)], narrowed := true }
def BulkStepsUptoSaid : Prop := bulkStepsUptoRow.holds Tryz.pinned (OpenSpec.upto bulkStepsSpec)

end Rows
end Go.Proofs.YtechphliifginaaGreatDoor
