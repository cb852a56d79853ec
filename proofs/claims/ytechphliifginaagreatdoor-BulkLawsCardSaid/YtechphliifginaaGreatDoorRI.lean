/- A slice of numbers as an argument, opened (from R1, free of audit's own). -/
import Derived.Test.YtechphliifginaaGreatDoorRows
import Derived.Test.YtechphliifginaaGreatDoorTie
import Derived.Test.YtechphliifginaaGreatDoorCards
import Derived.Test.YtechphliifginaaGreatDoorR9
set_option linter.unusedVariables false
set_option linter.unusedSimpArgs false
namespace Go.Proofs.YtechphliifginaaGreatDoor
open Go.ChangeShapes Go.WideShapes Go.ChangeAt Go.RowKit Go.Deep
open Go.Joins

/-- A slice of numbers, opened. -/
theorem open_rd {H : Type} {enc : TypeId × Value → H} {w : World} {held : Bool} {fuel : Nat} {v : Value} {y : DataW H × List MemPlace} (h : DataW.trod enc Tryz.prog w 0 (fun _ => true) held fuel 30 [v] = some y) : ∃ l, Rd w v (ints' l) := by
  rcases open_ints Tryz.underlying30 Tryz.underlying3 (by kernel_rfl) h with ⟨hcs, _⟩ | ⟨a, len, cap, zs, hcs, _, hl, hm, hz, _, hi, _⟩
  · injection hcs with hcs
    subst hcs
    exact ⟨[], none, 0, rfl, by decide, fun h => by simp [ints'] at h⟩
  · injection hcs with hcs
    subst hcs
    simp only [if_true] at hz
    have hlen : (zs.take len).length = len := by rw [List.length_take]; omega
    refine ⟨zs.take len, some a, cap, by rw [ints'_length, hlen], by rw [ints'_length, hlen]; unfold maxLen at hm; omega, fun _ => ⟨a, rfl, fun j u hj => ?_⟩⟩
    rw [ints', List.getElem?_map] at hj
    obtain ⟨x, hx, rfl⟩ := Option.map_eq_some_iff.1 hj
    obtain ⟨hj1, hj2⟩ := List.getElem?_eq_some_iff.1 hx
    rw [hlen] at hj1
    have := hi j (by omega)
    rw [List.getElem?_take_of_lt hj1] at hx
    rw [List.getD_eq_getElem?_getD, hx] at this
    exact this
end Go.Proofs.YtechphliifginaaGreatDoor
