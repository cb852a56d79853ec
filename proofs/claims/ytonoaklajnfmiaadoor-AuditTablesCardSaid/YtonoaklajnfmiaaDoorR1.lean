/- The arguments of the laws of audit, opened: slices of slots and numbers, slices of numbers. -/
import Derived.Test.YtonoaklajnfmiaaDoorRows
import Derived.Test.YtonoaklajnfmiaaDoorTie
import Derived.Test.YtonoaklajnfmiaaDoorCards
import Derived.Test.YtonoaklajnfmiaaDoorR0
import Derived.Test.YtonoaklajnfmiaaDoorE1
import Derived.SevenTiedAt
set_option linter.unusedVariables false
set_option linter.unusedSimpArgs false
namespace Go.Proofs.YtonoaklajnfmiaaDoor
open Go.ChangeShapes Go.WideShapes Go.ChangeAt Go.RowKit Go.Deep
open Go.Joins

theorem cellsAt : Tryd.prog.cellsOf 61 = 2 := by kernel_rfl
theorem cellsArray : Tryd.prog.cellsOf 24 = 2 := by kernel_rfl
/-- A slice of slots and numbers, opened. -/
theorem open_at {H : Type} {enc : TypeId × Value → H} {w : World} {held : Bool} {fuel : Nat} {v : Value} {y : DataW H × List MemPlace} (h : DataW.trod enc Tryd.prog w 0 (fun _ => true) held fuel 22 [v] = some y) : ∃ l, RdAt w v l := by
  rcases open_slice_fields Tryd.underlying22 Tryd.underlying61 (by kernel_rfl) (by rw [cellsAt]; rfl) h with ⟨hcs, _⟩ | ⟨a, len, cap, m, D, Pl, hcs, _, hl, _, hm, _, hi⟩
  · injection hcs with hcs
    subst hcs
    exact ⟨[], none, 0, rfl, fun h => by simp at h⟩
  · injection hcs with hcs
    subst hcs
    simp only [if_true] at hm
    subst hm
    have hp : ∀ i : Nat, ∃ p : Int × Int, i < m → w.cell? (a.add (i * 2 + 0)) = some (.int .i64 p.1) ∧ w.cell? (a.add (i * 2 + 1)) = some (.int .i64 p.2) := by
      intro i
      by_cases h : i < m
      · obtain ⟨ys, n, _, _, _, hf⟩ := hi i h
        obtain ⟨v0, y0, hc0, _, ht0⟩ := hf 0 _ rfl
        obtain ⟨v1, y1, hc1, _, ht1⟩ := hf 1 _ rfl
        obtain ⟨n0, rfl, _⟩ := trod_i64 Tryd.underlying3 ht0
        obtain ⟨n1, rfl, _⟩ := trod_i64 Tryd.underlying3 ht1
        exact ⟨(n0, n1), fun _ => ⟨hc0, hc1⟩⟩
      · exact ⟨(0, 0), fun h' => (h h').elim⟩
    obtain ⟨f, hf⟩ := Classical.axiomOfChoice hp
    refine ⟨(List.range len).map f, some a, m, by simp, fun hp => ?_⟩
    rw [List.length_map, List.length_range] at hp
    have hflat := flat_of_cell (hf 0 (by omega)).1
    refine ⟨a.block, a.off, by rw [← hflat], fun j p hj => ?_⟩
    rw [List.getElem?_map] at hj
    obtain ⟨k, hk, rfl⟩ := Option.map_eq_some_iff.1 hj
    obtain ⟨hk1, hk2⟩ := List.getElem?_eq_some_iff.1 hk
    simp at hk1 hk2
    subst hk2
    have h2 := hf j (by omega)
    rw [hflat, add_flat, add_flat] at h2
    exact h2

/-- A slice of numbers, opened. -/
theorem open_rd {H : Type} {enc : TypeId × Value → H} {w : World} {held : Bool} {fuel : Nat} {v : Value} {y : DataW H × List MemPlace} (h : DataW.trod enc Tryd.prog w 0 (fun _ => true) held fuel 30 [v] = some y) : ∃ l, Rd w v (ints' l) := by
  rcases open_ints Tryd.underlying30 Tryd.underlying3 (by kernel_rfl) h with ⟨hcs, _⟩ | ⟨a, len, cap, zs, hcs, _, hl, hm, hz, _, hi, _⟩
  · injection hcs with hcs
    subst hcs
    exact ⟨[], none, 0, rfl, by decide, fun h => by simp [ints'] at h⟩
  · injection hcs with hcs
    subst hcs
    simp only [if_true] at hz
    have hlen : (zs.take len).length = len := by rw [List.length_take]; omega
    refine ⟨zs.take len, some a, cap, by rw [ints'_length, hlen], by rw [ints'_length, hlen]; unfold maxLen at hm; omega, fun _ => ⟨a, rfl, fun j u hj => ?_⟩⟩
    rw [ints', List.getElem?_map] at hj
    obtain ⟨x, hx, rfl⟩ := Option.map_eq_some_iff.1 hj
    obtain ⟨hj1, hj2⟩ := List.getElem?_eq_some_iff.1 hx
    rw [hlen] at hj1
    have := hi j (by omega)
    rw [List.getElem?_take_of_lt hj1] at hx
    rw [List.getD_eq_getElem?_getD, hx] at this
    exact this
end Go.Proofs.YtonoaklajnfmiaaDoor
