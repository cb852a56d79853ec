/- The arguments of the laws of order, opened: slices of acts. -/
import Derived.Test.YtogjfaiidciedaaGreatDoorRows
import Derived.Test.YtogjfaiidciedaaGreatDoorTie
import Derived.Test.YtogjfaiidciedaaGreatDoorCards
import Derived.Test.YtogjfaiidciedaaGreatDoorR9
import Derived.Test.YtogjfaiidciedaaGreatDoorOR
set_option linter.unusedVariables false
set_option linter.unusedSimpArgs false
namespace Go.Proofs.YtogjfaiidciedaaGreatDoor
open Go.ChangeShapes Go.WideShapes Go.ChangeAt Go.RowKit Go.Deep
open Go.Joins

theorem cellsAct : Tryz.prog.cellsOf 44 = 3 := by kernel_rfl
/-- A slice of acts, opened. -/
theorem open_ao {H : Type} {enc : TypeId × Value → H} {w : World} {held : Bool} {fuel : Nat} {v : Value} {y : DataW H × List MemPlace} (h : DataW.trod enc Tryz.prog w 0 (fun _ => true) held fuel 22 [v] = some y) : ∃ l, RdAo w v l := by
  rcases open_slice_fields Tryz.underlying22 Tryz.underlying44 (by kernel_rfl) (by rw [cellsAct]; rfl) h with ⟨hcs, _⟩ | ⟨a, len, cap, m, D, Pl, hcs, _, hl, _, hm, _, hi⟩
  · injection hcs with hcs
    subst hcs
    exact ⟨[], none, 0, rfl, (fun a ha => by cases ha), (fun h => by simp at h)⟩
  · injection hcs with hcs
    subst hcs
    simp only [if_true] at hm
    subst hm
    have hp : ∀ i : Nat, ∃ p : AcO, (-9223372036854775808 ≤ p.hh ∧ p.hh ≤ 9223372036854775807) ∧ (i < m → w.cell? (a.add (i * 3 + 0)) = some (.int .i64 p.d) ∧ w.cell? (a.add (i * 3 + 1)) = some (.bool p.raw) ∧ w.cell? (a.add (i * 3 + 2)) = some (.int .i64 p.hh)) := by
      intro i
      by_cases h : i < m
      · obtain ⟨ys, n, _, _, _, hf⟩ := hi i h
        obtain ⟨v0, y0, hc0, _, ht0⟩ := hf 0 _ rfl
        obtain ⟨v1, y1, hc1, _, ht1⟩ := hf 1 _ rfl
        obtain ⟨v2, y2, hc2, _, ht2⟩ := hf 2 _ rfl
        obtain ⟨b1, hb1, _⟩ := DataW.trod_bool Tryz.underlying4 ht1
        injection hb1 with hb1
        subst hb1
        obtain ⟨n0, rfl, _, _⟩ := trod_i64 Tryz.underlying3 ht0
        obtain ⟨n2, rfl, h1, h2⟩ := trod_i64 Tryz.underlying3 ht2
        exact ⟨⟨n0, b1, n2⟩, ⟨h1, h2⟩, fun _ => ⟨hc0, hc1, hc2⟩⟩
      · exact ⟨⟨0, false, 0⟩, ⟨by decide, by decide⟩, fun h' => (h h').elim⟩
    obtain ⟨f, hf⟩ := Classical.axiomOfChoice hp
    refine ⟨(List.range len).map f, some a, m, by simp, fun x hx => ?_, fun hp => ?_⟩
    · obtain ⟨i, _, rfl⟩ := List.mem_map.1 hx
      exact (hf i).1
    rw [List.length_map, List.length_range] at hp
    have hflat := flat_of_cell ((hf 0).2 (by omega)).1
    refine ⟨a.block, a.off, by rw [← hflat], fun j p hj => ?_⟩
    rw [List.getElem?_map] at hj
    obtain ⟨k, hk, rfl⟩ := Option.map_eq_some_iff.1 hj
    obtain ⟨hk1, hk2⟩ := List.getElem?_eq_some_iff.1 hk
    simp at hk1 hk2
    subst hk2
    have h2 := (hf j).2 (by omega)
    rw [hflat, add_flat, add_flat, add_flat] at h2
    exact h2
end Go.Proofs.YtogjfaiidciedaaGreatDoor
