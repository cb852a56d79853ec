/- The arguments of the laws of pma, opened: slices of acts, slices of numbers. -/
import Derived.Test.YtanefeeneladnaaDoorRows
import Derived.Test.YtanefeeneladnaaDoorTie
import Derived.Test.YtanefeeneladnaaDoorCards
import Derived.Test.YtanefeeneladnaaDoorR9
import Derived.Test.YtanefeeneladnaaDoorGR
set_option linter.unusedVariables false
set_option linter.unusedSimpArgs false
namespace Go.Proofs.YtanefeeneladnaaDoor
open Go.ChangeShapes Go.WideShapes Go.ChangeAt Go.RowKit Go.Deep
open Go.Joins

theorem cellsAct : Tryd.prog.cellsOf 30 = 4 := by kernel_rfl
/-- A slice of acts, opened. -/
theorem open_ac {H : Type} {enc : TypeId × Value → H} {w : World} {held : Bool} {fuel : Nat} {v : Value} {y : DataW H × List MemPlace} (h : DataW.trod enc Tryd.prog w 0 (fun _ => true) held fuel 22 [v] = some y) : ∃ l, RdAc w v l := by
  rcases open_slice_fields Tryd.underlying22 Tryd.underlying30 (by kernel_rfl) (by rw [cellsAct]; rfl) h with ⟨hcs, _⟩ | ⟨a, len, cap, m, D, Pl, hcs, _, hl, _, hm, _, hi⟩
  · injection hcs with hcs
    subst hcs
    exact ⟨[], none, 0, rfl, (fun a ha => by cases ha), (fun h => by simp at h)⟩
  · injection hcs with hcs
    subst hcs
    simp only [if_true] at hm
    subst hm
    have hp : ∀ i : Nat, ∃ p : AcT, (-9223372036854775808 ≤ p.at' ∧ p.at' ≤ 9223372036854775807) ∧ (i < m → w.cell? (a.add (i * 4 + 0)) = some (.bool p.goes) ∧ w.cell? (a.add (i * 4 + 1)) = some (.bool p.raw) ∧ w.cell? (a.add (i * 4 + 2)) = some (.int .i64 p.at') ∧ w.cell? (a.add (i * 4 + 3)) = some (.int .i64 p.x)) := by
      intro i
      by_cases h : i < m
      · obtain ⟨ys, n, _, _, _, hf⟩ := hi i h
        obtain ⟨v0, y0, hc0, _, ht0⟩ := hf 0 _ rfl
        obtain ⟨v1, y1, hc1, _, ht1⟩ := hf 1 _ rfl
        obtain ⟨v2, y2, hc2, _, ht2⟩ := hf 2 _ rfl
        obtain ⟨v3, y3, hc3, _, ht3⟩ := hf 3 _ rfl
        obtain ⟨b0, hb0, _⟩ := DataW.trod_bool Tryd.underlying4 ht0
        obtain ⟨b1, hb1, _⟩ := DataW.trod_bool Tryd.underlying4 ht1
        injection hb0 with hb0
        injection hb1 with hb1
        subst hb0 hb1
        obtain ⟨n2, rfl, h1, h2⟩ := trod_i64 Tryd.underlying3 ht2
        obtain ⟨n3, rfl, _⟩ := trod_i64 Tryd.underlying3 ht3
        exact ⟨⟨b0, b1, n2, n3⟩, ⟨h1, h2⟩, fun _ => ⟨hc0, hc1, hc2, hc3⟩⟩
      · exact ⟨⟨false, false, 0, 0⟩, ⟨by decide, by decide⟩, fun h' => (h h').elim⟩
    obtain ⟨f, hf⟩ := Classical.axiomOfChoice hp
    refine ⟨(List.range len).map f, some a, m, by simp, fun x hx => ?_, fun hp => ?_⟩
    · obtain ⟨i, _, rfl⟩ := List.mem_map.1 hx
      exact (hf i).1
    rw [List.length_map, List.length_range] at hp
    have hflat := flat_of_cell ((hf 0).2 (by omega)).1
    refine ⟨a.block, a.off, by rw [← hflat], fun j p hj => ?_⟩
    rw [List.getElem?_map] at hj
    obtain ⟨k, hk, rfl⟩ := Option.map_eq_some_iff.1 hj
    obtain ⟨hk1, hk2⟩ := List.getElem?_eq_some_iff.1 hk
    simp at hk1 hk2
    subst hk2
    have h2 := (hf j).2 (by omega)
    rw [hflat, add_flat, add_flat, add_flat, add_flat] at h2
    exact h2
end Go.Proofs.YtanefeeneladnaaDoor
