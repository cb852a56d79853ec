/- A set that is made, as an argument, opened. -/
import Derived.Test.YtechphliifginaaGreatDoorRI
import Derived.Test.YtechphliifginaaGreatDoorGX
import Derived.WideShapes
import Derived.ChangeSame
set_option linter.unusedVariables false
set_option linter.unusedSimpArgs false
namespace Go.Proofs.YtechphliifginaaGreatDoor
open Go.ChangeShapes Go.WideShapes Go.ChangeAt Go.RowKit Go.Deep
open Go.Joins

theorem cellsActM : Tryz.prog.cellsOf 118 = 2 := by kernel_rfl
theorem cellsMade : Tryz.prog.cellsOf 52 = 2 := by kernel_rfl
/-- A slice of acts, opened. -/
theorem open_am {H : Type} {enc : TypeId × Value → H} {w : World} {held : Bool} {fuel : Nat} {v : Value} {y : DataW H × List MemPlace} (h : DataW.trod enc Tryz.prog w 0 (fun _ => true) held fuel 50 [v] = some y) : ∃ l, RdAm w v l := by
  rcases open_slice_fields Tryz.underlying50 Tryz.underlying118 (by kernel_rfl) (by rw [cellsActM]; rfl) h with ⟨hcs, _⟩ | ⟨a, len, cap, m, D, Pl, hcs, _, hl, _, hm, _, hi⟩
  · injection hcs with hcs
    subst hcs
    exact ⟨[], none, 0, rfl, (fun a ha => by cases ha), (fun h => by simp at h)⟩
  · injection hcs with hcs
    subst hcs
    simp only [if_true] at hm
    subst hm
    have hp : ∀ i : Nat, ∃ p : AcS, (-9223372036854775808 ≤ p.key ∧ p.key ≤ 9223372036854775807) ∧ (i < m → w.cell? (a.add (i * 2 + 0)) = some (.int .i64 p.key) ∧ w.cell? (a.add (i * 2 + 1)) = some (.bool p.goes)) := by
      intro i
      by_cases h : i < m
      · obtain ⟨ys, n, _, _, _, hf⟩ := hi i h
        obtain ⟨v0, y0, hc0, _, ht0⟩ := hf 0 _ rfl
        obtain ⟨v1, y1, hc1, _, ht1⟩ := hf 1 _ rfl
        obtain ⟨b1, hb1, _⟩ := DataW.trod_bool Tryz.underlying4 ht1
        injection hb1 with hb1
        subst hb1
        obtain ⟨n1, rfl, h1, h2⟩ := trod_i64 Tryz.underlying3 ht0
        exact ⟨⟨b1, n1⟩, ⟨h1, h2⟩, fun _ => ⟨hc0, hc1⟩⟩
      · exact ⟨⟨false, 0⟩, ⟨by decide, by decide⟩, fun h' => (h h').elim⟩
    obtain ⟨f, hf⟩ := Classical.axiomOfChoice hp
    refine ⟨(List.range len).map f, some a, m, by simp, fun x hx => ?_, fun hp => ?_⟩
    · obtain ⟨i, _, rfl⟩ := List.mem_map.1 hx
      exact (hf i).1
    rw [List.length_map, List.length_range] at hp
    have hflat := flat_of_cell ((hf 0).2 (by omega)).1
    refine ⟨a.block, a.off, by rw [← hflat], fun j p hj => ?_⟩
    rw [List.getElem?_map] at hj
    obtain ⟨k, hk, rfl⟩ := Option.map_eq_some_iff.1 hj
    obtain ⟨hk1, hk2⟩ := List.getElem?_eq_some_iff.1 hk
    simp at hk1 hk2
    subst hk2
    have h2 := (hf j).2 (by omega)
    rw [hflat, add_flat, add_flat] at h2
    exact h2
set_option maxRecDepth 100000 in
/-- What is made: its steps, its acts. -/
theorem open_made {H : Type} {enc : TypeId × Value → H} {w : World} {r : Reach} {b0 : Nat} {held : Bool} {v : Value} {d : DataW H} {p : List MemPlace} (hval : Value.okWide Tryz.prog w r b0 52 v) (h : DataW.Trod enc Tryz.prog w 0 (fun _ => true) held 52 v d p) :
    ∃ (u a : Value) (l : List Int) (acts : List AcS), v = .agg #[u, a] ∧ Rd w u (ints' l) ∧ RdAm w a acts := by
  obtain ⟨cs, rfl, h2⟩ := okWide_struct Tryz.underlying52 hval
  rw [cellsMade] at h2
  obtain ⟨l⟩ := cs
  match l, h2 with
  | [c0, c1], _ =>
    obtain ⟨n, h⟩ := h
    obtain ⟨y0, y1, m, _, _, h0, h1⟩ := trod_struct2 Tryz.underlying52 h
    obtain ⟨l0, hl0⟩ := open_rd (v := c0) h0
    obtain ⟨l1, hl1⟩ := open_am (v := c1) h1
    exact ⟨c0, c1, l0, l1, rfl, hl0, hl1⟩
end Go.Proofs.YtechphliifginaaGreatDoor
