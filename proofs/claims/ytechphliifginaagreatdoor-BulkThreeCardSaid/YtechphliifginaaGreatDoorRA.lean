/- Two numbers as an argument, opened: a struct, an array. -/
import Derived.Test.YtechphliifginaaGreatDoorRM
import Derived.OpenShut
set_option linter.unusedVariables false
set_option linter.unusedSimpArgs false
namespace Go.Proofs.YtechphliifginaaGreatDoor
open Go.ChangeShapes Go.WideShapes Go.ChangeAt Go.RowKit Go.Deep
open Go.Joins

theorem cellsTaken : Tryz.prog.cellsOf 54 = 2 := by kernel_rfl
set_option maxRecDepth 100000 in
theorem open_taken {H : Type} {enc : TypeId × Value → H} {w : World} {r : Reach} {b0 : Nat} {held : Bool} {v : Value} {d : DataW H} {p : List MemPlace} (hval : Value.okWide Tryz.prog w r b0 54 v) (h : DataW.Trod enc Tryz.prog w 0 (fun _ => true) held 54 v d p) :
    ∃ x y : Int, v = .agg #[.int .i64 x, .int .i64 y] := by
  obtain ⟨cs, rfl, h2⟩ := okWide_struct Tryz.underlying54 hval
  rw [cellsTaken] at h2
  obtain ⟨l⟩ := cs
  match l, h2 with
  | [c0, c1], _ =>
    obtain ⟨n, h⟩ := h
    obtain ⟨y0, y1, m, _, _, h0, h1⟩ := trod_struct2 Tryz.underlying54 h
    obtain ⟨z0, z1⟩ := y0
    obtain ⟨z2, z3⟩ := y1
    have g0 : DataW.trod enc Tryz.prog w 0 (fun _ => true) held m 3 [c0] = some (z0, z1) := h0
    have g1 : DataW.trod enc Tryz.prog w 0 (fun _ => true) held m 3 [c1] = some (z2, z3) := h1
    obtain ⟨n0, rfl, _⟩ := trod_i64 Tryz.underlying3 g0
    obtain ⟨n1, rfl, _⟩ := trod_i64 Tryz.underlying3 g1
    exact ⟨n0, n1, rfl⟩
theorem cellsTwoS : Tryz.prog.cellsOf 67 = 2 := by kernel_rfl
set_option maxRecDepth 100000 in
theorem okWide_array2S {w : World} {r : Reach} {b0 : Nat} {v : Value} (h : Value.okWide Tryz.prog w r b0 67 v) : ∃ cs, v = .agg cs ∧ cs.size = Tryz.prog.cellsOf 67 := by
  simp only [Value.okWide, Tryz.underlying67] at h
  obtain ⟨cs, h1, h2, _⟩ := h
  exact ⟨cs, h1, h2⟩
set_option maxRecDepth 100000 in
theorem open_twoS {H : Type} {enc : TypeId × Value → H} {w : World} {r : Reach} {b0 : Nat} {held : Bool} {v : Value} {d : DataW H} {p : List MemPlace} (hval : Value.okWide Tryz.prog w r b0 67 v) (h : DataW.Trod enc Tryz.prog w 0 (fun _ => true) held 67 v d p) :
    ∃ x y : Int, v = .agg #[.int .i64 x, .int .i64 y] := by
  obtain ⟨cs, rfl, h2⟩ := okWide_array2S hval
  rw [cellsTwoS] at h2
  obtain ⟨l⟩ := cs
  match l, h2 with
  | [c0, c1], _ =>
    obtain ⟨n, h⟩ := h
    obtain ⟨xs, m, _, _, _, hx, hi⟩ := DataW.trod_array Tryz.underlying67 h
    match xs, hx with
    | [y0, y1], _ =>
      obtain ⟨z0, z1⟩ := y0
      obtain ⟨z2, z3⟩ := y1
      have g0 : DataW.trod enc Tryz.prog w 0 (fun _ => true) held m 3 [c0] = some (z0, z1) := hi 0 (by omega)
      have g1 : DataW.trod enc Tryz.prog w 0 (fun _ => true) held m 3 [c1] = some (z2, z3) := hi 1 (by omega)
      obtain ⟨n0, rfl, _⟩ := trod_i64 Tryz.underlying3 g0
      obtain ⟨n1, rfl, _⟩ := trod_i64 Tryz.underlying3 g1
      exact ⟨n0, n1, rfl⟩
theorem cellsThree : Tryz.prog.cellsOf 76 = 3 := by kernel_rfl
set_option maxRecDepth 100000 in
theorem okWide_array3 {w : World} {r : Reach} {b0 : Nat} {v : Value} (h : Value.okWide Tryz.prog w r b0 76 v) : ∃ cs, v = .agg cs ∧ cs.size = Tryz.prog.cellsOf 76 := by
  simp only [Value.okWide, Tryz.underlying76] at h
  obtain ⟨cs, h1, h2, _⟩ := h
  exact ⟨cs, h1, h2⟩
set_option maxRecDepth 100000 in
theorem open_three {H : Type} {enc : TypeId × Value → H} {w : World} {r : Reach} {b0 : Nat} {held : Bool} {v : Value} {d : DataW H} {p : List MemPlace} (hval : Value.okWide Tryz.prog w r b0 76 v) (h : DataW.Trod enc Tryz.prog w 0 (fun _ => true) held 76 v d p) :
    ∃ x y z : Int, v = .agg #[.int .i64 x, .int .i64 y, .int .i64 z] := by
  obtain ⟨cs, rfl, h2⟩ := okWide_array3 hval
  rw [cellsThree] at h2
  obtain ⟨l⟩ := cs
  match l, h2 with
  | [c0, c1, c2], _ =>
    obtain ⟨n, h⟩ := h
    obtain ⟨xs, m, _, _, _, hx, hi⟩ := DataW.trod_array Tryz.underlying76 h
    match xs, hx with
    | [y0, y1, y2], _ =>
      obtain ⟨z0, z1⟩ := y0
      obtain ⟨z2, z3⟩ := y1
      obtain ⟨z4, z5⟩ := y2
      have g0 : DataW.trod enc Tryz.prog w 0 (fun _ => true) held m 3 [c0] = some (z0, z1) := hi 0 (by omega)
      have g1 : DataW.trod enc Tryz.prog w 0 (fun _ => true) held m 3 [c1] = some (z2, z3) := hi 1 (by omega)
      have g2 : DataW.trod enc Tryz.prog w 0 (fun _ => true) held m 3 [c2] = some (z4, z5) := hi 2 (by omega)
      obtain ⟨n0, rfl, _⟩ := trod_i64 Tryz.underlying3 g0
      obtain ⟨n1, rfl, _⟩ := trod_i64 Tryz.underlying3 g1
      obtain ⟨n2, rfl, _⟩ := trod_i64 Tryz.underlying3 g2
      exact ⟨n0, n1, n2, rfl⟩
theorem cellsThreeR : Tryz.prog.cellsOf 76 = 3 := by kernel_rfl
set_option maxRecDepth 100000 in
theorem okWide_array3R {w : World} {r : Reach} {b0 : Nat} {v : Value} (h : Value.okWide Tryz.prog w r b0 76 v) : ∃ cs, v = .agg cs ∧ cs.size = Tryz.prog.cellsOf 76 := by
  simp only [Value.okWide, Tryz.underlying76] at h
  obtain ⟨cs, h1, h2, _⟩ := h
  exact ⟨cs, h1, h2⟩
set_option maxRecDepth 100000 in
theorem open_threeR {H : Type} {enc : TypeId × Value → H} {w : World} {r : Reach} {b0 : Nat} {held : Bool} {v : Value} {d : DataW H} {p : List MemPlace} (hval : Value.okWide Tryz.prog w r b0 76 v) (h : DataW.Trod enc Tryz.prog w 0 (fun _ => true) held 76 v d p) :
    ∃ x y z : Int, v = .agg #[.int .i64 x, .int .i64 y, .int .i64 z] := by
  obtain ⟨cs, rfl, h2⟩ := okWide_array3R hval
  rw [cellsThreeR] at h2
  obtain ⟨l⟩ := cs
  match l, h2 with
  | [c0, c1, c2], _ =>
    obtain ⟨n, h⟩ := h
    obtain ⟨xs, m, _, _, _, hx, hi⟩ := DataW.trod_array Tryz.underlying76 h
    match xs, hx with
    | [y0, y1, y2], _ =>
      obtain ⟨z0, z1⟩ := y0
      obtain ⟨z2, z3⟩ := y1
      obtain ⟨z4, z5⟩ := y2
      have g0 : DataW.trod enc Tryz.prog w 0 (fun _ => true) held m 3 [c0] = some (z0, z1) := hi 0 (by omega)
      have g1 : DataW.trod enc Tryz.prog w 0 (fun _ => true) held m 3 [c1] = some (z2, z3) := hi 1 (by omega)
      have g2 : DataW.trod enc Tryz.prog w 0 (fun _ => true) held m 3 [c2] = some (z4, z5) := hi 2 (by omega)
      obtain ⟨n0, rfl, _⟩ := trod_i64 Tryz.underlying3 g0
      obtain ⟨n1, rfl, _⟩ := trod_i64 Tryz.underlying3 g1
      obtain ⟨n2, rfl, _⟩ := trod_i64 Tryz.underlying3 g2
      exact ⟨n0, n1, n2, rfl⟩
theorem cellsThreeS : Tryz.prog.cellsOf 82 = 3 := by kernel_rfl
set_option maxRecDepth 100000 in
theorem okWide_array3S {w : World} {r : Reach} {b0 : Nat} {v : Value} (h : Value.okWide Tryz.prog w r b0 82 v) : ∃ cs, v = .agg cs ∧ cs.size = Tryz.prog.cellsOf 82 := by
  simp only [Value.okWide, Tryz.underlying82] at h
  obtain ⟨cs, h1, h2, _⟩ := h
  exact ⟨cs, h1, h2⟩
set_option maxRecDepth 100000 in
theorem open_threeS {H : Type} {enc : TypeId × Value → H} {w : World} {r : Reach} {b0 : Nat} {held : Bool} {v : Value} {d : DataW H} {p : List MemPlace} (hval : Value.okWide Tryz.prog w r b0 82 v) (h : DataW.Trod enc Tryz.prog w 0 (fun _ => true) held 82 v d p) :
    ∃ (u0 u1 u2 : Value) (l0 l1 l2 : List Int), v = .agg #[u0, u1, u2] ∧ Rd w u0 (ints' l0) ∧ Rd w u1 (ints' l1) ∧ Rd w u2 (ints' l2) := by
  obtain ⟨cs, rfl, h2⟩ := okWide_array3S hval
  rw [cellsThreeS] at h2
  obtain ⟨l⟩ := cs
  match l, h2 with
  | [c0, c1, c2], _ =>
    obtain ⟨n, h⟩ := h
    obtain ⟨xs, m, _, _, _, hx, hi⟩ := DataW.trod_array Tryz.underlying82 h
    match xs, hx with
    | [y0, y1, y2], _ =>
      obtain ⟨l0, hl0⟩ := open_rd (v := c0) (hi 0 (by omega))
      obtain ⟨l1, hl1⟩ := open_rd (v := c1) (hi 1 (by omega))
      obtain ⟨l2, hl2⟩ := open_rd (v := c2) (hi 2 (by omega))
      exact ⟨c0, c1, c2, l0, l1, l2, rfl, hl0, hl1, hl2⟩
end Go.Proofs.YtechphliifginaaGreatDoor
