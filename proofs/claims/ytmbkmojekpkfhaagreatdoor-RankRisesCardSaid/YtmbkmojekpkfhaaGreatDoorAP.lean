/- Appends of slices of int (from YJ, YK, free of law 09's own). -/
import Derived.Test.YtmbkmojekpkfhaaGreatDoorGS
import Derived.Laws.AppendOwnNone
set_option linter.unusedVariables false
set_option linter.unusedSimpArgs false
namespace Go.Proofs.YtmbkmojekpkfhaaGreatDoor
open Go.RowKit

set_option maxRecDepth 100000 in
/-- 'append(v, u...)', v a row of the call's own, u any slice of numbers. -/
theorem append_rd {ops : Array Oper} {rest : List Oper} {o : Oper} {a : Act} {Q : Exit → Act → World → Prop} {w : World} (hgd : o.guard = none) (s x : Operand)
    (ho : o.op = .call { callee := .builtin .append, args := #[s, x], argTypes := #[30, 30] }) {base : Nat} {v u : Value} {xs ys : List Int} (hs : a.eval s = v) (hv : RowI w base v xs) (hx : a.eval x = u) (hu : Rd w u (ints' ys))
    (hn : xs.length + ys.length ≤ 100000) (hb : base ≤ w.heap.size)
    (h : ∀ v' w', RowI w' base v' (xs ++ ys) → w.grownBy w' v.ownBlock → (v' = .slice none 0 0 ↔ v = .slice none 0 0 ∧ ys.length = 0) → wpList Tryz.prog ops Q rest (a.put o.dst v') w') : wpList Tryz.prog ops Q (o :: rest) a w := by
  obtain ⟨i0, hi, hz0, hz1, hz2⟩ := info_parts info_int
  obtain ⟨A, c, rfl, _, hA⟩ := hu
  rw [ints'_length] at hA hx
  cases A with
  | some ad =>
    have hc : ∀ j u, (ints' ys)[j]? = some u → w.cell? (ad.add j) = some u := fun j u hj => by
      have hl : 0 < ys.length := by
        have := (List.getElem?_eq_some_iff.1 hj).1
        rw [ints'_length] at this
        omega
      obtain ⟨ad', e, hc⟩ := hA hl
      injection e with e
      subst e
      exact hc j u hj
    refine wpList_append_own w hgd s x 30 ho base 3 i0 (.int .i64 0) 1 8 Tryz.underlying30 hi hz0 hz1 hz2 rfl (by decide) v xs.length (xs.map (Value.int .i64)) hs hv ad ys.length c (ints' ys) hx (by rw [ints'_length]; omega) hc (by intro u hu; obtain ⟨n, _, rfl⟩ := List.mem_map.1 hu; rfl) (by unfold maxLen; omega) (by omega) hb ?_
    intro v' w' hown hg hnil
    refine h v' w' ?_ hg hnil
    unfold RowI
    rw [List.length_append, List.map_append]
    exact hown
  | none =>
    have hl : ys.length = 0 := by
      rcases Nat.eq_zero_or_pos ys.length with e | e
      · exact e
      · obtain ⟨ad', e', _⟩ := hA e
        cases e'
    obtain rfl : ys = [] := List.eq_nil_of_length_eq_zero hl
    have hrun : (Builtin.append_ #[30, 30] o.type #[v, .slice none 0 c]).run Tryz.prog w = .ok v w := by
      rcases hv.2 with ⟨rfl, _⟩ | ⟨g, cap, cur, rfl, _, _, hnc, _⟩
      · simp [Builtin.append_, run_underlying Tryz.underlying30, sizeOf, typeInfo, hi, Builtin.lenOf, Builtin.firstCells]
      · simp [Builtin.append_, run_underlying Tryz.underlying30, sizeOf, typeInfo, hi, Builtin.lenOf, Builtin.firstCells, hnc, storeCells]
    refine wpList_plain hgd fun K hK => ?_
    have hh := h v w (by rw [List.append_nil]; exact hv) (World.grownBy.refl w _) (by simp)
    unfold Oper.wp
    simp only [List.length_nil] at hx
    simp [execOp, ho, resolve, invoke, builtin, hs, hx, hrun, Result.andThen]
    exact hK _ _ hh
theorem rd_take {w : World} {A : Option Addr} {n c : Nat} {xs : List Int} (h : Rd w (.slice A n c) (ints' xs)) (k : Nat) (hk : k ≤ xs.length) : Rd w (.slice A k c) (ints' (xs.take k)) := by
  obtain ⟨A', c', e, hb, hA⟩ := h
  injection e with e1 e2 e3
  subst e1 e3
  refine ⟨A, c, by rw [ints'_length, List.length_take, Nat.min_eq_left hk], by rw [ints'_length, List.length_take] at *; omega, fun hp => ?_⟩
  rw [ints'_length, List.length_take] at hp
  obtain ⟨ad, rfl, hc⟩ := hA (by rw [ints'_length]; omega)
  refine ⟨ad, rfl, fun j u hj => hc j u ?_⟩
  unfold ints' at hj ⊢
  rw [List.map_take] at hj
  obtain ⟨h1, h2⟩ := List.getElem?_eq_some_iff.1 hj
  rw [List.getElem_take] at h2
  rw [List.length_take] at h1
  exact List.getElem?_eq_some_iff.2 ⟨by omega, h2⟩
theorem rd_drop {w : World} {g n c : Nat} {xs : List Int} (h : Rd w (.slice (some ⟨g, 0, none⟩) n c) (ints' xs)) (k : Nat) (hk : k ≤ xs.length) (hn : n = xs.length) (B : Option Addr) (hB : k < xs.length → B = some ⟨g, k, none⟩) (c' : Nat) : Rd w (.slice B (n - k) c') (ints' (xs.drop k)) := by
  obtain ⟨A', c0, e, hb, hA⟩ := h
  injection e with e1 e2 e3
  subst e1 e3
  subst hn
  refine ⟨B, c', by rw [ints'_length, List.length_drop], by rw [ints'_length, List.length_drop]; rw [ints'_length] at hb; omega, fun hp => ?_⟩
  rw [ints'_length, List.length_drop] at hp
  obtain ⟨ad, e, hc⟩ := hA (by rw [ints'_length]; omega)
  injection e with e
  subst e
  refine ⟨_, hB (by omega), fun j u hj => ?_⟩
  rw [add_flat]
  have := hc (k + j) u (by
    unfold ints' at hj ⊢
    rw [List.map_drop, List.getElem?_drop] at hj
    exact hj)
  rwa [add_flat, Nat.zero_add] at this
theorem RowI.shape {w : World} {base : Nat} {v : Value} {xs : List Int} (h : RowI w base v xs) (hne : 0 < xs.length) : ∃ g cap, v = .slice (some ⟨g, 0, none⟩) xs.length cap ∧ xs.length ≤ cap ∧ ∀ j, j < xs.length → w.cell? ⟨g, j, none⟩ = some (.int .i64 (xs.getD j 0)) := by
  rcases h.2 with ⟨_, e⟩ | ⟨g, cap, cur, e, _, hg, hc, _, hs, ht⟩
  · omega
  · refine ⟨g, cap, e, hc, fun j hj => ?_⟩
    subst e
    have h1 := h.cells (g := g) rfl
    have h2 := h1 j _ (ints'_get xs j hj)
    rwa [add_flat, Nat.zero_add] at h2
theorem own_lt {w : World} {base : Nat} {v : Value} {xs : List Int} (h : RowI w base v xs) : ∀ g, v.ownBlock = some g → base ≤ g ∧ g < w.heap.size := fun g hg => by
  have := h.own_lt g hg
  exact ⟨this.2, this.1⟩
/-- A slice that is built by appends, from nil. -/
structure ApI (W : World) (xs : List Int) (v : Value) (w : World) : Prop where
  row : RowI w W.heap.size v xs
  fr : Fr Nil1 W w
  nil : xs = [] → v = .slice none 0 0
theorem ApI.start (W : World) : ApI W [] (.slice none 0 0) W := ⟨RowI.nil _ _, Fr.refl _ _, fun _ => rfl⟩
theorem ApI.new {W w w' : World} {xs : List Int} {v : Value} (H : ApI W xs v w) (hf : Fr Nil1 w w') : ApI W xs v w' := ⟨H.row.new hf, H.fr.trans hf, H.nil⟩
theorem ApI.step {W w w' : World} {xs ys : List Int} {v v' : Value} (H : ApI W xs v w) (hG : NG ≤ W.heap.size) (hr : RowI w' W.heap.size v' (xs ++ ys)) (hg : w.grownBy w' v.ownBlock) (hn : v' = .slice none 0 0 ↔ v = .slice none 0 0 ∧ ys.length = 0) : ApI W (xs ++ ys) v' w' := by
  refine ⟨hr, H.fr.grown hg (fun k e => by have := (own_lt H.row k e).1; omega) (fun k e hk => by have := (own_lt H.row k e).1; omega), fun h => ?_⟩
  obtain ⟨h1, h2⟩ := List.append_eq_nil_iff.1 h
  exact hn.2 ⟨H.nil h1, by rw [h2]; rfl⟩
theorem rd_one (w : World) (x : Int) : Rd (w.alloc (.cells #[.int .i64 x] 3)) (.slice (some ⟨w.heap.size, 0, none⟩) 1 1) (ints' [x]) := by
  refine ⟨_, 1, rfl, by rw [ints'_length, List.length_singleton]; omega, fun _ => ⟨_, rfl, fun j u hj => ?_⟩⟩
  rw [add_flat, Nat.zero_add]
  exact ((Has.new w [.int .i64 x] 3).cell j).trans hj
theorem rd_zero {w : World} (A : Option Addr) (c : Nat) {xs : List Int} (h : xs = []) : Rd w (.slice A 0 c) (ints' xs) := by
  subst h
  exact ⟨A, c, rfl, by decide, fun h => by simp [ints'] at h⟩
end Go.Proofs.YtmbkmojekpkfhaaGreatDoor
