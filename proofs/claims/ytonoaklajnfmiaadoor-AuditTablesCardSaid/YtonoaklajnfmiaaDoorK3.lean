/- Rows of slots as the document's answer has them: two cells each. No program in sight. -/
import Derived.Test.YtonoaklajnfmiaaDoorK2
set_option linter.unusedVariables false
set_option linter.unusedSimpArgs false
namespace Go.Proofs.YtonoaklajnfmiaaDoor
open Go.RowKit

theorem wrapMod (x n : Int) (hn : 0 < n) : (x.tmod n + n) % n = x % n ∧ -n < x.tmod n ∧ x.tmod n < n := by
  have h1 := Int.emod_nonneg x (show n ≠ 0 by omega)
  have h2 := Int.emod_lt_of_pos x hn
  have h3 : x.tmod n = x % n ∨ x.tmod n = x % n - n := by
    have h4 := Int.tmod_eq_emod (a := x) (b := n)
    by_cases hc : 0 ≤ x ∨ n ∣ x
    · rw [if_pos hc] at h4
      exact .inl (by omega)
    · rw [if_neg hc] at h4
      exact .inr (by omega)
  have h5 := Int.emod_add_mul_ediv x n
  rcases h3 with h | h
  · rw [h, Int.add_emod_right, Int.emod_emod]
    exact ⟨rfl, by omega, by omega⟩
  · rw [h, Int.sub_add_cancel, Int.emod_emod]
    refine ⟨rfl, ?_, by omega⟩
    have h6 : x % n ≠ 0 ∨ x.tmod n = 0 := by
      by_cases e : x % n = 0
      · exact .inr (Int.tmod_eq_zero_of_dvd (Int.dvd_of_emod_eq_zero e))
      · exact .inl e
    omega

/-- The cells of slots: whether it is occupied; what is in it. -/
def slotCells : List (Option Int) → List Value
  | [] => []
  | o :: r => .bool o.isSome :: .int .i64 (o.getD 0) :: slotCells r
theorem slotCells_length : ∀ l, (slotCells l).length = 2 * l.length
  | [] => rfl
  | o :: r => by simp [slotCells, slotCells_length r]; omega
theorem slotCells_get0 : ∀ (l : List (Option Int)) (k : Nat), k < l.length → (slotCells l)[k * 2]? = some (.bool (l.getD k none).isSome)
  | [], k, h => by simp at h
  | o :: r, 0, _ => rfl
  | o :: r, k + 1, h => by
    have := slotCells_get0 r k (by simp at h; omega)
    rw [show (k + 1) * 2 = k * 2 + 1 + 1 by omega]
    simpa [slotCells] using this
theorem slotCells_get1 : ∀ (l : List (Option Int)) (k : Nat), k < l.length → (slotCells l)[k * 2 + 1]? = some (.int .i64 ((l.getD k none).getD 0))
  | [], k, h => by simp at h
  | o :: r, 0, _ => rfl
  | o :: r, k + 1, h => by
    have := slotCells_get1 r k (by simp at h; omega)
    rw [show (k + 1) * 2 + 1 = k * 2 + 1 + 1 + 1 by omega]
    simpa [slotCells] using this
theorem slotCells_set : ∀ (l : List (Option Int)) (k : Nat) (x : Option Int), ((slotCells l).set (k * 2) (.bool x.isSome)).set (k * 2 + 1) (.int .i64 (x.getD 0)) = slotCells (l.set k x)
  | [], k, x => by simp [slotCells]
  | o :: r, 0, x => rfl
  | o :: r, k + 1, x => by
    have := slotCells_set r k x
    rw [show (k + 1) * 2 + 1 = k * 2 + 1 + 1 + 1 by omega, show (k + 1) * 2 = k * 2 + 1 + 1 by omega]
    simp only [slotCells, List.set_cons_succ]
    rw [this]
theorem madeCells_two (a b : Value) : ∀ n, (madeCells #[a, b] (n * 2)).toList = (List.replicate n [a, b]).flatten := by
  intro n
  apply List.ext_getElem
  · simp [madeCells, List.length_flatten]
  · intro i h1 h2
    have e : ∀ (m i : Nat) (h : i < ((List.replicate m [a, b]).flatten).length), ((List.replicate m [a, b]).flatten)[i] = if i % 2 = 0 then a else b := by
      intro m
      induction m with
      | zero => intro i h; simp at h
      | succ m ih =>
        intro i h
        match i with
        | 0 => simp [List.replicate_succ]
        | 1 => simp [List.replicate_succ]
        | i + 2 =>
          simp only [List.replicate_succ, List.flatten_cons, List.cons_append, List.nil_append, List.getElem_cons_succ]
          rw [ih]
          rw [show (i + 2) % 2 = i % 2 by omega]
    rw [e]
    simp only [madeCells, Array.toList_ofFn, List.getElem_ofFn]
    rcases (by omega : i % 2 = 0 ∨ i % 2 = 1) with h | h
    · simp [h]
    · simp [h]
theorem slotCells_none : ∀ n, slotCells (List.replicate n none) = (List.replicate n [Value.bool false, Value.int .i64 0]).flatten
  | 0 => rfl
  | n + 1 => by
    rw [List.replicate_succ, List.replicate_succ, List.flatten_cons, ← slotCells_none n]
    rfl
theorem Has.made2 (w : World) (n : Nat) (T : TypeId) : Has (w.alloc (.cells (madeCells #[.bool false, .int .i64 0] (n * 2)) T (0, 0))) w.heap.size (slotCells (List.replicate n none)) T := by
  have := Has.new w (slotCells (List.replicate n none)) T
  rw [slotCells_none, ← madeCells_two] at this
  rw [slotCells_none, ← madeCells_two]
  simpa using this
/-- 'make([]Slot, m)', laid ahead of a walk. -/
theorem mk_slots {P : Program} (t e : TypeId) (bytes : Nat) (ht : P.underlying t = some (.slice e)) (hinfo : (P.info? e).map (fun i => (i.zero, i.size, i.bytes)) = some (some (.agg #[.bool false, .int .i64 0]), 2, bytes)) (hb : bytes ≤ 64)
    (m : Int) (h0 : 0 ≤ m) (hm : m ≤ 1000000000) : ∀ W : World, (Instr.makeSlice t (.int .i64 m) (.int .i64 m)).run P W = .ok (.slice (some ⟨W.heap.size, 0, none⟩) m.toNat m.toNat) (W.alloc (.cells (madeCells #[.bool false, .int .i64 0] (m.toNat * 2)) e)) := by
  intro W
  obtain ⟨n, rfl⟩ := Int.eq_ofNat_of_zero_le h0
  obtain ⟨i, hi, hz0, hz1, hz2⟩ := info_parts hinfo
  have h1 : bytes * n ≤ 64 * n := Nat.mul_le_mul_right n hb
  have hb' : (i.bytes : Int) * (n : Int) ≤ 281474976710656 := by
    have h : ((i.bytes * n : Nat) : Int) ≤ 281474976710656 := by rw [hz2]; omega
    rwa [Int.natCast_mul] at h
  have hr := run_make (P := P) W t e i _ ht hi hz0 .i64 .i64 n n (by omega) (Int.le_refl _) hb' (by omega)
  simp only [Int.toNat_natCast, hz1] at hr
  exact hr
end Go.Proofs.YtonoaklajnfmiaaDoor
