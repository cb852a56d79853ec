/- Ranges over functions: what a body keeps; words on lists of what is occupied. -/
import Derived.RangeFuncNested
import Derived.RangeFuncBound
import Derived.RangeFuncCalls
import Derived.RangeFuncLeaves
import Derived.RangeFuncBox
import Derived.Shelf.Abstract
import Derived.Shelf.RegionOpen
import Derived.OwnWalkIn
import Derived.TacticsInMore
import Derived.LoopNIn
import Derived.LoopIn
import Derived.Maps.AppendAt
import Derived.Test.YtonoaklajnfmiaaDoorK0
set_option linter.unusedVariables false
set_option linter.unusedSimpArgs false
namespace Go.Proofs.YtonoaklajnfmiaaDoor
open Go.RowKit

theorem wideNo {p : Prop} (h : Fence.wide.depth.isSome = true) : p := by cases h
/-- What a round keeps: the package-level variables, and the blocks of T. -/
structure KeepT (T : Nat → Prop) (W W' : World) : Prop where
  size : W.heap.size ≤ W'.heap.size
  block : ∀ k, k < NG ∨ T k → k < W.heap.size → W'.heap[k]? = W.heap[k]?
namespace KeepT
variable {T : Nat → Prop} {A B C : World}
theorem refl (T : Nat → Prop) (A : World) : KeepT T A A := ⟨Nat.le_refl _, fun _ _ _ => rfl⟩
theorem trans (h : KeepT T A B) (k : KeepT T B C) : KeepT T A C :=
  ⟨Nat.le_trans h.size k.size, fun j hj hl => (k.block j hj (Nat.lt_of_lt_of_le hl h.size)).trans (h.block j hj hl)⟩
theorem putObj (w : World) (hT : ∀ k, k < NG ∨ T k → k < w.heap.size) (W : World) (l : Nat) (o o' : Obj) (hl : w.heap.size ≤ l) (ho : W.heap[l]? = some o) (hc : o.isCells = false) (hw : o.isWalk = false) : KeepT T W (W.putObj l o') :=
  ⟨by simp [World.putObj], fun k hk _ => World.putObj_heap_other (by have := hT k hk; omega)⟩
theorem of_fr {S : Nat → Prop} (h : Fr S A B) (hS : ∀ k, T k → ¬ S k) : KeepT T A B :=
  ⟨h.size, fun k hk hl => h.block k hl (fun s => by
    rcases hk with hk | hk
    · exact hk
    · exact (hS k hk s).elim)⟩
end KeepT
theorem Has.keep {T : Nat → Prop} {A B : World} {b : Nat} {c : List Value} {ty : TypeId} (h : Has A b c ty) (hk : KeepT T A B) (hb : T b) : Has B b c ty := (hk.block b (.inr hb) h.lt).trans h
theorem Has.grownBy {A B : World} {b : Nat} {c : List Value} {ty : TypeId} {row : Option Nat} (h : Has A b c ty) (hg : A.grownBy B row) (hr : ∀ r, row = some r → ∃ o : Obj, A.heap[r]? = some o ∧ o.isCells = false) : Has B b c ty := by
  refine (hg.block b h.lt (fun e => ?_)).trans h
  obtain ⟨o, ho, hc⟩ := hr b e.symm
  unfold Has at h
  rw [h] at ho
  injection ho with ho
  subst ho
  cases hc
/-- No block that is no cells and that is new turns what 'Fr' says. -/
theorem Fr.grownBy {S : Nat → Prop} {a w w' : World} {B : Nat} {row : Option Nat} (h : Fr S a w) (hg : w.grownBy w' row) (hr : ∀ r, row = some r → B ≤ r ∧ ∃ o : Obj, w.heap[r]? = some o ∧ o.isCells = false) (hB : a.heap.size ≤ B) (hG : NG ≤ a.heap.size) : Fr S a w' :=
  h.grown hg (fun k e => by have := (hr k e).1; omega) (fun k e hl => by have := (hr k e).1; omega)

/-! ### What is occupied, from left to right -/
def occTo {α : Type} (σ : List (Option α)) : Nat → List (Nat × α)
  | 0 => []
  | i + 1 => occTo σ i ++ (match σ.getD i none with
    | some x => [(i, x)]
    | none => [])
def occ {α : Type} (σ : List (Option α)) : List (Nat × α) := occTo σ σ.length
theorem occTo_none {α : Type} (σ : List (Option α)) (i : Nat) : ∀ d, (∀ j, i ≤ j → j < i + d → (σ.getD j none).isSome = false) → occTo σ (i + d) = occTo σ i
  | 0, _ => rfl
  | d + 1, h => by
    show occTo σ (i + d) ++ _ = _
    rw [occTo_none σ i d (fun j h1 h2 => h j h1 (by omega))]
    have := h (i + d) (by omega) (by omega)
    cases e : σ.getD (i + d) none with
    | none => simp
    | some x => rw [e] at this; cases this
theorem occTo_some {α : Type} (σ : List (Option α)) (i : Nat) (x : α) (h : σ.getD i none = some x) : occTo σ (i + 1) = occTo σ i ++ [(i, x)] := by
  show occTo σ i ++ _ = _
  rw [h]
theorem occTo_length {α : Type} (σ : List (Option α)) : ∀ i, (occTo σ i).length ≤ i
  | 0 => Nat.le_refl 0
  | i + 1 => by
    have := occTo_length σ i
    show (occTo σ i ++ _).length ≤ _
    rw [List.length_append]
    cases σ.getD i none <;> simp <;> omega
theorem occTo_prefix {α : Type} (σ : List (Option α)) (i : Nat) : ∀ d, occTo σ i <+: occTo σ (i + d)
  | 0 => List.prefix_refl _
  | d + 1 => (occTo_prefix σ i d).trans (List.prefix_append _ _)
def leftN (n : Nat) (v : Int) : Nat := if v < 0 then 0 else n - v.toNat
def leftOf (n : Nat) (v : Value) : Nat := leftN n (intOf v)
theorem leftOf_lt (n : Nat) (r : Nat) (v : Int) (hr : r < n) (h : v = -1 ∨ ∃ q : Nat, v = q ∧ r < q) : leftOf n (.int .i64 v) < leftOf n (.int .i64 (r : Int)) := by
  show leftN n v < leftN n r
  unfold leftN
  rcases h with rfl | ⟨q, rfl, hq⟩
  · rw [if_pos (by omega), if_neg (by omega)]
    omega
  · rw [if_neg (by omega), if_neg (by omega)]
    omega

/-! ### A slice that is collected in a variable's box -/
/-- A slice of numbers of the call's own, from block base on. -/
def RowI (w : World) (base : Nat) (v : Value) (xs : List Int) : Prop := w.ownsRow base 3 1 v xs.length (xs.map (Value.int .i64))
theorem Has.not_row {W : World} {B : Nat} {t e : TypeId} {us : List Value} (h : Has W B us t) (hte : t ≠ e) {base size k : Nat} {v : Value} {xs : List Value} (hr : W.ownsRow base e size v k xs) : some B ≠ v.ownBlock := by
  rcases hr.2 with ⟨rfl, _⟩ | ⟨g, cap, cur, rfl, _, hgb, _⟩
  · simp [Value.ownBlock]
  · intro e'
    obtain rfl : B = g := by simpa [Value.ownBlock] using e'
    unfold Has at h
    rw [h] at hgb
    simp at hgb
    exact hte hgb.2
theorem Has.kept {W W' : World} {row : Option Nat} {B : Nat} {t : TypeId} {c : List Value} (h : Has W B c t) (hg : W.grownBy W' row) (hne : some B ≠ row) : Has W' B c t := (hg.block B h.lt hne).trans h
/-- 'out = append(out, ..)', out in box B: behind the append law's two words, all that the walk owes. -/
theorem Has.appended {W w1 : World} {n₀ B : Nat} {t e : TypeId} {size : Nat} {v v' : Value} {k m : Nat} {xs ys : List Value} {tmp : Obj}
    (hv : Has W B [v] t) (hte : t ≠ e) (hrow : W.ownsRow n₀ e size v k xs) (hn₀ : n₀ ≤ W.heap.size)
    (hown' : w1.ownsRow n₀ e size v' m ys) (hgrow : (W.alloc tmp).grownBy w1 v.ownBlock) :
    Has w1 B [v] t ∧ Has (w1.setCell ⟨B, 0, none⟩ v') B [v'] t ∧ (w1.setCell ⟨B, 0, none⟩ v').ownsRow n₀ e size v' m ys ∧ KeepsOthers W (w1.setCell ⟨B, 0, none⟩ v') ∧
      (∀ q, q < n₀ → q ≠ B → (w1.setCell ⟨B, 0, none⟩ v').heap[q]? = W.heap[q]?) := by
  have hv1 : Has w1 B [v] t := (hv.alloc tmp).kept hgrow (hv.not_row hte hrow)
  have hrb : ∀ j, v.ownBlock = some j → n₀ ≤ j := by
    intro j ej
    rcases hrow.2 with ⟨rfl, _⟩ | ⟨g, cap, cur, rfl, hb, _, _⟩
    · simp [Value.ownBlock] at ej
    · obtain rfl : g = j := by simpa [Value.ownBlock] using ej
      exact hb
  refine ⟨hv1, hv1.set 0 v', hown'.kept (grownBy_setCell' w1 B v') (.inr (hv1.not_row hte hown').symm), ?_, ?_⟩
  · refine ((KeepsOthers.alloc W tmp).trans (KeepsOthers.of_grownBy hgrow fun j o ej hj => ?_)).trans (KeepsOthers.setCell _ _ _)
    rcases (hrow.alloc tmp).2 with ⟨rfl, _⟩ | ⟨g, cap, cur, rfl, _, hgb, _⟩
    · simp [Value.ownBlock] at ej
    · obtain rfl : g = j := by simpa [Value.ownBlock] using ej
      rw [hgb] at hj; cases hj; rfl
  · intro q hq hqB
    rw [Below.heap_setCell _ _ _ _ hqB, hgrow.block q (by simp; omega) (fun e => by have := hrb q e.symm; omega), Below.heap_alloc _ _ _ (by omega)]
theorem KeepT.of_low {T : Nat → Prop} {A B : World} {n₀ : Nat} {X : Nat} (hs : A.heap.size ≤ B.heap.size) (h : ∀ q, q < n₀ → q ≠ X → B.heap[q]? = A.heap[q]?) (hT : ∀ k, k < NG ∨ T k → k < n₀ ∧ k ≠ X) : KeepT T A B :=
  ⟨hs, fun k hk _ => h k (hT k hk).1 (hT k hk).2⟩
/-- What lies below is as it was. -/
structure Low (n₀ : Nat) (S : Nat → Prop) (A B : World) : Prop where
  size : A.heap.size ≤ B.heap.size
  block : ∀ q, q < n₀ → ¬ S q → B.heap[q]? = A.heap[q]?
/-- A slice that is owned stays so while another block that it can't be is turned. -/
theorem own_grown {W W' : World} {base : Nat} {e : TypeId} {size : Nat} {v : Value} {k : Nat} {xs : List Value} (h : W.ownsRow base e size v k xs) {row : Option Nat} (hg : W.grownBy W' row)
    (hr : ∀ r, row = some r → ∃ o : Obj, W.heap[r]? = some o ∧ o.isCells = false) : W'.ownsRow base e size v k xs := by
  refine h.kept hg ?_
  rcases h.2 with ⟨rfl, _⟩ | ⟨g, cap, cur, rfl, _, hgb, _⟩
  · exact .inl rfl
  · refine .inr fun e' => ?_
    obtain ⟨o, ho, hc⟩ := hr g (by simpa [Value.ownBlock] using e'.symm)
    rw [hgb] at ho; cases ho; cases hc

theorem own_mono {W : World} {b b' : Nat} {e : TypeId} {size : Nat} {v : Value} {k : Nat} {xs : List Value} (h : W.ownsRow b e size v k xs) (hb : b' ≤ b) : W.ownsRow b' e size v k xs := by
  refine ⟨h.1, ?_⟩
  rcases h.2 with h2 | ⟨g, cap, cur, hv, hg, r⟩
  · exact .inl h2
  · exact .inr ⟨g, cap, cur, hv, Nat.le_trans hb hg, r⟩
theorem Fr.putObj {S : Nat → Prop} {a w : World} (h : Fr S a w) (D : Nat) (o : Obj) (hD : a.heap.size ≤ D) (hG : NG ≤ a.heap.size) : Fr S a (w.putObj D o) :=
  h.grown (grownBy_putObj' w D o) (fun k e => by injection e with e; omega) (fun k e hl => by injection e with e; omega)
theorem Fr.appended {S : Nat → Prop} {a W w1 : World} {B : Nat} {v v' : Value} {tmp : Obj} (h : Fr S a W) (hgrow : (W.alloc tmp).grownBy w1 v.ownBlock) (hG : NG ≤ a.heap.size) (hrb : ∀ j, v.ownBlock = some j → a.heap.size ≤ j) (hB : a.heap.size ≤ B) : Fr S a (w1.setCell ⟨B, 0, none⟩ v') :=
  ((h.alloc tmp).grown hgrow (fun k e => Nat.le_trans hG (hrb k e)) (fun k e hl => by have := hrb k e; omega)).setNew ⟨B, 0, none⟩ v' hG hB
theorem own_block {W : World} {n₀ : Nat} {e : TypeId} {size : Nat} {v : Value} {k : Nat} {xs : List Value} (h : W.ownsRow n₀ e size v k xs) : ∀ j, v.ownBlock = some j → n₀ ≤ j := by
  intro j ej
  rcases h.2 with ⟨rfl, _⟩ | ⟨g, cap, cur, rfl, hb, _, _⟩
  · simp [Value.ownBlock] at ej
  · obtain rfl : g = j := by simpa [Value.ownBlock] using ej
    exact hb
end Go.Proofs.YtonoaklajnfmiaaDoor
