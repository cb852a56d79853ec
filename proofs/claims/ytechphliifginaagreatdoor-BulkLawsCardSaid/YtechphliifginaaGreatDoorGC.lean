/- In one: K1, K2, K4, QR, QT. -/
import Derived.RangeFuncNested
import Derived.RangeFuncBound
import Derived.RangeFuncCalls
import Derived.RangeFuncLeaves
import Derived.RangeFuncBox
import Derived.Shelf.Abstract
import Derived.Shelf.RegionOpen
import Derived.OwnWalkIn
import Derived.TacticsInMore
import Derived.LoopNIn
import Derived.LoopIn
import Derived.Maps.AppendAt
import Derived.Test.YtechphliifginaaGreatDoorGA
import Derived.OrdersIn
import Derived.Sort.QuietThIn
import Derived.StillTail
import Derived.StillTactics
/- Ranges over functions: what a body keeps; words on lists of what is occupied. -/
set_option linter.unusedVariables false
set_option linter.unusedSimpArgs false
namespace Go.Proofs.YtechphliifginaaGreatDoor
open Go.RowKit

theorem wideNo {p : Prop} (h : Fence.wide.depth.isSome = true) : p := by cases h
/-- What a round keeps: the package-level variables, and the blocks of T. -/
structure KeepT (T : Nat → Prop) (W W' : World) : Prop where
  size : W.heap.size ≤ W'.heap.size
  block : ∀ k, k < NG ∨ T k → k < W.heap.size → W'.heap[k]? = W.heap[k]?
namespace KeepT
variable {T : Nat → Prop} {A B C : World}
theorem refl (T : Nat → Prop) (A : World) : KeepT T A A := ⟨Nat.le_refl _, fun _ _ _ => rfl⟩
theorem trans (h : KeepT T A B) (k : KeepT T B C) : KeepT T A C :=
  ⟨Nat.le_trans h.size k.size, fun j hj hl => (k.block j hj (Nat.lt_of_lt_of_le hl h.size)).trans (h.block j hj hl)⟩
theorem putObj (w : World) (hT : ∀ k, k < NG ∨ T k → k < w.heap.size) (W : World) (l : Nat) (o o' : Obj) (hl : w.heap.size ≤ l) (ho : W.heap[l]? = some o) (hc : o.isCells = false) (hw : o.isWalk = false) : KeepT T W (W.putObj l o') :=
  ⟨by simp [World.putObj], fun k hk _ => World.putObj_heap_other (by have := hT k hk; omega)⟩
theorem of_fr {S : Nat → Prop} (h : Fr S A B) (hS : ∀ k, T k → ¬ S k) : KeepT T A B :=
  ⟨h.size, fun k hk hl => h.block k hl (fun s => by
    rcases hk with hk | hk
    · exact hk
    · exact (hS k hk s).elim)⟩
end KeepT
theorem Has.keep {T : Nat → Prop} {A B : World} {b : Nat} {c : List Value} {ty : TypeId} (h : Has A b c ty) (hk : KeepT T A B) (hb : T b) : Has B b c ty := (hk.block b (.inr hb) h.lt).trans h
theorem Has.grownBy {A B : World} {b : Nat} {c : List Value} {ty : TypeId} {row : Option Nat} (h : Has A b c ty) (hg : A.grownBy B row) (hr : ∀ r, row = some r → ∃ o : Obj, A.heap[r]? = some o ∧ o.isCells = false) : Has B b c ty := by
  refine (hg.block b h.lt (fun e => ?_)).trans h
  obtain ⟨o, ho, hc⟩ := hr b e.symm
  unfold Has at h
  rw [h] at ho
  injection ho with ho
  subst ho
  cases hc
/-- No block that is no cells and that is new turns what 'Fr' says. -/
theorem Fr.grownBy {S : Nat → Prop} {a w w' : World} {B : Nat} {row : Option Nat} (h : Fr S a w) (hg : w.grownBy w' row) (hr : ∀ r, row = some r → B ≤ r ∧ ∃ o : Obj, w.heap[r]? = some o ∧ o.isCells = false) (hB : a.heap.size ≤ B) (hG : NG ≤ a.heap.size) : Fr S a w' :=
  h.grown hg (fun k e => by have := (hr k e).1; omega) (fun k e hl => by have := (hr k e).1; omega)

/-! ### What is occupied, from left to right -/
def occTo {α : Type} (σ : List (Option α)) : Nat → List (Nat × α)
  | 0 => []
  | i + 1 => occTo σ i ++ (match σ.getD i none with
    | some x => [(i, x)]
    | none => [])
def occ {α : Type} (σ : List (Option α)) : List (Nat × α) := occTo σ σ.length
theorem occTo_none {α : Type} (σ : List (Option α)) (i : Nat) : ∀ d, (∀ j, i ≤ j → j < i + d → (σ.getD j none).isSome = false) → occTo σ (i + d) = occTo σ i
  | 0, _ => rfl
  | d + 1, h => by
    show occTo σ (i + d) ++ _ = _
    rw [occTo_none σ i d (fun j h1 h2 => h j h1 (by omega))]
    have := h (i + d) (by omega) (by omega)
    cases e : σ.getD (i + d) none with
    | none => simp
    | some x => rw [e] at this; cases this
theorem occTo_some {α : Type} (σ : List (Option α)) (i : Nat) (x : α) (h : σ.getD i none = some x) : occTo σ (i + 1) = occTo σ i ++ [(i, x)] := by
  show occTo σ i ++ _ = _
  rw [h]
theorem occTo_length {α : Type} (σ : List (Option α)) : ∀ i, (occTo σ i).length ≤ i
  | 0 => Nat.le_refl 0
  | i + 1 => by
    have := occTo_length σ i
    show (occTo σ i ++ _).length ≤ _
    rw [List.length_append]
    cases σ.getD i none <;> simp <;> omega
theorem occTo_prefix {α : Type} (σ : List (Option α)) (i : Nat) : ∀ d, occTo σ i <+: occTo σ (i + d)
  | 0 => List.prefix_refl _
  | d + 1 => (occTo_prefix σ i d).trans (List.prefix_append _ _)
def leftN (n : Nat) (v : Int) : Nat := if v < 0 then 0 else n - v.toNat
def leftOf (n : Nat) (v : Value) : Nat := leftN n (intOf v)
theorem leftOf_lt (n : Nat) (r : Nat) (v : Int) (hr : r < n) (h : v = -1 ∨ ∃ q : Nat, v = q ∧ r < q) : leftOf n (.int .i64 v) < leftOf n (.int .i64 (r : Int)) := by
  show leftN n v < leftN n r
  unfold leftN
  rcases h with rfl | ⟨q, rfl, hq⟩
  · rw [if_pos (by omega), if_neg (by omega)]
    omega
  · rw [if_neg (by omega), if_neg (by omega)]
    omega

/-! ### A slice that is collected in a variable's box -/
/-- A slice of numbers of the call's own, from block base on. -/
def RowI (w : World) (base : Nat) (v : Value) (xs : List Int) : Prop := w.ownsRow base 3 1 v xs.length (xs.map (Value.int .i64))
theorem Has.not_row {W : World} {B : Nat} {t e : TypeId} {us : List Value} (h : Has W B us t) (hte : t ≠ e) {base size k : Nat} {v : Value} {xs : List Value} (hr : W.ownsRow base e size v k xs) : some B ≠ v.ownBlock := by
  rcases hr.2 with ⟨rfl, _⟩ | ⟨g, cap, cur, rfl, _, hgb, _⟩
  · simp [Value.ownBlock]
  · intro e'
    obtain rfl : B = g := by simpa [Value.ownBlock] using e'
    unfold Has at h
    rw [h] at hgb
    simp at hgb
    exact hte hgb.2
theorem Has.kept {W W' : World} {row : Option Nat} {B : Nat} {t : TypeId} {c : List Value} (h : Has W B c t) (hg : W.grownBy W' row) (hne : some B ≠ row) : Has W' B c t := (hg.block B h.lt hne).trans h
/-- 'out = append(out, ..)', out in box B: behind the append law's two words, all that the walk owes. -/
theorem Has.appended {W w1 : World} {n₀ B : Nat} {t e : TypeId} {size : Nat} {v v' : Value} {k m : Nat} {xs ys : List Value} {tmp : Obj}
    (hv : Has W B [v] t) (hte : t ≠ e) (hrow : W.ownsRow n₀ e size v k xs) (hn₀ : n₀ ≤ W.heap.size)
    (hown' : w1.ownsRow n₀ e size v' m ys) (hgrow : (W.alloc tmp).grownBy w1 v.ownBlock) :
    Has w1 B [v] t ∧ Has (w1.setCell ⟨B, 0, none⟩ v') B [v'] t ∧ (w1.setCell ⟨B, 0, none⟩ v').ownsRow n₀ e size v' m ys ∧ KeepsOthers W (w1.setCell ⟨B, 0, none⟩ v') ∧
      (∀ q, q < n₀ → q ≠ B → (w1.setCell ⟨B, 0, none⟩ v').heap[q]? = W.heap[q]?) := by
  have hv1 : Has w1 B [v] t := (hv.alloc tmp).kept hgrow (hv.not_row hte hrow)
  have hrb : ∀ j, v.ownBlock = some j → n₀ ≤ j := by
    intro j ej
    rcases hrow.2 with ⟨rfl, _⟩ | ⟨g, cap, cur, rfl, hb, _, _⟩
    · simp [Value.ownBlock] at ej
    · obtain rfl : g = j := by simpa [Value.ownBlock] using ej
      exact hb
  refine ⟨hv1, hv1.set 0 v', hown'.kept (grownBy_setCell' w1 B v') (.inr (hv1.not_row hte hown').symm), ?_, ?_⟩
  · refine ((KeepsOthers.alloc W tmp).trans (KeepsOthers.of_grownBy hgrow fun j o ej hj => ?_)).trans (KeepsOthers.setCell _ _ _)
    rcases (hrow.alloc tmp).2 with ⟨rfl, _⟩ | ⟨g, cap, cur, rfl, _, hgb, _⟩
    · simp [Value.ownBlock] at ej
    · obtain rfl : g = j := by simpa [Value.ownBlock] using ej
      rw [hgb] at hj; cases hj; rfl
  · intro q hq hqB
    rw [Below.heap_setCell _ _ _ _ hqB, hgrow.block q (by simp; omega) (fun e => by have := hrb q e.symm; omega), Below.heap_alloc _ _ _ (by omega)]
theorem KeepT.of_low {T : Nat → Prop} {A B : World} {n₀ : Nat} {X : Nat} (hs : A.heap.size ≤ B.heap.size) (h : ∀ q, q < n₀ → q ≠ X → B.heap[q]? = A.heap[q]?) (hT : ∀ k, k < NG ∨ T k → k < n₀ ∧ k ≠ X) : KeepT T A B :=
  ⟨hs, fun k hk _ => h k (hT k hk).1 (hT k hk).2⟩
/-- What lies below is as it was. -/
structure Low (n₀ : Nat) (S : Nat → Prop) (A B : World) : Prop where
  size : A.heap.size ≤ B.heap.size
  block : ∀ q, q < n₀ → ¬ S q → B.heap[q]? = A.heap[q]?
/-- A slice that is owned stays so while another block that it can't be is turned. -/
theorem own_grown {W W' : World} {base : Nat} {e : TypeId} {size : Nat} {v : Value} {k : Nat} {xs : List Value} (h : W.ownsRow base e size v k xs) {row : Option Nat} (hg : W.grownBy W' row)
    (hr : ∀ r, row = some r → ∃ o : Obj, W.heap[r]? = some o ∧ o.isCells = false) : W'.ownsRow base e size v k xs := by
  refine h.kept hg ?_
  rcases h.2 with ⟨rfl, _⟩ | ⟨g, cap, cur, rfl, _, hgb, _⟩
  · exact .inl rfl
  · refine .inr fun e' => ?_
    obtain ⟨o, ho, hc⟩ := hr g (by simpa [Value.ownBlock] using e'.symm)
    rw [hgb] at ho; cases ho; cases hc

theorem own_mono {W : World} {b b' : Nat} {e : TypeId} {size : Nat} {v : Value} {k : Nat} {xs : List Value} (h : W.ownsRow b e size v k xs) (hb : b' ≤ b) : W.ownsRow b' e size v k xs := by
  refine ⟨h.1, ?_⟩
  rcases h.2 with h2 | ⟨g, cap, cur, hv, hg, r⟩
  · exact .inl h2
  · exact .inr ⟨g, cap, cur, hv, Nat.le_trans hb hg, r⟩
theorem Fr.putObj {S : Nat → Prop} {a w : World} (h : Fr S a w) (D : Nat) (o : Obj) (hD : a.heap.size ≤ D) (hG : NG ≤ a.heap.size) : Fr S a (w.putObj D o) :=
  h.grown (grownBy_putObj' w D o) (fun k e => by injection e with e; omega) (fun k e hl => by injection e with e; omega)
theorem Fr.appended {S : Nat → Prop} {a W w1 : World} {B : Nat} {v v' : Value} {tmp : Obj} (h : Fr S a W) (hgrow : (W.alloc tmp).grownBy w1 v.ownBlock) (hG : NG ≤ a.heap.size) (hrb : ∀ j, v.ownBlock = some j → a.heap.size ≤ j) (hB : a.heap.size ≤ B) : Fr S a (w1.setCell ⟨B, 0, none⟩ v') :=
  ((h.alloc tmp).grown hgrow (fun k e => Nat.le_trans hG (hrb k e)) (fun k e hl => by have := hrb k e; omega)).setNew ⟨B, 0, none⟩ v' hG hB
theorem own_block {W : World} {n₀ : Nat} {e : TypeId} {size : Nat} {v : Value} {k : Nat} {xs : List Value} (h : W.ownsRow n₀ e size v k xs) : ∀ j, v.ownBlock = some j → n₀ ≤ j := by
  intro j ej
  rcases h.2 with ⟨rfl, _⟩ | ⟨g, cap, cur, rfl, hb, _, _⟩
  · simp [Value.ownBlock] at ej
  · obtain rfl : g = j := by simpa [Value.ownBlock] using ej
    exact hb
end Go.Proofs.YtechphliifginaaGreatDoor

/- Slices that are read. No program in sight. -/
set_option linter.unusedVariables false
set_option linter.unusedSimpArgs false
namespace Go.Proofs.YtechphliifginaaGreatDoor
open Go.RowKit

theorem add_add (a : Addr) (i j : Nat) : (a.add i).add j = a.add (i + j) := by
  unfold Addr.add
  by_cases hi : i = 0 <;> by_cases hj : j = 0 <;> simp [hi, hj, Nat.add_assoc]
theorem add_block (a : Addr) (n : Nat) : (a.add n).block = a.block := by unfold Addr.add; split <;> rfl
theorem add_flat (b o j : Nat) : (⟨b, o, none⟩ : Addr).add j = ⟨b, o + j, none⟩ := by unfold Addr.add; split <;> simp_all

/-- The slice v holds just these cells (each element one cell). -/
def Rd (w : World) (v : Value) (xs : List Value) : Prop :=
  ∃ (A : Option Addr) (c : Nat), v = .slice A xs.length c ∧ xs.length ≤ 9223372036854775807 ∧ (0 < xs.length → ∃ ad, A = some ad ∧ ∀ j u, xs[j]? = some u → w.cell? (ad.add j) = some u)
def ints' (xs : List Int) : List Value := xs.map (Value.int .i64)
theorem ints'_length (xs : List Int) : (ints' xs).length = xs.length := by simp [ints']
theorem ints'_get (xs : List Int) (i : Nat) (h : i < xs.length) : (ints' xs)[i]? = some (.int .i64 (xs.getD i 0)) := by
  simp [ints', List.getD_eq_getElem?_getD, List.getElem?_eq_getElem h]

theorem Fr.cell {S : Nat → Prop} {w w' : World} {p : Addr} {v : Value} (hf : Fr S w w') (h : w.cell? p = some v) (hS : ¬ S p.block) : w'.cell? p = some v :=
  (World.cell?_of_block (w := w) (hf.block p.block (World.block_lt_of_cell? w p h) (fun s => (hS s).elim))).trans h
theorem Rd.nil (w : World) : Rd w (.slice none 0 0) [] := ⟨none, 0, rfl, by simp, fun h => by simp at h⟩
theorem Rd.new {w w' : World} {v : Value} {xs : List Value} (h : Rd w v xs) (hf : Fr Nil1 w w') : Rd w' v xs := by
  obtain ⟨A, c, rfl, hb, hA⟩ := h
  refine ⟨A, c, rfl, hb, fun hp => ?_⟩
  obtain ⟨ad, rfl, hc⟩ := hA hp
  exact ⟨ad, rfl, fun j u hu => hf.cell (hc j u hu) (fun s => s)⟩
/-- The same where the array's block is known not to be turned. -/
theorem Rd.fr {w w' : World} {v : Value} {xs : List Value} {S : Nat → Prop} (h : Rd w v xs) (hf : Fr S w w') (hS : ∀ ad n c, v = .slice (some ad) n c → ¬ S ad.block) : Rd w' v xs := by
  obtain ⟨A, c, rfl, hb, hA⟩ := h
  refine ⟨A, c, rfl, hb, fun hp => ?_⟩
  obtain ⟨ad, rfl, hc⟩ := hA hp
  exact ⟨ad, rfl, fun j u hu => hf.cell (hc j u hu) (by rw [add_block]; exact hS ad _ _ rfl)⟩
theorem RowI.rd {w : World} {base : Nat} {v : Value} {xs : List Int} (h : RowI w base v xs) (hb : xs.length ≤ 9223372036854775807) : Rd w v (ints' xs) := by
  rcases h.2 with ⟨rfl, h0⟩ | ⟨g, cap, cur, rfl, hg, hh, h1, h2, h3, h4⟩
  · have : xs = [] := List.eq_nil_of_length_eq_zero h0
    subst this
    exact Rd.nil w
  · refine ⟨some ⟨g, 0, none⟩, cap, by rw [ints'_length], by rw [ints'_length]; exact hb, fun _ => ⟨_, rfl, fun j u hu => h.cells (g := g) rfl j u hu⟩⟩
theorem RowI.nil (w : World) (base : Nat) : RowI w base (.slice none 0 0) [] := World.ownsRow_nil _ _ _ _
theorem RowI.new {w w' : World} {base : Nat} {v : Value} {xs : List Int} (h : RowI w base v xs) (hf : Fr Nil1 w w') : RowI w' base v xs := by
  refine h.kept (row := none) ⟨hf.os, hf.tape, hf.output, hf.size, fun k hk _ => hf.block k hk (fun s => s.elim)⟩ ?_
  cases v.ownBlock <;> simp
theorem RowI.fr {S : Nat → Prop} {w w' : World} {base : Nat} {v : Value} {xs : List Int} (h : RowI w base v xs) (hf : Fr S w w') (hS : ∀ k, base ≤ k → ¬ S k) : RowI w' base v xs := by
  refine ⟨h.1, ?_⟩
  rcases h.2 with h2 | ⟨g, cap, cur, hv, hg, hh, r⟩
  · exact .inl h2
  · exact .inr ⟨g, cap, cur, hv, hg, (hf.block g (Array.getElem?_eq_some_iff.1 hh).1 (fun s => (hS g hg s).elim)).trans hh, r⟩
theorem RowI.mono {w : World} {b b' : Nat} {v : Value} {xs : List Int} (h : RowI w b v xs) (hb : b' ≤ b) : RowI w b' v xs := own_mono h hb
end Go.Proofs.YtechphliifginaaGreatDoor

/- Plain: an even spread of so many elements into segments. No program in sight. -/
set_option linter.unusedVariables false
set_option linter.unusedSimpArgs false
namespace Go.Proofs.YtechphliifginaaGreatDoor
open Go.RowKit

/-- How many come into the segments ahead of one. -/
def ahd (n segs k : Nat) : Nat := k * n / segs
def shr (n segs k : Nat) : Nat := ahd n segs (k + 1) - ahd n segs k
theorem ahd_mono (n segs k : Nat) : ahd n segs k ≤ ahd n segs (k + 1) := Nat.div_le_div_right (Nat.mul_le_mul_right n (Nat.le_succ k))
theorem ahd_zero (n segs : Nat) : ahd n segs 0 = 0 := by simp [ahd]
theorem ahd_all (n segs : Nat) (h : 0 < segs) : ahd n segs segs = n := by unfold ahd; rw [Nat.mul_div_cancel_left _ h]
theorem ahd_succ (n segs k : Nat) : ahd n segs (k + 1) = ahd n segs k + shr n segs k := by have := ahd_mono n segs k; unfold shr; omega
theorem ahd_le (n segs k : Nat) (h : 0 < segs) (hk : k ≤ segs) : ahd n segs k ≤ n := by
  unfold ahd
  exact Nat.div_le_of_le_mul (Nat.mul_le_mul_right n hk)
theorem shr_le (n segs k : Nat) (h : 0 < segs) (hn : n ≤ 8 * segs) : shr n segs k ≤ 8 := by
  unfold shr ahd
  have h1 : (k + 1) * n / segs ≤ (k * n + 8 * segs) / segs := Nat.div_le_div_right (by rw [Nat.succ_mul]; omega)
  rw [Nat.add_mul_div_right _ _ h] at h1
  omega
/-- The slots of the first so many of a segment that has m elements. -/
def segTo (base m : Nat) : Nat → List Int
  | 0 => []
  | j + 1 => segTo base m j ++ [((base + j * 8 / m : Nat) : Int)]
theorem segTo_length (base m : Nat) : ∀ j, (segTo base m j).length = j
  | 0 => rfl
  | j + 1 => by unfold segTo; rw [List.length_append, segTo_length base m j]; rfl
/-- The slots of the elements of the first so many segments. -/
def plcTo (n first segs : Nat) : Nat → List Int
  | 0 => []
  | k + 1 => plcTo n first segs k ++ segTo (8 * (first + k)) (shr n segs k) (shr n segs k)
theorem plcTo_length (n first segs : Nat) : ∀ k, (plcTo n first segs k).length = ahd n segs k
  | 0 => by rw [ahd_zero]; rfl
  | k + 1 => by unfold plcTo; rw [List.length_append, plcTo_length n first segs k, segTo_length, ahd_succ]
/-- The slots of n elements, evenly spread. -/
def plcL (n first segs : Nat) : List Int := plcTo n first segs segs
theorem plcL_length (n first segs : Nat) (h : 0 < segs) : (plcL n first segs).length = n := by unfold plcL; rw [plcTo_length, ahd_all n segs h]
theorem plcTo_prefix (n first segs k : Nat) : ∀ d, plcTo n first segs k <+: plcTo n first segs (k + d)
  | 0 => List.prefix_refl _
  | d + 1 => (plcTo_prefix n first segs k d).trans (List.prefix_append _ _)
theorem segTo_prefix (base m j : Nat) : ∀ d, segTo base m j <+: segTo base m (j + d)
  | 0 => List.prefix_refl _
  | d + 1 => (segTo_prefix base m j d).trans (List.prefix_append _ _)
theorem plc_prefix (n first segs k j : Nat) (hk : k < segs) (hj : j ≤ shr n segs k) : plcTo n first segs k ++ segTo (8 * (first + k)) (shr n segs k) j <+: plcL n first segs := by
  have h1 := segTo_prefix (8 * (first + k)) (shr n segs k) j (shr n segs k - j)
  rw [show j + (shr n segs k - j) = shr n segs k by omega] at h1
  have h2 : plcTo n first segs k ++ segTo (8 * (first + k)) (shr n segs k) j <+: plcTo n first segs (k + 1) := by
    show _ <+: plcTo n first segs k ++ _
    exact (List.prefix_append_right_inj _).2 h1
  have h3 := plcTo_prefix n first segs (k + 1) (segs - (k + 1))
  rw [show k + 1 + (segs - (k + 1)) = segs by omega] at h3
  exact h2.trans h3
end Go.Proofs.YtechphliifginaaGreatDoor

/- A region that draws its order, whose operations only read, and whose callees turn nothing old: walked once, in the order of the text; in a plain walk, and in a round. No program in sight. -/
set_option linter.unusedVariables false
set_option linter.unusedSimpArgs false
namespace Go.Proofs.YtechphliifginaaGreatDoor
open Go.RowKit

/-- A world in which nothing old has turned. -/
structure FrW (W : World) where
  u : World
  h : Fr Nil1 W u
instance (W : World) : Nonempty (FrW W) := ⟨⟨W, Fr.refl _ _⟩⟩
section
variable {P : Program} {id : Nat} {Q : Exit → Act → World → Prop} {a : Act} {w : World} {l : List Oper}
theorem wp_region_fr (W : World) (hW : Fr Nil1 W w) (hm : P.follows .mixedOrders = true) (hB : Region.lexB .any l.toArray = true)
    (h : wpQuiet P l.toArray (fun w' => ∃ u : FrW W, w' = u.u) (fun a' => ∀ w', (∃ u : FrW W, w' = u.u) → Q .normal a' w') l a) : (Code.region id l.toArray true).wp P Q a w :=
  wp_region_quiet (C := fun w' => ∃ u : FrW W, w' = u.u) hm hB ⟨⟨_, hW.drew⟩, rfl⟩ (by simpa using h)
theorem wpIn_region_fr0 {n : Nat} (W : World) (hW : Fr Nil1 W w) (hm : P.follows .mixedOrders = true) (hB : Region.lexB .any l.toArray = true)
    (h : wpQuiet P l.toArray (fun w' => ∃ u : FrW W, w' = u.u) (fun a' => ∀ w', (∃ u : FrW W, w' = u.u) → Q .normal a' w') l a) : (Code.region id l.toArray true).wpIn Fence.wide n P Q a w :=
  wpIn_wide.2 (wp_region_fr W hW hm hB h)

/-- No operation defers a call. -/
def noDefer (ops : Array Oper) : Bool := ops.toList.all fun o => match o.op with | .defer _ => false | _ => true
theorem noDefer_spec {ops : Array Oper} (h : noDefer ops = true) {i : Nat} {o : Oper} (hi : ops[i]? = some o) : ∀ c, o.op ≠ .defer c := by
  intro c e
  unfold noDefer at h
  rw [List.all_eq_true] at h
  have := h o (Array.mem_toList_iff.2 (Array.mem_of_getElem? hi))
  rw [e] at this
  cases this
variable {C : World → Prop} {md : Region.Mode} {ops : Array Oper} {l₀ n : Nat}
theorem wpOpIn_of_qOp {i : Nat} {K : Act → Prop} {K' : Act → World → Prop} (hd : noDefer ops = true) (hC : C w) (h : ∀ a w', C w' → K a → K' a w') (hh : qOp P ops C i K a) : wpOpIn (Fence.wide.inRound l₀) n P ops Q i K' a w := by
  unfold qOp at hh
  unfold wpOpIn
  split
  · rename_i ho; simp only [ho] at hh; exact h _ _ hC hh
  · rename_i o ho
    simp only [ho] at hh
    split
    · rename_i hw
      simp only [hw, if_true] at hh
      unfold Oper.wpIn
      refine ⟨fun _ _ => trivial, ?_⟩
      rw [Oper.semAt_eq _ _ _ (noDefer_spec hd ho)]
      obtain ⟨v, h1, h2⟩ := hh
      have h3 := h1 w hC
      unfold Oper.quietAt at h3
      generalize (execOp a.eval o).run P w = r at *
      cases r with
      | ok nx w' =>
        cases nx <;> simp only [Oper.quietUpon] at h3 <;> simp only [Oper.uponIn]
        case value u =>
          obtain ⟨e1, e2⟩ := h3
          rw [e1, e2]
          exact h _ _ hC h2
        case skip =>
          obtain ⟨e1, e2⟩ := h3
          rw [e1, ← e2]
          exact h _ _ hC h2
        case enter f args =>
          obtain ⟨e1, hc⟩ := h3
          rw [e1]
          refine ⟨wideNo, CallsIn.inRound (F := Fence.wide) l₀ (callsIn_wide.2 (hc.mono fun e w'' hh => ?_))⟩
          obtain ⟨he, hw''⟩ := hh
          subst he
          exact h _ _ hw'' h2
      | halt x w' => simp only [Oper.quietUpon] at h3
    · rename_i hw; simp only [hw] at hh; exact ⟨fun _ _ => trivial, h _ _ hC hh⟩
theorem wpAnyIn_of_wpAnyQ {Q' : Act → Prop} (hd : noDefer ops = true) (hQ : ∀ a w, C w → Q' a → Q .normal a w) : ∀ (fuel : Nat) (listed : Array Bool) (a : Act) (w : World), C w →
    wpAnyQ P md ops C Q' fuel listed a → wpAnyIn (Fence.wide.inRound l₀) n P md ops Q fuel listed a w
  | 0, _, _, _, hw, h => ⟨h.1, hQ _ _ hw h.2⟩
  | fuel + 1, _, _, _, hw, h => ⟨fun h0 => hQ _ _ hw (h.1 h0), fun i hi => wpOpIn_of_qOp hd hw (fun a' w' hw' => wpAnyIn_of_wpAnyQ hd hQ fuel _ a' w' hw') (h.2 i hi)⟩
theorem wpIn_region_frR (W : World) (hW : Fr Nil1 W w) (hd : noDefer l.toArray = true) (hm : P.follows .mixedOrders = true) (hB : Region.lexB .any l.toArray = true)
    (h : wpQuiet P l.toArray (fun w' => ∃ u : FrW W, w' = u.u) (fun a' => ∀ w', (∃ u : FrW W, w' = u.u) → Q .normal a' w') l a) : (Code.region id l.toArray true).wpIn (Fence.wide.inRound l₀) n P Q a w := by
  simp only [Region.lexB, Bool.and_eq_true] at hB
  refine wpIn_region_any hm (wpAnyIn_of_wpAnyQ (C := fun w' => ∃ u : FrW W, w' = u.u) (Q' := fun a' => ∀ w', (∃ u : FrW W, w' = u.u) → Q .normal a' w') hd (fun _ w' hw' h => h w' hw') _ _ _ _ ⟨⟨_, hW.drew⟩, rfl⟩ ?_)
  have := wpAnyQ_lex (C := fun w' => ∃ u : FrW W, w' = u.u) (md := .any) hB.1 l 0 (Array.replicate l.toArray.size false) a (by simp) (by simpa using hB.2) h
  simpa using this
end
end Go.Proofs.YtechphliifginaaGreatDoor

/- A region that draws its order, in a round: reads first, then one operation behind the other. No program in sight. -/
set_option linter.unusedVariables false
set_option linter.unusedSimpArgs false
namespace Go.Proofs.YtechphliifginaaGreatDoor
open Go.RowKit

section
variable {P : Program} {id : Nat} {Q : Exit → Act → World → Prop} {a : Act} {w : World} {l : List Oper} {md : Region.Mode} {ops : Array Oper} {l₀ n : Nat}
theorem wpOpIn_of_wpOp {i : Nat} {K K' : Act → World → Prop} (hd : noDefer ops = true) (hL : ¬ LetsOut Q) (h : ∀ a w, K a w → K' a w) (hh : wpOp P ops Q i K a w) : wpOpIn (Fence.wide.inRound l₀) n P ops Q i K' a w := by
  unfold wpOp at hh
  unfold wpOpIn
  split
  · rename_i ho; simp only [ho] at hh; exact h _ _ hh
  · rename_i o ho
    simp only [ho] at hh
    split
    · rename_i hw
      simp only [hw, if_true] at hh
      rcases hh with hh | ⟨_, hh⟩
      · unfold Oper.wpIn
        refine ⟨fun _ _ => trivial, ?_⟩
        rw [Oper.semAt_eq _ _ _ (noDefer_spec hd ho)]
        unfold Oper.wp at hh
        generalize (execOp a.eval o).run P w = r at *
        cases r with
        | ok nx w' =>
          cases nx <;> simp only [Oper.upon] at hh <;> simp only [Oper.uponIn]
          case value u => exact h _ _ hh
          case skip => exact h _ _ hh
          case defer d => exact h _ _ hh
          case enter f args =>
            refine ⟨wideNo, CallsIn.inRound (F := Fence.wide) l₀ (callsIn_wide.2 (hh.mono fun e w'' h2 => ?_))⟩
            cases e with
            | returned v => exact h _ _ h2
            | panicked c => exact h2
            | outgrown => exact h2
          case row row args => exact ⟨wideNo, fun c cs _ => by
            obtain ⟨v, w', r, s⟩ := hh c cs
            exact ⟨v, w', h _ _ r, stepsIn_wide.2 s⟩⟩
        | halt x w' => cases x <;> simp only [Oper.upon] at hh <;> simp only [Oper.uponIn] <;> exact hh
      · exact (hL hh).elim
    · rename_i hw; simp only [hw] at hh; exact ⟨fun _ _ => trivial, h _ _ hh⟩
theorem wpAnyIn_of_wpAny (hd : noDefer ops = true) (hL : ¬ LetsOut Q) : ∀ (fuel : Nat) (listed : Array Bool) (a : Act) (w : World), wpAny P md ops Q fuel listed a w → wpAnyIn (Fence.wide.inRound l₀) n P md ops Q fuel listed a w
  | 0, _, _, _, h => h
  | fuel + 1, _, _, _, h => ⟨h.1, fun i hi => wpOpIn_of_wpOp hd hL (fun a' w' h' => wpAnyIn_of_wpAny hd hL fuel _ a' w' h') (h.2 i hi)⟩
theorem wpIn_region_tailR (k : Nat) (hd : noDefer l.toArray = true) (hL : ¬ LetsOut Q) (hm : P.follows .mixedOrders = true) (hB : Region.lexTailB .any l.toArray k = true)
    (h : wpStill P l.toArray { w with drawn := w.drawn + 1 } (fun a' => wpList P l.toArray Q (l.drop k) a' { w with drawn := w.drawn + 1 }) (l.take k) a) : (Code.region id l.toArray true).wpIn (Fence.wide.inRound l₀) n P Q a w := by
  simp only [Region.lexTailB, Bool.and_eq_true, decide_eq_true_eq] at hB
  obtain ⟨⟨⟨⟨hsel, hn⟩, hs⟩, hc⟩, hlex⟩ := hB
  have hn' : k < l.length := by simpa using hn
  have htl : (l.take k).length = k := by simp; omega
  have hdl : (l.drop k).length = l.toArray.size - k := by simp
  have inv0 : HeadInv .any l.toArray k (Array.replicate l.toArray.size false) :=
    ⟨by simp, fun j oj _ hl => (by rw [getD_replicate_false] at hl; cases hl), fun t _ ht => getD_in (by simpa using ht) (getD_replicate_false _ _)⟩
  have H := wpAnyL_lex (md := .any) (g := l.toArray.size - k) hsel hs hc hn (l.take k) 0 _ a (fun j hj => by
    have hj' : j < k := by rw [htl] at hj; exact hj
    simp [hj']) (by simpa using htl) inv0 (by rw [htl]; exact hlex) h
  refine wpIn_region_any hm (wpAnyIn_of_wpAny hd hL _ _ _ _ ?_)
  have := wpAny_of_head (Q' := Q) (g := l.toArray.size - k) (fun listed a' hL => by
    have := wpAny_of_seq (md := .any) (Q' := Q) (l.drop k) k listed a' { w with drawn := w.drawn + 1 } (fun j => by simp [List.getElem?_drop]) (by rw [hdl]; exact hL.1) hL.2
    rwa [hdl] at this) _ _ _ H
  rw [htl, show k + (l.toArray.size - k) = l.toArray.size by omega] at this
  exact this
end
end Go.Proofs.YtechphliifginaaGreatDoor
