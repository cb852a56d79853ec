/- Plain: a table of handles as a list: the h-th one's slot, if it is live. What a map that reads so holds. -/
import Derived.Maps.OwnSet
import Derived.Maps.OwnOps
import Derived.Test.YtogjfaiidciedaaGreatDoorGC
set_option linter.unusedVariables false
set_option linter.unusedSimpArgs false
namespace Go.Proofs.YtogjfaiidciedaaGreatDoor
open Go.RowKit Go.Maps

def slotAt (τ : List (Option Int)) (h : Int) : Option Int := if 1 ≤ h then τ.getD (h.toNat - 1) none else none
def liveB (τ : List (Option Int)) (h : Int) : Bool := (slotAt τ h).isSome
def staleE (τ : List (Option Int)) (h : Int) : Int := if liveB τ h = true then 0 else 17
def slotV (τ : List (Option Int)) (h : Int) : Int := (slotAt τ h).getD 0
theorem slotAt_out (τ : List (Option Int)) (h : Int) (hh : h < 1 ∨ (τ.length : Int) < h) : slotAt τ h = none := by
  unfold slotAt
  split
  · rw [List.getD_eq_getElem?_getD, List.getElem?_eq_none (by omega)]; rfl
  · rfl
theorem slotAt_snoc (τ : List (Option Int)) (s : Option Int) (h : Int) : slotAt (τ ++ [s]) h = if h = τ.length + 1 then s else slotAt τ h := by
  unfold slotAt
  by_cases h1 : 1 ≤ h
  · rw [if_pos h1, if_pos h1, List.getD_eq_getElem?_getD, List.getD_eq_getElem?_getD]
    by_cases h2 : h = τ.length + 1
    · rw [if_pos h2, List.getElem?_append_right (by omega), show h.toNat - 1 - τ.length = 0 by omega]; rfl
    · rw [if_neg h2]
      rcases Nat.lt_or_ge (h.toNat - 1) τ.length with g | g
      · rw [List.getElem?_append_left g]
      · rw [List.getElem?_eq_none (by simp; omega), List.getElem?_eq_none (by omega)]
  · rw [if_neg h1, if_neg h1, if_neg (by omega)]
theorem slotAt_set (τ : List (Option Int)) (h : Int) (s : Option Int) (h1 : 1 ≤ h) (h2 : h ≤ τ.length) (x : Int) : slotAt (τ.set (h.toNat - 1) s) x = if x = h then s else slotAt τ x := by
  unfold slotAt
  by_cases g1 : 1 ≤ x
  · rw [if_pos g1, if_pos g1, List.getD_eq_getElem?_getD, List.getD_eq_getElem?_getD, List.getElem?_set]
    by_cases g2 : x = h
    · subst g2
      rw [if_pos rfl, if_pos rfl, if_pos (by omega)]; rfl
    · rw [if_neg g2, if_neg (by omega)]
  · rw [if_neg g1, if_neg g1, if_neg (by omega)]

theorem occTo_step (σ : List (Option Int)) (i : Nat) : (occTo σ (i + 1)).length = (occTo σ i).length + if (σ.getD i none).isSome then 1 else 0 := by
  cases h : σ.getD i none with
  | none => rw [occTo_none σ i 1 (fun j a b => by obtain rfl : j = i := by omega
                                                  rw [h]; rfl)]; rfl
  | some x => rw [occTo_some σ i x h, List.length_append]; rfl
theorem occTo_cong (σ τ : List (Option Int)) : ∀ i, (∀ j, j < i → (σ.getD j none).isSome = (τ.getD j none).isSome) → (occTo σ i).length = (occTo τ i).length
  | 0, _ => rfl
  | i + 1, h => by rw [occTo_step, occTo_step, occTo_cong σ τ i (fun j hj => h j (by omega)), h i (by omega)]
theorem occTo_strike (σ τ : List (Option Int)) (k : Nat) (hk : (σ.getD k none).isSome = true) (hk' : (τ.getD k none).isSome = false) : ∀ i, k < i → (∀ j, j < i → j ≠ k → (σ.getD j none).isSome = (τ.getD j none).isSome) → (occTo τ i).length + 1 = (occTo σ i).length
  | i + 1, h1, h => by
    rw [occTo_step, occTo_step]
    by_cases e : k = i
    · subst e
      rw [hk, hk', occTo_cong σ τ k (fun j hj => h j (by omega) (by omega))]
      simp
    · have := occTo_strike σ τ k hk hk' i (by omega) (fun j hj hn => h j (by omega) hn)
      rw [h i (by omega) (fun c => e c.symm)]
      omega
theorem getD_setH (τ : List (Option Int)) (k j : Nat) (s : Option Int) : (τ.set k s).getD j none = if k = j ∧ k < τ.length then s else τ.getD j none := by
  rw [List.getD_eq_getElem?_getD, List.getD_eq_getElem?_getD, List.getElem?_set]
  by_cases h : k = j
  · subst h
    rw [if_pos rfl]
    by_cases h2 : k < τ.length
    · rw [if_pos h2, if_pos ⟨rfl, h2⟩]; rfl
    · rw [if_neg h2, if_neg (fun c => h2 c.2), List.getElem?_eq_none (by omega)]
  · rw [if_neg h, if_neg (fun c => h c.1)]
theorem occ_snoc_length (τ : List (Option Int)) (s : Int) : (occ (τ ++ [some s])).length = (occ τ).length + 1 := by
  unfold occ
  rw [List.length_append, List.length_singleton, occTo_step]
  rw [List.getD_eq_getElem?_getD, List.getElem?_append_right (Nat.le_refl _), Nat.sub_self]
  rw [occTo_cong (τ ++ [some s]) τ τ.length (fun j hj => by rw [List.getD_eq_getElem?_getD, List.getD_eq_getElem?_getD, List.getElem?_append_left hj])]
  rfl

/-- What a map holds that is a table's. -/
structure DView (D : DataW Unit) (τ : List (Option Int)) : Prop where
  has : ∀ h : Int, Maps.has D (.int .i64 h) = liveB τ h
  at' : ∀ h s, slotAt τ h = some s → D.atKey (.int .i64 h) (.lit (.int .i64 0)) = .lit (.int .i64 s)
  size : Maps.size D = (occ τ).length
theorem DView.empty : DView (.map []) [] := ⟨fun h => by rw [liveB, slotAt_out [] h (by simp; omega)]; rfl, fun h s e => (by rw [slotAt_out [] h (by simp; omega)] at e; cases e), rfl⟩
theorem isKey (a : Int) : WideAt.IsKeyLit (.int .i64 a) := trivial
theorem key_ne {a b : Int} (h : a ≠ b) : (Lit.int .i64 a) ≠ (Lit.int .i64 b) := fun e => h (by injection e)
theorem DView.push {D : DataW Unit} {τ : List (Option Int)} (h : DView D τ) (hT : Tidy D) (s : Int) : DView (D.put (.int .i64 (τ.length + 1 : Nat)) (.lit (.int .i64 s))) (τ ++ [some s]) := by
  refine ⟨fun x => ?_, fun x y e => ?_, ?_⟩
  · rw [liveB, slotAt_snoc]
    by_cases e : x = τ.length + 1
    · subst e
      rw [if_pos rfl]
      exact has_put_same hT.isMap (isKey _) _
    · rw [if_neg e, has_put_other (key_ne (by omega)), h.has]
      rfl
  · rw [slotAt_snoc] at e
    by_cases g : x = τ.length + 1
    · subst g
      rw [if_pos rfl] at e
      cases e
      exact atKey_put_same hT.isMap (isKey _) _ _
    · rw [if_neg g] at e
      rw [atKey_put_other (key_ne (by omega))]
      exact h.at' x y e
  · rw [size_put hT, h.has, liveB, slotAt_out τ _ (.inr (by omega)), h.size, occ_snoc_length]
    rfl
theorem DView.del {D : DataW Unit} {τ : List (Option Int)} (h : DView D τ) (hT : Tidy D) (x : Int) (hx : liveB τ x = true) : DView (D.del (.int .i64 x)) (τ.set (x.toNat - 1) none) := by
  have hb : 1 ≤ x ∧ x ≤ τ.length := by
    rcases Int.lt_or_le x 1 with g | g
    · rw [liveB, slotAt_out τ x (.inl g)] at hx; cases hx
    · rcases Int.lt_or_le τ.length x with g' | g'
      · rw [liveB, slotAt_out τ x (.inr g')] at hx; cases hx
      · exact ⟨g, g'⟩
  refine ⟨fun y => ?_, fun y s e => ?_, ?_⟩
  · rw [liveB, slotAt_set τ x none hb.1 hb.2]
    by_cases e : y = x
    · subst e; rw [if_pos rfl]; exact has_del_same
    · rw [if_neg e, has_del_other (key_ne e), h.has]; rfl
  · rw [slotAt_set τ x none hb.1 hb.2] at e
    by_cases g : y = x
    · rw [if_pos g] at e; cases e
    · rw [if_neg g] at e
      rw [atKey_del_other (key_ne g)]
      exact h.at' y s e
  · have hs := size_del (k := .int .i64 x) hT
    rw [h.has, hx, if_pos rfl, h.size] at hs
    have hk : (τ.getD (x.toNat - 1) none).isSome = true := by
      unfold liveB slotAt at hx
      rw [if_pos hb.1] at hx
      exact hx
    have := occTo_strike τ (τ.set (x.toNat - 1) none) (x.toNat - 1) hk (by rw [getD_setH, if_pos ⟨rfl, by omega⟩]; rfl) τ.length (by omega) (fun j hj hn => by rw [getD_setH, if_neg (fun c => hn c.1.symm)])
    unfold occ at hs ⊢
    rw [List.length_set]
    omega
theorem DView.move {D : DataW Unit} {τ : List (Option Int)} (h : DView D τ) (hT : Tidy D) (x s : Int) (hx : liveB τ x = true) : DView (D.put (.int .i64 x) (.lit (.int .i64 s))) (τ.set (x.toNat - 1) (some s)) := by
  have hb : 1 ≤ x ∧ x ≤ τ.length := by
    rcases Int.lt_or_le x 1 with g | g
    · rw [liveB, slotAt_out τ x (.inl g)] at hx; cases hx
    · rcases Int.lt_or_le τ.length x with g' | g'
      · rw [liveB, slotAt_out τ x (.inr g')] at hx; cases hx
      · exact ⟨g, g'⟩
  have hk : (τ.getD (x.toNat - 1) none).isSome = true := by
    have hx' := hx
    unfold liveB slotAt at hx'
    rw [if_pos hb.1] at hx'
    exact hx'
  refine ⟨fun y => ?_, fun y z e => ?_, ?_⟩
  · rw [liveB, slotAt_set τ x _ hb.1 hb.2]
    by_cases e : y = x
    · subst e; rw [if_pos rfl]; exact has_put_same hT.isMap (isKey _) _
    · rw [if_neg e, has_put_other (key_ne e), h.has]; rfl
  · rw [slotAt_set τ x _ hb.1 hb.2] at e
    by_cases g : y = x
    · subst g; rw [if_pos rfl] at e; cases e; exact atKey_put_same hT.isMap (isKey _) _ _
    · rw [if_neg g] at e
      rw [atKey_put_other (key_ne g)]
      exact h.at' y z e
  · rw [size_put hT, h.has, hx, if_pos rfl, h.size]
    unfold occ
    rw [List.length_set]
    exact occTo_cong _ _ _ (fun j hj => by
      rw [getD_setH]
      split
      · next c => rw [← c.1]; exact hk
      · rfl)
end Go.Proofs.YtogjfaiidciedaaGreatDoor
