/- In one: M1, M2, M3. -/
import Derived.Test.YtechphliifginaaGreatDoorGE
import Derived.Test.YtechphliifginaaGreatDoorGC
/- Moves of elements in an array with gaps: what they leave, and who follows them. No program in sight. -/
set_option linter.unusedVariables false
set_option linter.unusedSimpArgs false
namespace Go.Proofs.YtechphliifginaaGreatDoor
open Go.RowKit

/-- An element, from where, to where. -/
abbrev Ev := Int × Int × Int
/-- The elements, from left to right. -/
def its {α : Type} (σ : List (Option α)) : List α := (occ σ).map (·.2)
def itsTo {α : Type} (σ : List (Option α)) (n : Nat) : List α := (occTo σ n).map (·.2)
theorem its_to {α : Type} (σ : List (Option α)) : its σ = itsTo σ σ.length := rfl
theorem itsTo_none {α : Type} (σ : List (Option α)) (n : Nat) (h : σ.getD n none = none) : itsTo σ (n + 1) = itsTo σ n := by
  show List.map _ (occTo σ n ++ _) = List.map _ (occTo σ n)
  rw [h, List.append_nil]
theorem itsTo_some {α : Type} (σ : List (Option α)) (n : Nat) (x : α) (h : σ.getD n none = some x) : itsTo σ (n + 1) = itsTo σ n ++ [x] := by
  show List.map _ (occTo σ n ++ _) = List.map _ (occTo σ n) ++ [x]
  rw [h, List.map_append]; rfl
theorem onOf_eq {α : Type} {σ τ : List (Option α)} {k l : Nat} (h : σ.getD k none = τ.getD l none) : onOf σ k = onOf τ l := by unfold onOf; rw [h]
theorem onOf_none_iff {α : Type} {σ : List (Option α)} {k : Nat} : onOf σ k = false ↔ σ.getD k none = none := by
  unfold onOf; cases σ.getD k none <;> simp
theorem onOf_some {α : Type} {σ : List (Option α)} {k : Nat} {x : α} (h : σ.getD k none = some x) : onOf σ k = true := by unfold onOf; rw [h]; rfl
theorem onOf_true {α : Type} {σ : List (Option α)} {k : Nat} (h : onOf σ k = true) : ∃ x, σ.getD k none = some x := by
  unfold onOf at h; cases e : σ.getD k none with
  | none => rw [e] at h; cases h
  | some x => exact ⟨x, rfl⟩
theorem onOf_lt {α : Type} {σ : List (Option α)} {k : Nat} (h : onOf σ k = true) : k < σ.length := by
  rcases Nat.lt_or_ge k σ.length with g | g
  · exact g
  · rw [onOf_out _ _ g] at h; cases h
theorem getD_lt {α : Type} {σ : List (Option α)} {k : Nat} {x : α} (h : σ.getD k none = some x) : k < σ.length := onOf_lt (onOf_some h)

/-- From a on alike, with something more ahead. -/
theorem itsTo_same {α : Type} (σ τ : List (Option α)) (a : Nat) : ∀ d, itsTo σ a = itsTo τ a → (∀ k, a ≤ k → k < a + d → σ.getD k none = τ.getD k none) → itsTo σ (a + d) = itsTo τ (a + d)
  | 0, h, _ => h
  | d + 1, h, hk => by
    have ih := itsTo_same σ τ a d h (fun k h1 h2 => hk k h1 (by omega))
    have e := hk (a + d) (by omega) (by omega)
    show itsTo σ (a + d + 1) = itsTo τ (a + d + 1)
    cases h1 : σ.getD (a + d) none with
    | none => rw [itsTo_none _ _ h1, itsTo_none _ _ (e ▸ h1), ih]
    | some x => rw [itsTo_some _ _ x h1, itsTo_some _ _ x (e ▸ h1), ih]
theorem itsTo_gap {α : Type} (σ : List (Option α)) (a : Nat) : ∀ d, (∀ k, a ≤ k → k < a + d → onOf σ k = false) → itsTo σ (a + d) = itsTo σ a
  | 0, _ => rfl
  | d + 1, hk => by
    show itsTo σ (a + d + 1) = _
    rw [itsTo_none _ _ (onOf_none_iff.1 (hk (a + d) (by omega) (by omega)))]
    exact itsTo_gap σ a d (fun k h1 h2 => hk k h1 (by omega))
theorem cntOn_same (on on' : Nat → Bool) (a c c' : Nat) : ∀ d, cntOn on a + c = cntOn on' a + c' → (∀ k, a ≤ k → k < a + d → on k = on' k) → cntOn on (a + d) + c = cntOn on' (a + d) + c'
  | 0, h, _ => h
  | d + 1, h, hk => by
    have ih := cntOn_same on on' a c c' d h (fun k h1 h2 => hk k h1 (by omega))
    show cntOn on (a + d) + (on (a + d)).toNat + c = cntOn on' (a + d) + (on' (a + d)).toNat + c'
    rw [hk (a + d) (by omega) (by omega)]
    omega
theorem cntOn_congr (on on' : Nat → Bool) (n : Nat) (h : ∀ k, k < n → on k = on' k) : cntOn on n = cntOn on' n := by
  have := cntOn_same on on' 0 0 0 n rfl (fun k _ h2 => h k (by omega))
  simpa using this
theorem cntOn_gap (on : Nat → Bool) (a : Nat) : ∀ d, (∀ k, a ≤ k → k < a + d → on k = false) → cntOn on (a + d) = cntOn on a
  | 0, _ => rfl
  | d + 1, hk => by
    show cntOn on (a + d) + (on (a + d)).toNat = _
    rw [hk (a + d) (by omega) (by omega), cntOn_gap on a d (fun k h1 h2 => hk k h1 (by omega))]
    rfl
theorem cntOn_on (on : Nat → Bool) (a : Nat) (h : on a = true) : cntOn on (a + 1) = cntOn on a + 1 := by
  show _ + (on a).toNat = _
  rw [h]; rfl
theorem cntOn_off (on : Nat → Bool) (a : Nat) (h : on a = false) : cntOn on (a + 1) = cntOn on a := by
  show _ + (on a).toNat = _
  rw [h]; rfl
theorem cntOn_le_of (on : Nat → Bool) {a b : Nat} (h : a ≤ b) : cntOn on a ≤ cntOn on b := by
  have := cntOn_mono on a (b - a)
  rwa [show a + (b - a) = b by omega] at this
theorem itsTo_length {α : Type} (σ : List (Option α)) : ∀ n, (itsTo σ n).length = cntOn (onOf σ) n
  | 0 => rfl
  | n + 1 => by
    cases h : σ.getD n none with
    | none => rw [itsTo_none _ _ h, cntOn_off _ _ (onOf_none_iff.2 h), itsTo_length σ n]
    | some x => rw [itsTo_some _ _ x h, cntOn_on _ _ (onOf_some h), List.length_append, itsTo_length σ n]; rfl
theorem its_length {α : Type} (σ : List (Option α)) : (its σ).length = cntOn (onOf σ) σ.length := itsTo_length σ _
theorem itsTo_prefix {α : Type} (σ : List (Option α)) (n d : Nat) : itsTo σ n <+: itsTo σ (n + d) := (occTo_prefix σ n d).map _
/-- The element of rank r. -/
theorem its_get {α : Type} (σ : List (Option α)) (p : Nat) (x : α) (h : σ.getD p none = some x) : (its σ)[cntOn (onOf σ) p]? = some x := by
  have hp := getD_lt h
  have e := itsTo_some σ p x h
  have hpre := itsTo_prefix σ (p + 1) (σ.length - (p + 1))
  rw [show p + 1 + (σ.length - (p + 1)) = σ.length by omega, e] at hpre
  obtain ⟨r, hr⟩ := hpre
  rw [its_to, ← hr, ← itsTo_length]
  simp
/-- Arrays with the same slots occupied, and the same elements, are the same. -/
theorem slots_ext {α : Type} {σ τ : List (Option α)} (hl : σ.length = τ.length) (ho : ∀ k, onOf σ k = onOf τ k) (hi : its σ = its τ) : σ = τ := by
  have key : ∀ k, σ.getD k none = τ.getD k none := by
    intro k
    cases h : σ.getD k none with
    | none => exact (onOf_none_iff.1 ((ho k).symm.trans (onOf_none_iff.2 h))).symm
    | some x =>
      obtain ⟨y, hy⟩ := onOf_true ((ho k).symm.trans (onOf_some h))
      have e1 := its_get σ k x h
      have e2 := its_get τ k y hy
      rw [hi, cntOn_congr (onOf σ) (onOf τ) k (fun j _ => ho j), e2] at e1
      rw [hy, e1]
  apply List.ext_getElem hl
  intro k h1 h2
  have := key k
  simpa [List.getD_eq_getElem?_getD, List.getElem?_eq_getElem h1, List.getElem?_eq_getElem h2] using this

/-! ### One move -/
theorem getD_setO {α : Type} (σ : List (Option α)) (i : Nat) (o : Option α) (k : Nat) (hi : i < σ.length) : (σ.set i o).getD k none = if k = i then o else σ.getD k none := by
  rw [List.getD_eq_getElem?_getD, List.getElem?_set]
  by_cases h : i = k
  · subst h; simp [hi]
  · rw [if_neg h, if_neg (fun e => h e.symm), List.getD_eq_getElem?_getD]
theorem mvS_length (σ : List (Option Int)) (i j : Nat) : (mvS σ i j).length = σ.length := by simp [mvS]
theorem mvS_getD (σ : List (Option Int)) (i j k : Nat) (hi : i < σ.length) (hj : j < σ.length) : (mvS σ i j).getD k none = if k = j then σ.getD i none else if k = i then none else σ.getD k none := by
  unfold mvS
  rw [getD_setO _ _ _ _ (by simpa using hj), getD_setO _ _ _ _ hi]
theorem mvS_on (σ : List (Option Int)) (i j k : Nat) (hi : i < σ.length) (hj : j < σ.length) (h : onOf σ i = true) : onOf (mvS σ i j) k = if k = j then true else if k = i then false else onOf σ k := by
  unfold onOf
  rw [mvS_getD _ _ _ _ hi hj]
  by_cases h1 : k = j
  · rw [if_pos h1, if_pos h1]; exact h
  · rw [if_neg h1, if_neg h1]
    by_cases h2 : k = i
    · rw [if_pos h2, if_pos h2]; rfl
    · rw [if_neg h2, if_neg h2]
/-- What one may move: nothing stands between. -/
structure MayMove (σ : List (Option Int)) (x : Int) (i j : Nat) : Prop where
  hi : i < σ.length
  hj : j < σ.length
  hx : σ.getD i none = some x
  free : onOf σ j = false
  gap : ∀ k, (i < k ∧ k < j) ∨ (j < k ∧ k < i) → onOf σ k = false
theorem MayMove.ne {σ : List (Option Int)} {x : Int} {i j : Nat} (h : MayMove σ x i j) : i ≠ j := by
  rintro rfl
  have := h.free
  rw [onOf_some h.hx] at this
  cases this
theorem MayMove.its {σ : List (Option Int)} {x : Int} {i j : Nat} (h : MayMove σ x i j) : its (mvS σ i j) = its σ := by
  have hne := h.ne
  have hg := fun k => mvS_getD σ i j k h.hi h.hj
  have hf := onOf_none_iff.1 h.free
  rw [its_to, its_to, mvS_length]
  rcases Nat.lt_or_ge i j with hij | hij
  · have a1 : itsTo (mvS σ i j) i = itsTo σ i := by
      have := itsTo_same (mvS σ i j) σ 0 i rfl (fun k _ h2 => by rw [hg, if_neg (by omega), if_neg (by omega)])
      simpa using this
    have b1 : itsTo σ (i + 1) = itsTo σ i ++ [x] := itsTo_some σ i x h.hx
    have b2 : itsTo σ j = itsTo σ (i + 1) := by
      have := itsTo_gap σ (i + 1) (j - (i + 1)) (fun k h1 h2 => h.gap k (.inl ⟨by omega, by omega⟩))
      rwa [show i + 1 + (j - (i + 1)) = j by omega] at this
    have b3 : itsTo σ (j + 1) = itsTo σ j := itsTo_none σ j hf
    have a2 : itsTo (mvS σ i j) j = itsTo (mvS σ i j) i := by
      have := itsTo_gap (mvS σ i j) i (j - i) (fun k h1 h2 => by
        rw [mvS_on _ _ _ _ h.hi h.hj (onOf_some h.hx), if_neg (by omega)]
        by_cases e : k = i
        · rw [if_pos e]
        · rw [if_neg e]; exact h.gap k (.inl ⟨by omega, by omega⟩))
      rwa [show i + (j - i) = j by omega] at this
    have a3 : itsTo (mvS σ i j) (j + 1) = itsTo (mvS σ i j) j ++ [x] := itsTo_some _ _ _ (by rw [hg, if_pos rfl, h.hx])
    have e : itsTo (mvS σ i j) (j + 1) = itsTo σ (j + 1) := by rw [a3, a2, a1, b3, b2, b1]
    have := itsTo_same (mvS σ i j) σ (j + 1) (σ.length - (j + 1)) e (fun k h1 h2 => by rw [hg, if_neg (by omega), if_neg (by omega)])
    have hjl := h.hj
    rwa [show j + 1 + (σ.length - (j + 1)) = σ.length by omega] at this
  · have hji : j < i := by omega
    have a1 : itsTo (mvS σ i j) j = itsTo σ j := by
      have := itsTo_same (mvS σ i j) σ 0 j rfl (fun k _ h2 => by rw [hg, if_neg (by omega), if_neg (by omega)])
      simpa using this
    have b1 : itsTo σ (i + 1) = itsTo σ i ++ [x] := itsTo_some σ i x h.hx
    have b2 : itsTo σ i = itsTo σ j := by
      have := itsTo_gap σ j (i - j) (fun k h1 h2 => by
        by_cases e : k = j
        · rw [e]; exact h.free
        · exact h.gap k (.inr ⟨by omega, by omega⟩))
      rwa [show j + (i - j) = i by omega] at this
    have a2 : itsTo (mvS σ i j) (j + 1) = itsTo (mvS σ i j) j ++ [x] := itsTo_some _ _ _ (by rw [hg, if_pos rfl, h.hx])
    have a3 : itsTo (mvS σ i j) (i + 1) = itsTo (mvS σ i j) (j + 1) := by
      have := itsTo_gap (mvS σ i j) (j + 1) (i - j) (fun k h1 h2 => by
        rw [mvS_on _ _ _ _ h.hi h.hj (onOf_some h.hx), if_neg (by omega)]
        by_cases e : k = i
        · rw [if_pos e]
        · rw [if_neg e]; exact h.gap k (.inr ⟨by omega, by omega⟩))
      rwa [show j + 1 + (i - j) = i + 1 by omega] at this
    have e : itsTo (mvS σ i j) (i + 1) = itsTo σ (i + 1) := by rw [a3, a2, a1, b1, b2]
    have := itsTo_same (mvS σ i j) σ (i + 1) (σ.length - (i + 1)) e (fun k h1 h2 => by rw [hg, if_neg (by omega), if_neg (by omega)])
    have hil := h.hi
    rwa [show i + 1 + (σ.length - (i + 1)) = σ.length by omega] at this
theorem MayMove.cnt_lo {σ : List (Option Int)} {x : Int} {i j : Nat} (h : MayMove σ x i j) (n : Nat) (h1 : n ≤ i) (h2 : n ≤ j) : cntOn (onOf (mvS σ i j)) n = cntOn (onOf σ) n :=
  cntOn_congr _ _ _ (fun k hk => by rw [mvS_on _ _ _ _ h.hi h.hj (onOf_some h.hx), if_neg (by omega), if_neg (by omega)])
theorem MayMove.cnt_hi {σ : List (Option Int)} {x : Int} {i j : Nat} (h : MayMove σ x i j) (n : Nat) (h1 : i < n) (h2 : j < n) : cntOn (onOf (mvS σ i j)) n = cntOn (onOf σ) n := by
  have hne := h.ne
  have ho := fun k => mvS_on σ i j k h.hi h.hj (onOf_some h.hx)
  have hox := onOf_some h.hx
  have key : ∀ a b : Nat, a < b → b < n → (a = i ∧ b = j ∨ a = j ∧ b = i) → cntOn (onOf (mvS σ i j)) n = cntOn (onOf σ) n := by
    intro a b hab hbn hc
    have e1 := cntOn_congr (onOf (mvS σ i j)) (onOf σ) a (fun k hk => by rw [ho, if_neg (by omega), if_neg (by omega)])
    have e2 := cntOn_same (onOf (mvS σ i j)) (onOf σ) (a + 1) (onOf σ a).toNat (onOf (mvS σ i j) a).toNat (b - (a + 1)) (by
      show cntOn _ a + _ + _ = cntOn _ a + _ + _
      rw [e1]; omega) (fun k h1 h2 => by rw [ho, if_neg (by omega), if_neg (by omega)])
    rw [show a + 1 + (b - (a + 1)) = b by omega] at e2
    have e3 : cntOn (onOf (mvS σ i j)) (b + 1) = cntOn (onOf σ) (b + 1) := by
      show cntOn _ b + _ = cntOn _ b + _
      have o1 : (onOf (mvS σ i j) a).toNat + (onOf (mvS σ i j) b).toNat = 1 := by
        rw [ho, ho]
        rcases hc with ⟨rfl, rfl⟩ | ⟨rfl, rfl⟩
        · rw [if_neg hne, if_pos rfl, if_pos rfl]; rfl
        · rw [if_pos rfl, if_neg hne, if_pos rfl]; rfl
      have o2 : (onOf σ a).toNat + (onOf σ b).toNat = 1 := by
        rcases hc with ⟨rfl, rfl⟩ | ⟨rfl, rfl⟩
        · rw [hox, h.free]; rfl
        · rw [hox, h.free]; rfl
      omega
    have e4 := cntOn_same (onOf (mvS σ i j)) (onOf σ) (b + 1) 0 0 (n - (b + 1)) (by omega) (fun k h1 h2 => by rw [ho, if_neg (by omega), if_neg (by omega)])
    rw [show b + 1 + (n - (b + 1)) = n by omega] at e4
    exact e4
  rcases Nat.lt_or_ge i j with g | g
  · exact key i j g h2 (.inl ⟨rfl, rfl⟩)
  · exact key j i (by omega) h1 (.inr ⟨rfl, rfl⟩)
/-- The rank of an element stays. -/
theorem MayMove.rank {σ : List (Option Int)} {x : Int} {i j : Nat} (h : MayMove σ x i j) (q : Nat) (hq : onOf σ q = true) : (mvS σ i j).getD (if i = q then j else q) none = σ.getD q none ∧ cntOn (onOf (mvS σ i j)) (if i = q then j else q) = cntOn (onOf σ) q := by
  have hne := h.ne
  have ho := fun k => mvS_on σ i j k h.hi h.hj (onOf_some h.hx)
  by_cases e : i = q
  · subst e
    rw [if_pos rfl]
    refine ⟨by rw [mvS_getD _ _ _ _ h.hi h.hj, if_pos rfl], ?_⟩
    rcases Nat.lt_or_ge i j with g | g
    · have e1 := cntOn_gap (onOf (mvS σ i j)) i (j - i) (fun k h1 h2 => by
        rw [ho, if_neg (by omega)]
        by_cases e : k = i
        · rw [if_pos e]
        · rw [if_neg e]; exact h.gap k (.inl ⟨by omega, by omega⟩))
      rw [show i + (j - i) = j by omega] at e1
      rw [e1, h.cnt_lo i (Nat.le_refl _) (by omega)]
    · have e1 := cntOn_gap (onOf σ) j (i - j) (fun k h1 h2 => by
        by_cases e : k = j
        · rw [e]; exact h.free
        · exact h.gap k (.inr ⟨by omega, by omega⟩))
      rw [show j + (i - j) = i by omega] at e1
      rw [e1, h.cnt_lo j (by omega) (Nat.le_refl _)]
  · rw [if_neg e]
    have hqj : q ≠ j := by rintro rfl; rw [h.free] at hq; cases hq
    refine ⟨by rw [mvS_getD _ _ _ _ h.hi h.hj, if_neg hqj, if_neg (fun g => e g.symm)], ?_⟩
    rcases Nat.lt_or_ge q i with g1 | g1
    · rcases Nat.lt_or_ge q j with g2 | g2
      · exact h.cnt_lo q (by omega) (by omega)
      · have := h.gap q (.inr ⟨by omega, g1⟩); rw [hq] at this; cases this
    · rcases Nat.lt_or_ge q j with g2 | g2
      · have := h.gap q (.inl ⟨by omega, g2⟩); rw [hq] at this; cases this
      · exact h.cnt_hi q (by omega) (by omega)

/-! ### Many moves -/
/-- Moves, one by one, each into a slot that is free, over nothing. -/
inductive Steps (σ : List (Option Int)) : List Ev → List (Option Int) → Prop
  | nil : Steps σ [] σ
  | move {evs : List Ev} {τ : List (Option Int)} {x : Int} {i j : Nat} : Steps σ evs τ → MayMove τ x i j → Steps σ (evs ++ [(x, (i : Int), (j : Int))]) (mvS τ i j)
/-- Where the element of a slot is then. -/
def track (s : Int) (evs : List Ev) : Int := evs.foldl (fun s e => if e.2.1 = s then e.2.2 else s) s
theorem track_append (s : Int) (a : List Ev) (e : Ev) : track s (a ++ [e]) = if e.2.1 = track s a then e.2.2 else track s a := by unfold track; rw [List.foldl_append]; rfl
namespace Steps
variable {σ τ : List (Option Int)} {evs : List Ev}
theorem length (h : Steps σ evs τ) : τ.length = σ.length := by
  induction h with
  | nil => rfl
  | move _ _ ih => rw [mvS_length, ih]
theorem its (h : Steps σ evs τ) : its τ = its σ := by
  induction h with
  | nil => rfl
  | move _ hm ih => rw [hm.its, ih]
theorem track (h : Steps σ evs τ) (p : Nat) (hp : onOf σ p = true) : ∃ q : Nat, track p evs = q ∧ τ.getD q none = σ.getD p none ∧ cntOn (onOf τ) q = cntOn (onOf σ) p := by
  induction h with
  | nil => exact ⟨p, rfl, rfl, rfl⟩
  | @move evs τ x i j _ hm ih =>
    obtain ⟨q, h1, h2, h3⟩ := ih
    have hq : onOf τ q = true := (onOf_eq h2).trans hp
    obtain ⟨g1, g2⟩ := hm.rank q hq
    refine ⟨if i = q then j else q, ?_, g1.trans h2, g2.trans h3⟩
    rw [track_append, h1]
    show (if (i : Int) = (q : Int) then (j : Int) else (q : Int)) = _
    by_cases e : i = q
    · rw [if_pos e, if_pos (by omega)]
    · rw [if_neg e, if_neg (by omega)]
theorem trans {υ : List (Option Int)} {evs' : List Ev} (h : Steps σ evs τ) (k : Steps τ evs' υ) : Steps σ (evs ++ evs') υ := by
  induction k with
  | nil => rwa [List.append_nil]
  | move _ hm ih => rw [← List.append_assoc]; exact ih.move hm
end Steps
theorem steps_dom {σ τ : List (Option Int)} {evs : List Ev} (h : Steps σ evs τ) : ∀ e ∈ evs, e.1 ∈ its σ := by
  induction h with
  | nil => simp
  | @move evs τ x i j hs hm ih =>
    intro e he
    rcases List.mem_append.1 he with h1 | h1
    · exact ih e h1
    · rw [List.mem_singleton.1 h1, ← hs.its]
      exact List.mem_of_getElem? (its_get τ i x hm.hx)

/-! ### Who is told knows where each element is -/
/-- 'pos' is where each element is; -1: it is not there. -/
def Knows (pos : Int → Int) (σ : List (Option Int)) : Prop := ∀ x : Int, (∀ i, σ.getD i none = some x → pos x = (i : Nat)) ∧ ((∀ i, σ.getD i none ≠ some x) → pos x = -1)
def updI (pos : Int → Int) (x v : Int) : Int → Int := fun y => if y = x then v else pos y
def runEv (pos : Int → Int) (evs : List Ev) : Int → Int := evs.foldl (fun p e => updI p e.1 e.2.2) pos
/-- Each is told where it was. -/
def legit (pos : Int → Int) : List Ev → Prop
  | [] => True
  | e :: r => pos e.1 = e.2.1 ∧ legit (updI pos e.1 e.2.2) r
theorem legit_append (pos : Int → Int) (a b : List Ev) : legit pos (a ++ b) ↔ legit pos a ∧ legit (runEv pos a) b := by
  induction a generalizing pos with
  | nil => simp [legit, runEv]
  | cons e r ih =>
    show pos e.1 = e.2.1 ∧ legit _ (r ++ b) ↔ (pos e.1 = e.2.1 ∧ legit _ r) ∧ legit (runEv (updI pos e.1 e.2.2) r) b
    rw [ih, and_assoc]
theorem runEv_append (pos : Int → Int) (a b : List Ev) : runEv pos (a ++ b) = runEv (runEv pos a) b := by simp [runEv, List.foldl_append]
theorem Knows.uniq {pos : Int → Int} {σ : List (Option Int)} (h : Knows pos σ) {x : Int} {i j : Nat} (hi : σ.getD i none = some x) (hj : σ.getD j none = some x) : i = j := by
  have := (h x).1 i hi
  have := (h x).1 j hj
  omega
theorem Knows.move {pos : Int → Int} {τ : List (Option Int)} {x : Int} {i j : Nat} (h : Knows pos τ) (hm : MayMove τ x i j) : pos x = i ∧ Knows (updI pos x j) (mvS τ i j) := by
  have hg := fun k => mvS_getD τ i j k hm.hi hm.hj
  have hne := hm.ne
  refine ⟨(h x).1 i hm.hx, fun y => ⟨fun k hk => ?_, fun hn => ?_⟩⟩
  · rw [hg] at hk
    unfold updI
    by_cases e : k = j
    · rw [if_pos e, hm.hx] at hk
      cases hk
      rw [if_pos rfl, e]
    · rw [if_neg e] at hk
      by_cases e2 : k = i
      · rw [if_pos e2] at hk; cases hk
      · rw [if_neg e2] at hk
        rw [if_neg (by rintro rfl; exact e2 (h.uniq hk hm.hx))]
        exact (h y).1 k hk
  · unfold updI
    by_cases e : y = x
    · subst e
      have := hn j
      rw [hg, if_pos rfl, hm.hx] at this
      exact (this rfl).elim
    · rw [if_neg e]
      refine (h y).2 (fun k hk => ?_)
      have h1 := hn k
      rw [hg] at h1
      by_cases e1 : k = j
      · subst e1
        rw [onOf_none_iff.1 hm.free] at hk; cases hk
      · rw [if_neg e1] at h1
        by_cases e2 : k = i
        · subst e2
          rw [hm.hx] at hk; cases hk; exact e rfl
        · rw [if_neg e2] at h1
          exact h1 hk
theorem Steps.knows {σ τ : List (Option Int)} {evs : List Ev} (h : Steps σ evs τ) (pos : Int → Int) (hk : Knows pos σ) : legit pos evs ∧ Knows (runEv pos evs) τ := by
  induction h with
  | nil => exact ⟨trivial, hk⟩
  | @move evs τ x i j _ hm ih =>
    obtain ⟨h1, h2⟩ := ih
    obtain ⟨h3, h4⟩ := h2.move hm
    refine ⟨(legit_append _ _ _).2 ⟨h1, h3, trivial⟩, ?_⟩
    rw [runEv_append]
    exact h4
theorem Knows.put {pos : Int → Int} {τ : List (Option Int)} {x : Int} {j : Nat} (h : Knows pos τ) (hj : j < τ.length) (hf : onOf τ j = false) (hx : pos x = -1) : Knows (updI pos x j) (τ.set j (some x)) := by
  have hn : ∀ i, τ.getD i none ≠ some x := fun i e => by have := (h x).1 i e; omega
  intro y
  unfold updI
  by_cases e : y = x
  · subst e
    refine ⟨fun i hi => ?_, fun hh => ?_⟩
    · rw [getD_setO _ _ _ _ hj] at hi
      by_cases e : i = j
      · subst e; rw [if_pos rfl]
      · rw [if_neg e] at hi; exact (hn i hi).elim
    · have := hh j
      rw [getD_setO _ _ _ _ hj, if_pos rfl] at this
      exact (this rfl).elim
  · rw [if_neg e]
    refine ⟨fun i hi => ?_, fun hh => ?_⟩
    · rw [getD_setO _ _ _ _ hj] at hi
      by_cases e1 : i = j
      · rw [if_pos e1] at hi; cases hi; exact (e rfl).elim
      · rw [if_neg e1] at hi; exact (h y).1 i hi
    · refine (h y).2 (fun i hi => ?_)
      have h1 := hh i
      rw [getD_setO _ _ _ _ hj] at h1
      by_cases e1 : i = j
      · subst e1; rw [onOf_none_iff.1 hf] at hi; cases hi
      · rw [if_neg e1] at h1; exact h1 hi
theorem Knows.take {pos : Int → Int} {τ : List (Option Int)} {x : Int} {j : Nat} (h : Knows pos τ) (hx : τ.getD j none = some x) : pos x = j ∧ Knows (updI pos x (-1)) (τ.set j none) := by
  have hj := getD_lt hx
  refine ⟨(h x).1 j hx, fun y => ?_⟩
  unfold updI
  by_cases e : y = x
  · subst e
    rw [if_pos rfl]
    refine ⟨fun i hi => ?_, fun _ => rfl⟩
    rw [getD_setO _ _ _ _ hj] at hi
    by_cases e : i = j
    · rw [if_pos e] at hi; cases hi
    · rw [if_neg e] at hi; exact (e (h.uniq hi hx)).elim
  · rw [if_neg e]
    refine ⟨fun i hi => ?_, fun hh => ?_⟩
    · rw [getD_setO _ _ _ _ hj] at hi
      by_cases e1 : i = j
      · rw [if_pos e1] at hi; cases hi
      · rw [if_neg e1] at hi; exact (h y).1 i hi
    · refine (h y).2 (fun i hi => ?_)
      have h1 := hh i
      rw [getD_setO _ _ _ _ hj] at h1
      by_cases e1 : i = j
      · subst e1; rw [hx] at hi; cases hi; exact e rfl
      · rw [if_neg e1] at h1; exact h1 hi
end Go.Proofs.YtechphliifginaaGreatDoor

/- Packing and spreading a window. No program in sight. -/
set_option linter.unusedVariables false
set_option linter.unusedSimpArgs false
namespace Go.Proofs.YtechphliifginaaGreatDoor
open Go.RowKit

/-- The window's slots from base on, the first d of them looked at: their n elements stand at its left. -/
structure PackI (σ : List (Option Int)) (base d : Nat) (τ : List (Option Int)) (n : Nat) (evs : List Ev) : Prop where
  steps : Steps σ evs τ
  le : n ≤ d
  cnt : cntOn (onOf σ) (base + d) = cntOn (onOf σ) base + n
  inn : ∀ k, base ≤ k → k < base + d → (onOf τ k = decide (k < base + n))
  out : ∀ k, k < base ∨ base + d ≤ k → τ.getD k none = σ.getD k none
theorem PackI.zero (σ : List (Option Int)) (base : Nat) : PackI σ base 0 σ 0 [] := ⟨.nil, Nat.le_refl _, rfl, fun k h1 h2 => by omega, fun _ _ => rfl⟩
theorem PackI.skip {σ τ : List (Option Int)} {base d n : Nat} {evs : List Ev} (h : PackI σ base d τ n evs) (d' : Nat) (hd : d ≤ d') (hf : ∀ k, base + d ≤ k → k < base + d' → onOf σ k = false) : PackI σ base d' τ n evs := by
  refine ⟨h.steps, Nat.le_trans h.le hd, ?_, fun k h1 h2 => ?_, fun k hk => h.out k (by omega)⟩
  · have := cntOn_gap (onOf σ) (base + d) (d' - d) (fun k h1 h2 => hf k h1 (by omega))
    rw [show base + d + (d' - d) = base + d' by omega] at this
    rw [this, h.cnt]
  · rcases Nat.lt_or_ge k (base + d) with g | g
    · exact h.inn k h1 g
    · rw [onOf_eq (h.out k (.inr g)), hf k g h2, decide_eq_false (by have := h.le; omega)]
theorem PackI.stay {σ τ : List (Option Int)} {base d : Nat} {evs : List Ev} (h : PackI σ base d τ d evs) (hx : onOf σ (base + d) = true) : PackI σ base (d + 1) τ (d + 1) evs := by
  refine ⟨h.steps, Nat.le_refl _, ?_, fun k h1 h2 => ?_, fun k hk => h.out k (by omega)⟩
  · show cntOn (onOf σ) (base + d + 1) = _
    rw [cntOn_on _ _ hx, h.cnt]; omega
  · rcases Nat.lt_or_ge k (base + d) with g | g
    · rw [h.inn k h1 g, decide_eq_true g, decide_eq_true (by omega)]
    · rw [onOf_eq (h.out k (.inr g)), show k = base + d by omega, hx, decide_eq_true (by omega)]
theorem PackI.may {σ τ : List (Option Int)} {base d n : Nat} {evs : List Ev} (h : PackI σ base d τ n evs) (hn : n < d) {x : Int} (hx : σ.getD (base + d) none = some x) : MayMove τ x (base + d) (base + n) := by
  have hx' : τ.getD (base + d) none = some x := by rw [h.out _ (.inr (Nat.le_refl _)), hx]
  have hl := getD_lt hx'
  refine ⟨hl, by omega, hx', ?_, fun k hk => ?_⟩
  · rw [h.inn _ (by omega) (by omega), decide_eq_false (by omega)]
  · rw [h.inn _ (by omega) (by omega), decide_eq_false (by omega)]
theorem PackI.move {σ τ : List (Option Int)} {base d n : Nat} {evs : List Ev} (h : PackI σ base d τ n evs) (hn : n < d) {x : Int} (hx : σ.getD (base + d) none = some x) :
    PackI σ base (d + 1) (mvS τ (base + d) (base + n)) (n + 1) (evs ++ [(x, ((base + d : Nat) : Int), ((base + n : Nat) : Int))]) := by
  have hm := h.may hn hx
  refine ⟨h.steps.move hm, by omega, ?_, fun k h1 h2 => ?_, fun k hk => ?_⟩
  · show cntOn (onOf σ) (base + d + 1) = _
    rw [cntOn_on _ _ (onOf_some hx), h.cnt]; omega
  · rw [mvS_on _ _ _ _ hm.hi hm.hj (onOf_some hm.hx)]
    by_cases e : k = base + n
    · rw [if_pos e, decide_eq_true (by omega)]
    · rw [if_neg e]
      by_cases e2 : k = base + d
      · rw [if_pos e2, decide_eq_false (by omega)]
      · rw [if_neg e2, h.inn k h1 (by omega)]
        by_cases g : k < base + n
        · rw [decide_eq_true g, decide_eq_true (by omega)]
        · rw [decide_eq_false g, decide_eq_false (by omega)]
  · rw [mvS_getD _ _ _ _ hm.hi hm.hj, if_neg (by omega), if_neg (by omega), h.out k (by omega)]

/-- Places, rising, in the window, none ahead of where packed elements stand. -/
structure PlOK (ps : List Int) (base D : Nat) : Prop where
  up : ps.Pairwise (· < ·)
  lo : ∀ p ∈ ps, (base : Int) ≤ p
  hi : ∀ p ∈ ps, p < ((base + D : Nat) : Int)
theorem pw_getD {ps : List Int} (h : ps.Pairwise (· < ·)) {a b : Nat} (hab : a < b) (hb : b < ps.length) : ps.getD a 0 < ps.getD b 0 := by
  have := List.pairwise_iff_getElem.1 h a b (by omega) hb hab
  simpa [List.getD_eq_getElem?_getD, List.getElem?_eq_getElem hb, List.getElem?_eq_getElem (show a < ps.length by omega)] using this
theorem getD_mem {ps : List Int} {a : Nat} (h : a < ps.length) : ps.getD a 0 ∈ ps := by
  simp [List.getD_eq_getElem?_getD, List.getElem?_eq_getElem h]
theorem PlOK.at {ps : List Int} {base D : Nat} (h : PlOK ps base D) : ∀ k, k < ps.length → ((base + k : Nat) : Int) ≤ ps.getD k 0
  | 0, hk => by have := h.lo _ (getD_mem hk); omega
  | k + 1, hk => by
    have := h.at k (by omega)
    have := pw_getD h.up (show k < k + 1 by omega) hk
    omega
/-- Packed elements of which those from i on stand at their places. -/
structure SpreadI (σ : List (Option Int)) (base D : Nat) (ps : List Int) (i : Nat) (τ : List (Option Int)) (evs : List Ev) : Prop where
  steps : Steps σ evs τ
  le : i ≤ ps.length
  inn : ∀ k, base ≤ k → k < base + D → (onOf τ k = true ↔ (k < base + i ∨ ∃ m, i ≤ m ∧ m < ps.length ∧ ps.getD m 0 = (k : Int)))
  out : ∀ k, k < base ∨ base + D ≤ k → τ.getD k none = σ.getD k none
theorem SpreadI.start {σ τ : List (Option Int)} {base D n : Nat} {evs : List Ev} {ps : List Int} (h : PackI σ base D τ n evs) (hp : ps.length = n) : SpreadI σ base D ps n τ evs := by
  refine ⟨h.steps, by omega, fun k h1 h2 => ?_, h.out⟩
  rw [h.inn k h1 h2, decide_eq_true_iff]
  refine ⟨fun g => .inl g, fun g => ?_⟩
  rcases g with g | ⟨m, g1, g2, _⟩
  · exact g
  · omega
theorem SpreadI.stay {σ τ : List (Option Int)} {base D i : Nat} {evs : List Ev} {ps : List Int} (h : SpreadI σ base D ps (i + 1) τ evs) (hp : PlOK ps base D) (he : ps.getD i 0 = ((base + i : Nat) : Int)) : SpreadI σ base D ps i τ evs := by
  refine ⟨h.steps, by have := h.le; omega, fun k h1 h2 => ?_, h.out⟩
  rw [h.inn k h1 h2]
  constructor
  · rintro (g | ⟨m, g1, g2, g3⟩)
    · by_cases e : k = base + i
      · exact .inr ⟨i, Nat.le_refl _, by have := h.le; omega, by rw [he, e]⟩
      · exact .inl (by omega)
    · exact .inr ⟨m, by omega, g2, g3⟩
  · rintro (g | ⟨m, g1, g2, g3⟩)
    · exact .inl (by omega)
    · by_cases e : m = i
      · subst e
        exact .inl (by omega)
      · exact .inr ⟨m, by omega, g2, g3⟩
theorem SpreadI.may {σ τ : List (Option Int)} {base D i : Nat} {evs : List Ev} {ps : List Int} (h : SpreadI σ base D ps (i + 1) τ evs) (hp : PlOK ps base D) (hD : base + D ≤ σ.length) (q : Nat) (hq : ps.getD i 0 = (q : Int)) (hne : q ≠ base + i) :
    ∃ x, MayMove τ x (base + i) q := by
  have hle := h.le
  have h1 := hp.at i (by omega)
  have h2 := hp.hi _ (getD_mem (show i < ps.length by omega))
  have hon : onOf τ (base + i) = true := (h.inn (base + i) (by omega) (by omega)).2 (.inl (by omega))
  have free : ∀ k, base + i < k → k ≤ q → onOf τ k = false := by
    intro k g1 g2
    cases e : onOf τ k
    · rfl
    · rcases (h.inn k (by omega) (by omega)).1 e with g | ⟨m, g3, g4, g5⟩
      · omega
      · have := pw_getD hp.up (show i < m by omega) g4
        omega
  obtain ⟨x, hx⟩ := onOf_true hon
  refine ⟨x, getD_lt hx, by rw [h.steps.length]; omega, hx, free q (by omega) (Nat.le_refl _), fun k hk => ?_⟩
  exact free k (by omega) (by omega)
theorem SpreadI.move {σ τ : List (Option Int)} {base D i : Nat} {evs : List Ev} {ps : List Int} (h : SpreadI σ base D ps (i + 1) τ evs) (hp : PlOK ps base D) (q : Nat) (hq : ps.getD i 0 = (q : Int)) (x : Int) (hm : MayMove τ x (base + i) q) :
    SpreadI σ base D ps i (mvS τ (base + i) q) (evs ++ [(x, ((base + i : Nat) : Int), (q : Int))]) := by
  have hle := h.le
  have h1 := hp.at i (by omega)
  have h2 := hp.hi _ (getD_mem (show i < ps.length by omega))
  have hne := hm.ne
  refine ⟨h.steps.move hm, by omega, fun k g1 g2 => ?_, fun k hk => ?_⟩
  · rw [mvS_on _ _ _ _ hm.hi hm.hj (onOf_some hm.hx)]
    by_cases e : k = q
    · rw [if_pos e]
      exact ⟨fun _ => .inr ⟨i, Nat.le_refl _, by omega, by rw [hq, e]⟩, fun _ => rfl⟩
    · rw [if_neg e]
      by_cases e2 : k = base + i
      · rw [if_pos e2]
        refine ⟨fun g => absurd g (by simp), fun g => ?_⟩
        rcases g with g | ⟨m, g3, g4, g5⟩
        · omega
        · have := hp.at m g4
          by_cases em : m = i
          · subst em; omega
          · omega
      · rw [if_neg e2, h.inn k g1 g2]
        constructor
        · rintro (g | ⟨m, g3, g4, g5⟩)
          · exact .inl (by omega)
          · exact .inr ⟨m, by omega, g4, g5⟩
        · rintro (g | ⟨m, g3, g4, g5⟩)
          · exact .inl (by omega)
          · by_cases em : m = i
            · subst em; omega
            · exact .inr ⟨m, by omega, g4, g5⟩
  · rw [mvS_getD _ _ _ _ hm.hi hm.hj, if_neg (by omega), if_neg (by omega), h.out k hk]

/-- A window that is laid evenly: what is outside stays; inside, just the places are occupied. -/
structure EvenR (σ : List (Option Int)) (base D : Nat) (ps : List Int) (τ : List (Option Int)) : Prop where
  len : τ.length = σ.length
  items : its τ = its σ
  inn : ∀ k, base ≤ k → k < base + D → (onOf τ k = true ↔ (k : Int) ∈ ps)
  out : ∀ k, k < base ∨ base + D ≤ k → τ.getD k none = σ.getD k none
theorem mem_getD {ps : List Int} {x : Int} : x ∈ ps ↔ ∃ m, m < ps.length ∧ ps.getD m 0 = x := by
  constructor
  · intro h
    obtain ⟨m, hm, e⟩ := List.getElem_of_mem h
    exact ⟨m, hm, by simp [List.getD_eq_getElem?_getD, List.getElem?_eq_getElem hm, e]⟩
  · rintro ⟨m, hm, rfl⟩
    exact getD_mem hm
theorem SpreadI.done {σ τ : List (Option Int)} {base D : Nat} {evs : List Ev} {ps : List Int} (h : SpreadI σ base D ps 0 τ evs) : EvenR σ base D ps τ := by
  refine ⟨h.steps.length, h.steps.its, fun k h1 h2 => ?_, h.out⟩
  rw [h.inn k h1 h2, mem_getD]
  constructor
  · rintro (g | ⟨m, _, g2, g3⟩)
    · omega
    · exact ⟨m, g2, g3⟩
  · rintro ⟨m, g2, g3⟩
    exact .inr ⟨m, by omega, g2, g3⟩

/-- How many stand ahead of c, where those of A do. -/
theorem cnt_list (on : Nat → Bool) : ∀ (A : List Int) (a c : Nat), A.Pairwise (· < ·) → (∀ p ∈ A, (a : Int) ≤ p ∧ p < c) → (∀ k, a ≤ k → k < c → (on k = true ↔ (k : Int) ∈ A)) → a ≤ c → cntOn on c = cntOn on a + A.length
  | [], a, c, _, _, hk, hac => by
    have := cntOn_gap on a (c - a) (fun k h1 h2 => by
      cases e : on k
      · rfl
      · have := (hk k h1 (by omega)).1 e; cases this)
    rw [show a + (c - a) = c by omega] at this
    simpa using this
  | x :: A, a, c, hp, hr, hk, hac => by
    obtain ⟨h1, h2⟩ := hr x (by simp)
    obtain ⟨y, rfl⟩ : ∃ y : Nat, x = (y : Int) := ⟨x.toNat, by omega⟩
    obtain ⟨hlt, hp'⟩ := List.pairwise_cons.1 hp
    have e1 := cntOn_gap on a (y - a) (fun k g1 g2 => by
      cases e : on k
      · rfl
      · rcases List.mem_cons.1 ((hk k g1 (by omega)).1 e) with g | g
        · omega
        · have := hlt _ g; omega)
    rw [show a + (y - a) = y by omega] at e1
    have e2 := cntOn_on on y ((hk y (by omega) (by omega)).2 (by simp))
    have e3 := cnt_list on A (y + 1) c hp' (fun p hpA => ⟨by have := hlt p hpA; omega, (hr p (by simp [hpA])).2⟩) (fun k g1 g2 => by
      rw [hk k (by omega) g2, List.mem_cons]
      refine ⟨fun g => ?_, fun g => .inr g⟩
      rcases g with g | g
      · omega
      · exact g) (by omega)
    rw [e3, e2, e1, List.length_cons]
    omega

/-! ### The places of a spread -/
theorem segTo_mem (base m : Nat) : ∀ j, j ≤ m → m ≤ 8 → ∀ p ∈ segTo base m j, (base : Int) ≤ p ∧ p < ((base + 8 : Nat) : Int) ∧ p < ((base + j * 8 / m : Nat) : Int) + (if j = 0 then 1 else 0)
  | 0, _, _ => by simp [segTo]
  | j + 1, h1, h2 => by
    intro p hp
    rw [if_neg (by omega)]
    unfold segTo at hp
    have step : j * 8 / m < (j + 1) * 8 / m := by
      have : (j * 8 + m) / m ≤ (j + 1) * 8 / m := Nat.div_le_div_right (by omega)
      rw [Nat.add_div_right _ (by omega)] at this
      exact this
    rcases List.mem_append.1 hp with hp | hp
    · obtain ⟨a, b, c⟩ := segTo_mem base m j (by omega) h2 p hp
      refine ⟨a, b, ?_⟩
      by_cases e : j = 0
      · subst e; simp [segTo] at hp
      · rw [if_neg e] at c; omega
    · have e := List.mem_singleton.1 hp
      subst e
      have h8 : j * 8 / m < 8 := Nat.div_lt_of_lt_mul (by omega)
      generalize j * 8 / m = z at *
      generalize (j + 1) * 8 / m = y at *
      refine ⟨by omega, by omega, by omega⟩
theorem segTo_up (base m : Nat) : ∀ j, j ≤ m → m ≤ 8 → (segTo base m j).Pairwise (· < ·)
  | 0, _, _ => by simp [segTo]
  | j + 1, h1, h2 => by
    unfold segTo
    refine List.pairwise_append.2 ⟨segTo_up base m j (by omega) h2, by simp, fun a ha b hb => ?_⟩
    have e := List.mem_singleton.1 hb
    subst e
    obtain ⟨_, _, c⟩ := segTo_mem base m j (by omega) h2 a ha
    by_cases e : j = 0
    · subst e; simp [segTo] at ha
    · rw [if_neg e] at c; omega
theorem plcTo_ok (n first segs : Nat) (h0 : 0 < segs) (hn : n ≤ 8 * segs) : ∀ k, k ≤ segs → PlOK (plcTo n first segs k) (8 * first) (8 * k)
  | 0, _ => ⟨by simp [plcTo], by simp [plcTo], by simp [plcTo]⟩
  | k + 1, hk => by
    have ih := plcTo_ok n first segs h0 hn k (by omega)
    have hs := shr_le n segs k h0 hn
    have hm := segTo_mem (8 * (first + k)) (shr n segs k) (shr n segs k) (Nat.le_refl _) hs
    unfold plcTo
    refine ⟨List.pairwise_append.2 ⟨ih.up, segTo_up _ _ _ (Nat.le_refl _) hs, fun a ha b hb => ?_⟩, fun p hp => ?_, fun p hp => ?_⟩
    · have := ih.hi a ha
      have := (hm b hb).1
      omega
    · rcases List.mem_append.1 hp with hp | hp
      · exact ih.lo p hp
      · have := (hm p hp).1; omega
    · rcases List.mem_append.1 hp with hp | hp
      · have := ih.hi p hp; omega
      · have := (hm p hp).2.1; omega
theorem plcL_ok (n first segs : Nat) (h0 : 0 < segs) (hn : n ≤ 8 * segs) : PlOK (plcL n first segs) (8 * first) (8 * segs) := plcTo_ok n first segs h0 hn segs (Nat.le_refl _)
/-- Of the places those ahead of a segment. -/
theorem plcL_mem_lt (n first segs : Nat) (h0 : 0 < segs) (hn : n ≤ 8 * segs) (k : Nat) (hk : k ≤ segs) (p : Int) (hp : p < ((8 * (first + k) : Nat) : Int)) : p ∈ plcL n first segs ↔ p ∈ plcTo n first segs k := by
  have h1 := plcTo_prefix n first segs k (segs - k)
  rw [show k + (segs - k) = segs by omega] at h1
  refine ⟨fun h => ?_, fun h => h1.subset h⟩
  unfold plcL at h
  have key : ∀ d, k + d ≤ segs → p ∈ plcTo n first segs (k + d) → p ∈ plcTo n first segs k := by
    intro d
    induction d with
    | zero => exact fun _ h => h
    | succ d ih =>
      intro hd h
      have h2 : p ∈ plcTo n first segs (k + d) ++ segTo (8 * (first + (k + d))) (shr n segs (k + d)) (shr n segs (k + d)) := h
      rcases List.mem_append.1 h2 with h2 | h2
      · exact ih (by omega) h2
      · have := (segTo_mem _ _ _ (Nat.le_refl _) (shr_le n segs (k + d) h0 hn) p h2).1
        omega
  have := key (segs - k) (by omega)
  rw [show k + (segs - k) = segs by omega] at this
  exact this h
/-- How many stand ahead of a segment in a window that is laid. -/
theorem EvenR.cnt {σ τ : List (Option Int)} {n first segs : Nat} (h : EvenR σ (8 * first) (8 * segs) (plcL n first segs) τ) (h0 : 0 < segs) (hn : n ≤ 8 * segs) (k : Nat) (hk : k ≤ segs) :
    cntOn (onOf τ) (8 * (first + k)) = cntOn (onOf σ) (8 * first) + ahd n segs k := by
  have e0 : cntOn (onOf τ) (8 * first) = cntOn (onOf σ) (8 * first) := cntOn_congr _ _ _ (fun j hj => onOf_eq (h.out j (.inl hj)))
  have hok := plcTo_ok n first segs h0 hn k hk
  rw [cnt_list (onOf τ) (plcTo n first segs k) (8 * first) (8 * (first + k)) hok.up (fun p hp => ⟨hok.lo p hp, by have := hok.hi p hp; omega⟩) (fun j h1 h2 => by
    rw [h.inn j h1 (by omega), plcL_mem_lt n first segs h0 hn k hk _ (by omega)]) (by omega), plcTo_length, e0]
/-- A segment's share, bounded. -/
theorem shr_upper (n segs k b : Nat) (h : 0 < segs) (hn : n ≤ b * segs) : shr n segs k ≤ b := by
  unfold shr ahd
  have h1 : (k + 1) * n / segs ≤ (k * n + b * segs) / segs := Nat.div_le_div_right (by rw [Nat.succ_mul]; omega)
  rw [Nat.add_mul_div_right _ _ h] at h1
  omega
theorem shr_lower (n segs k b : Nat) (h : 0 < segs) (hn : b * segs ≤ n) : b ≤ shr n segs k := by
  unfold shr ahd
  have h1 : (k * n + b * segs) / segs ≤ (k + 1) * n / segs := Nat.div_le_div_right (by rw [Nat.succ_mul]; omega)
  rw [Nat.add_mul_div_right _ _ h] at h1
  omega
end Go.Proofs.YtechphliifginaaGreatDoor

/- Letting a slot become free; putting in and taking out; a row that is laid anew. No program in sight. -/
set_option linter.unusedVariables false
set_option linter.unusedSimpArgs false
namespace Go.Proofs.YtechphliifginaaGreatDoor
open Go.RowKit

/-- A slot of a segment became free: as many are ahead of it as were ahead of 'next'. -/
structure OpenR (σ : List (Option Int)) (base next : Nat) (τ : List (Option Int)) (slot : Nat) : Prop where
  len : τ.length = σ.length
  items : its τ = its σ
  free : onOf τ slot = false
  lo : base ≤ slot
  hi : slot < base + 8
  rank : cntOn (onOf τ) slot = cntOn (onOf σ) next
  out : ∀ k, k < base ∨ base + 8 ≤ k → τ.getD k none = σ.getD k none
structure OpenRI (σ : List (Option Int)) (base next i : Nat) (τ : List (Option Int)) (evs : List Ev) : Prop where
  steps : Steps σ evs τ
  lo : next ≤ i
  hi : i < base + 8
  free : onOf τ i = false
  low : ∀ k, k < i → τ.getD k none = σ.getD k none
  high : ∀ k, base + 8 ≤ k → τ.getD k none = σ.getD k none
  on : ∀ k, next ≤ k → k < i → onOf σ k = true
theorem OpenRI.may {σ τ : List (Option Int)} {base next i : Nat} {evs : List Ev} (h : OpenRI σ base next (i + 1) τ evs) (hn : next ≤ i) (hl : base + 8 ≤ σ.length) : ∃ x, MayMove τ x i (i + 1) := by
  have ho : onOf τ i = true := (onOf_eq (h.low i (by omega))).trans (h.on i hn (by omega))
  obtain ⟨x, hx⟩ := onOf_true ho
  exact ⟨x, getD_lt hx, by rw [h.steps.length]; have := h.hi; omega, hx, h.free, fun k hk => by omega⟩
theorem OpenRI.move {σ τ : List (Option Int)} {base next i : Nat} {evs : List Ev} (h : OpenRI σ base next (i + 1) τ evs) (hn : next ≤ i) {x : Int} (hm : MayMove τ x i (i + 1)) :
    OpenRI σ base next i (mvS τ i (i + 1)) (evs ++ [(x, (i : Int), ((i + 1 : Nat) : Int))]) := by
  have hg := fun k => mvS_getD τ i (i + 1) k hm.hi hm.hj
  refine ⟨h.steps.move hm, hn, by have := h.hi; omega, ?_, fun k hk => ?_, fun k hk => ?_, fun k h1 h2 => h.on k h1 (by omega)⟩
  · rw [mvS_on _ _ _ _ hm.hi hm.hj (onOf_some hm.hx), if_neg (by omega), if_pos rfl]
  · rw [hg, if_neg (by omega), if_neg (by omega), h.low k (by omega)]
  · have := h.hi
    rw [hg, if_neg (by omega), if_neg (by omega), h.high k hk]
theorem OpenRI.done {σ τ : List (Option Int)} {base next : Nat} {evs : List Ev} (h : OpenRI σ base next next τ evs) (hb : base ≤ next) : OpenR σ base next τ next :=
  ⟨h.steps.length, h.steps.its, h.free, hb, h.hi, cntOn_congr _ _ _ (fun k hk => onOf_eq (h.low k hk)), fun k hk => by
    rcases hk with hk | hk
    · exact h.low k (by omega)
    · exact h.high k hk⟩
structure OpenLI (σ : List (Option Int)) (base behind i : Nat) (τ : List (Option Int)) (evs : List Ev) : Prop where
  steps : Steps σ evs τ
  lo : base ≤ i
  hi : i ≤ behind
  free : onOf τ i = false
  high : ∀ k, i < k → τ.getD k none = σ.getD k none
  low : ∀ k, k < base → τ.getD k none = σ.getD k none
  on : ∀ k, i < k → k ≤ behind → onOf σ k = true
theorem OpenLI.may {σ τ : List (Option Int)} {base behind i : Nat} {evs : List Ev} (h : OpenLI σ base behind i τ evs) (hn : i < behind) : ∃ x, MayMove τ x (i + 1) i := by
  have ho : onOf τ (i + 1) = true := (onOf_eq (h.high (i + 1) (by omega))).trans (h.on (i + 1) (by omega) (by omega))
  obtain ⟨x, hx⟩ := onOf_true ho
  have := getD_lt hx
  exact ⟨x, getD_lt hx, by omega, hx, h.free, fun k hk => by omega⟩
theorem OpenLI.move {σ τ : List (Option Int)} {base behind i : Nat} {evs : List Ev} (h : OpenLI σ base behind i τ evs) (hn : i < behind) {x : Int} (hm : MayMove τ x (i + 1) i) :
    OpenLI σ base behind (i + 1) (mvS τ (i + 1) i) (evs ++ [(x, ((i + 1 : Nat) : Int), (i : Int))]) := by
  have hg := fun k => mvS_getD τ (i + 1) i k hm.hi hm.hj
  have := h.lo
  refine ⟨h.steps.move hm, by omega, hn, ?_, fun k hk => ?_, fun k hk => ?_, fun k h1 h2 => h.on k (by omega) h2⟩
  · rw [mvS_on _ _ _ _ hm.hi hm.hj (onOf_some hm.hx), if_neg (by omega), if_pos rfl]
  · rw [hg, if_neg (by omega), if_neg (by omega), h.high k (by omega)]
  · rw [hg, if_neg (by omega), if_neg (by omega), h.low k hk]
theorem cntOn_top {σ τ : List (Option Int)} (hl : τ.length = σ.length) (hi : its τ = its σ) (a : Nat) (ha : a ≤ σ.length) (h : ∀ k, a ≤ k → onOf τ k = onOf σ k) : cntOn (onOf τ) a = cntOn (onOf σ) a := by
  have e1 : cntOn (onOf τ) τ.length = cntOn (onOf σ) σ.length := by rw [← its_length, ← its_length, hi]
  have e2 := cntOn_same (onOf τ) (onOf σ) a (cntOn (onOf σ) a) (cntOn (onOf τ) a) (σ.length - a) (by omega) (fun k h1 _ => h k h1)
  rw [show a + (σ.length - a) = σ.length by omega] at e2
  rw [hl] at e1
  omega
theorem OpenLI.done {σ τ : List (Option Int)} {base behind : Nat} {evs : List Ev} (h : OpenLI σ base behind behind τ evs) (hb : behind < base + 8) (hl : base + 8 ≤ σ.length) : OpenR σ base (behind + 1) τ behind := by
  refine ⟨h.steps.length, h.steps.its, h.free, h.lo, hb, ?_, fun k hk => ?_⟩
  · rw [← cntOn_off _ _ h.free]
    exact cntOn_top h.steps.length h.steps.its (behind + 1) (by omega) (fun k hk => onOf_eq (h.high k (by omega)))
  · rcases hk with hk | hk
    · exact h.low k hk
    · exact h.high k (by omega)

/-! ### Putting in, taking out -/
theorem itsTo_take (σ : List (Option Int)) (n : Nat) (hn : n ≤ σ.length) : itsTo σ n = (its σ).take (cntOn (onOf σ) n) := by
  have h := itsTo_prefix σ n (σ.length - n)
  rw [show n + (σ.length - n) = σ.length by omega, ← its_to] at h
  obtain ⟨r, hr⟩ := h
  rw [← hr, ← itsTo_length, List.take_left']
  rfl
theorem itsTo_split (σ τ : List (Option Int)) (a : Nat) (ha : a < σ.length) (hl : τ.length = σ.length) (hlo : ∀ k, k < a → τ.getD k none = σ.getD k none) (hhi : ∀ k, a < k → τ.getD k none = σ.getD k none) :
    ∃ A B, its σ = A ++ (σ.getD a none).toList ++ B ∧ its τ = A ++ (τ.getD a none).toList ++ B ∧ A.length = cntOn (onOf σ) a := by
  have e0 : itsTo τ a = itsTo σ a := by
    have := itsTo_same τ σ 0 a rfl (fun k _ h2 => hlo k (by omega))
    simpa using this
  have step : ∀ (υ : List (Option Int)) n, itsTo υ (n + 1) = itsTo υ n ++ (υ.getD n none).toList := by
    intro υ n
    cases h : υ.getD n none with
    | none => rw [itsTo_none _ _ h]; simp
    | some x => rw [itsTo_some _ _ x h]; rfl
  have key : ∀ d, a + 1 + d ≤ σ.length → ∃ B, itsTo σ (a + 1 + d) = itsTo σ a ++ (σ.getD a none).toList ++ B ∧ itsTo τ (a + 1 + d) = itsTo σ a ++ (τ.getD a none).toList ++ B := by
    intro d
    induction d with
    | zero => exact fun _ => ⟨[], by rw [List.append_nil]; exact step σ a, by rw [List.append_nil, ← e0]; exact step τ a⟩
    | succ d ih =>
      intro hd
      obtain ⟨B, h1, h2⟩ := ih (by omega)
      refine ⟨B ++ (σ.getD (a + 1 + d) none).toList, ?_, ?_⟩
      · show itsTo σ (a + 1 + d + 1) = _
        rw [step, h1]; simp
      · show itsTo τ (a + 1 + d + 1) = _
        rw [step, h2, hhi (a + 1 + d) (by omega)]; simp
  obtain ⟨B, h1, h2⟩ := key (σ.length - (a + 1)) (by omega)
  rw [show a + 1 + (σ.length - (a + 1)) = σ.length by omega] at h1 h2
  exact ⟨itsTo σ a, B, h1, by rw [its_to, hl]; exact h2, itsTo_length σ a⟩
theorem its_put {σ : List (Option Int)} {j : Nat} (x : Int) (hj : j < σ.length) (hf : onOf σ j = false) : its (σ.set j (some x)) = (its σ).take (cntOn (onOf σ) j) ++ x :: (its σ).drop (cntOn (onOf σ) j) := by
  obtain ⟨A, B, h1, h2, h3⟩ := itsTo_split σ (σ.set j (some x)) j hj (by simp) (fun k hk => by rw [getD_setO _ _ _ _ hj, if_neg (by omega)]) (fun k hk => by rw [getD_setO _ _ _ _ hj, if_neg (by omega)])
  rw [onOf_none_iff.1 hf] at h1
  rw [getD_setO _ _ _ _ hj, if_pos rfl] at h2
  rw [h2, h1, ← h3]
  simp
theorem its_take {σ : List (Option Int)} {j : Nat} {x : Int} (hx : σ.getD j none = some x) : its (σ.set j none) = (its σ).take (cntOn (onOf σ) j) ++ (its σ).drop (cntOn (onOf σ) j + 1) := by
  have hj := getD_lt hx
  obtain ⟨A, B, h1, h2, h3⟩ := itsTo_split σ (σ.set j none) j hj (by simp) (fun k hk => by rw [getD_setO _ _ _ _ hj, if_neg (by omega)]) (fun k hk => by rw [getD_setO _ _ _ _ hj, if_neg (by omega)])
  rw [hx] at h1
  rw [getD_setO _ _ _ _ hj, if_pos rfl] at h2
  rw [h2, h1, ← h3]
  simp
theorem cntOn_set {σ : List (Option Int)} {j : Nat} (o : Option Int) (hj : j < σ.length) (n : Nat) : cntOn (onOf (σ.set j o)) n + (if j < n then (onOf σ j).toNat else 0) = cntOn (onOf σ) n + (if j < n then o.isSome.toNat else 0) := by
  have ho : ∀ k, onOf (σ.set j o) k = if k = j then o.isSome else onOf σ k := fun k => by rw [onOf_set _ _ _ hj]; rfl
  by_cases h : j < n
  · rw [if_pos h, if_pos h]
    have e1 := cntOn_congr (onOf (σ.set j o)) (onOf σ) j (fun k hk => by rw [ho, if_neg (by omega)])
    have e2 := cntOn_same (onOf (σ.set j o)) (onOf σ) (j + 1) (onOf σ j).toNat o.isSome.toNat (n - (j + 1)) (by
      show cntOn _ j + (onOf (σ.set j o) j).toNat + _ = cntOn _ j + (onOf σ j).toNat + _
      rw [e1, ho, if_pos rfl]; omega) (fun k h1 h2 => by rw [ho, if_neg (by omega)])
    rwa [show j + 1 + (n - (j + 1)) = n by omega] at e2
  · rw [if_neg h, if_neg h, cntOn_congr (onOf (σ.set j o)) (onOf σ) n (fun k hk => by rw [ho, if_neg (by omega)])]

/-! ### Counts of segments -/
def segC (σ : List (Option Int)) (k : Nat) : Nat := cntOn (onOf σ) (8 * (k + 1)) - cntOn (onOf σ) (8 * k)
def winC (σ : List (Option Int)) (first n : Nat) : Nat := cntOn (onOf σ) (8 * (first + n)) - cntOn (onOf σ) (8 * first)
def cntsL (σ : List (Option Int)) : List Int := (List.range (σ.length / 8)).map fun k => (segC σ k : Int)
theorem cntsL_length (σ : List (Option Int)) : (cntsL σ).length = σ.length / 8 := by simp [cntsL]
theorem cntsL_getD (σ : List (Option Int)) (k : Nat) (hk : k < σ.length / 8) : (cntsL σ).getD k 0 = (segC σ k : Int) := by
  simp [cntsL, List.getD_eq_getElem?_getD, hk]
theorem cntOn_seg (σ : List (Option Int)) (k : Nat) : cntOn (onOf σ) (8 * (k + 1)) = cntOn (onOf σ) (8 * k) + segC σ k := by
  have := cntOn_le_of (onOf σ) (show 8 * k ≤ 8 * (k + 1) by omega)
  unfold segC; omega
theorem cntOn_win (σ : List (Option Int)) (first n : Nat) : cntOn (onOf σ) (8 * (first + n)) = cntOn (onOf σ) (8 * first) + winC σ first n := by
  have := cntOn_le_of (onOf σ) (show 8 * first ≤ 8 * (first + n) by omega)
  unfold winC; omega
theorem winC_succ (σ : List (Option Int)) (first n : Nat) : winC σ first (n + 1) = winC σ first n + segC σ (first + n) := by
  have e1 := cntOn_win σ first n
  have e2 := cntOn_win σ first (n + 1)
  have e3 := cntOn_seg σ (first + n)
  have : 8 * (first + (n + 1)) = 8 * (first + n + 1) := by omega
  rw [this] at e2
  omega
theorem cntOn_add_le (on : Nat → Bool) (a : Nat) : ∀ d, cntOn on (a + d) ≤ cntOn on a + d
  | 0 => Nat.le_refl _
  | d + 1 => by
    have := cntOn_add_le on a d
    show cntOn on (a + d) + (on (a + d)).toNat ≤ _
    cases on (a + d) <;> simp <;> omega
theorem segC_le (σ : List (Option Int)) (k : Nat) : segC σ k ≤ 8 := by
  have := cntOn_add_le (onOf σ) (8 * k) 8
  rw [show 8 * k + 8 = 8 * (k + 1) by omega] at this
  unfold segC; omega
theorem winC_le (σ : List (Option Int)) (first n : Nat) : winC σ first n ≤ 8 * n := by
  have := cntOn_add_le (onOf σ) (8 * first) (8 * n)
  rw [show 8 * first + 8 * n = 8 * (first + n) by omega] at this
  unfold winC; omega
/-- A segment that is not full has a slot that is free. -/
theorem seg_free {σ : List (Option Int)} {k : Nat} (h : segC σ k ≤ 7) : ∃ j, 8 * k ≤ j ∧ j < 8 * k + 8 ∧ onOf σ j = false := by
  by_cases hh : ∃ j, 8 * k ≤ j ∧ j < 8 * k + 8 ∧ onOf σ j = false
  · exact hh
  · exfalso
    have all : ∀ d, d ≤ 8 → cntOn (onOf σ) (8 * k + d) = cntOn (onOf σ) (8 * k) + d := by
      intro d
      induction d with
      | zero => exact fun _ => rfl
      | succ d ih =>
        intro hd
        have : onOf σ (8 * k + d) = true := by
          cases e : onOf σ (8 * k + d)
          · exact (hh ⟨_, by omega, by omega, e⟩).elim
          · rfl
        show cntOn (onOf σ) (8 * k + d + 1) = _
        rw [cntOn_on _ _ this, ih (by omega)]; omega
    have := all 8 (Nat.le_refl _)
    have e := cntOn_seg σ k
    rw [show 8 * (k + 1) = 8 * k + 8 by omega] at e
    omega

/-- A row that is laid anew, in segments of its own. -/
structure LaidR (l : List Int) (segs : Nat) (τ : List (Option Int)) : Prop where
  len : τ.length = 8 * segs
  items : its τ = l
  on : ∀ k, k < 8 * segs → (onOf τ k = true ↔ (k : Int) ∈ plcL l.length 0 segs)
theorem LaidR.cnt {l : List Int} {segs : Nat} {τ : List (Option Int)} (h : LaidR l segs τ) (h0 : 0 < segs) (hn : l.length ≤ 8 * segs) (k : Nat) (hk : k ≤ segs) : cntOn (onOf τ) (8 * k) = ahd l.length segs k := by
  have hok := plcTo_ok l.length 0 segs h0 hn k hk
  have := cnt_list (onOf τ) (plcTo l.length 0 segs k) 0 (8 * k) hok.up (fun p hp => ⟨by have := hok.lo p hp; omega, by have := hok.hi p hp; omega⟩) (fun j h1 h2 => by
    rw [h.on j (by omega), plcL_mem_lt l.length 0 segs h0 hn k hk _ (by omega)]) (by omega)
  rw [this, plcTo_length]
  show 0 + _ = _
  omega
theorem LaidR.uniq {l : List Int} {segs : Nat} {τ υ : List (Option Int)} (h : LaidR l segs τ) (k : LaidR l segs υ) : τ = υ := by
  refine slots_ext (h.len.trans k.len.symm) (fun j => ?_) (h.items.trans k.items.symm)
  rcases Nat.lt_or_ge j (8 * segs) with g | g
  · have := (h.on j g).trans (k.on j g).symm
    cases e1 : onOf τ j <;> cases e2 : onOf υ j <;> simp_all
  · rw [onOf_out _ _ (by rw [h.len]; exact g), onOf_out _ _ (by rw [k.len]; exact g)]
theorem EvenR.uniq {σ τ υ : List (Option Int)} {base D : Nat} {ps : List Int} (h : EvenR σ base D ps τ) (k : EvenR σ base D ps υ) : τ = υ := by
  refine slots_ext (h.len.trans k.len.symm) (fun j => ?_) (h.items.trans k.items.symm)
  by_cases g : base ≤ j ∧ j < base + D
  · have := (h.inn j g.1 g.2).trans (k.inn j g.1 g.2).symm
    cases e1 : onOf τ j <;> cases e2 : onOf υ j <;> simp_all
  · exact onOf_eq ((h.out j (by omega)).trans (k.out j (by omega)).symm)
end Go.Proofs.YtechphliifginaaGreatDoor
