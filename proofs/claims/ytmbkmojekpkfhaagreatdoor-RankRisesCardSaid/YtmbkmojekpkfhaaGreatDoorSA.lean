/- Keys that rise: how many are less than one; what comes and goes. (plain) -/
import Derived.Test.YtmbkmojekpkfhaaGreatDoorGQ
set_option linter.unusedVariables false
set_option linter.unusedSimpArgs false
namespace Go.Proofs.YtmbkmojekpkfhaaGreatDoor
open Go.RowKit

/-- Keys rise. -/
def Up (ks : List Int) : Prop := ks.Pairwise (· < ·)
/-- How many keys are less than one. -/
def lessC (ks : List Int) (key : Int) : Nat := (ks.takeWhile fun k => decide (k < key)).length
theorem lessC_le (ks : List Int) (key : Int) : lessC ks key ≤ ks.length := (List.takeWhile_prefix _).length_le
theorem lessC_nil (key : Int) : lessC [] key = 0 := rfl
theorem lessC_cons (k : Int) (ks : List Int) (key : Int) : lessC (k :: ks) key = if k < key then lessC ks key + 1 else 0 := by
  unfold lessC
  rw [List.takeWhile_cons]
  by_cases h : k < key
  · rw [if_pos h, if_pos (by simpa using h)]; rfl
  · rw [if_neg h, if_neg (by simpa using h)]; rfl
theorem lessC_lt {ks : List Int} {key : Int} : ∀ {i : Nat} {x : Int}, ks[i]? = some x → i < lessC ks key → x < key := by
  induction ks with
  | nil => intro i x h; simp at h
  | cons k ks ih =>
    intro i x h hi
    rw [lessC_cons] at hi
    by_cases hk : k < key
    · rw [if_pos hk] at hi
      cases i with
      | zero => simp at h; omega
      | succ i => exact ih (by simpa using h) (by omega)
    · rw [if_neg hk] at hi; omega
theorem up_get {ks : List Int} (H : Up ks) {i j : Nat} {x y : Int} (hi : ks[i]? = some x) (hj : ks[j]? = some y) : x < y ↔ i < j := by
  obtain ⟨h1, e1⟩ := List.getElem?_eq_some_iff.1 hi
  obtain ⟨h2, e2⟩ := List.getElem?_eq_some_iff.1 hj
  have key := List.pairwise_iff_getElem.1 H
  constructor
  · intro h
    rcases Nat.lt_trichotomy i j with g | g | g
    · exact g
    · subst g; rw [e1] at e2; omega
    · have := key j i h2 h1 g; omega
  · intro h
    have := key i j h1 h2 h; omega
theorem up_inj {ks : List Int} (H : Up ks) {i j : Nat} {x : Int} (hi : ks[i]? = some x) (hj : ks[j]? = some x) : i = j := by
  have a := up_get H hi hj
  have b := up_get H hj hi
  omega
theorem lessC_at {ks : List Int} {key : Int} : ∀ {x : Int}, ks[lessC ks key]? = some x → key ≤ x := by
  induction ks with
  | nil => intro x h; simp at h
  | cons k ks ih =>
    intro x h
    rw [lessC_cons] at h
    by_cases hk : k < key
    · rw [if_pos hk] at h
      exact ih (by simpa using h)
    · rw [if_neg hk] at h
      simp at h; omega
theorem lessC_ge {ks : List Int} (H : Up ks) {key : Int} {i : Nat} {x : Int} (h : ks[i]? = some x) (hi : lessC ks key ≤ i) : key ≤ x := by
  obtain ⟨hl, _⟩ := List.getElem?_eq_some_iff.1 h
  obtain ⟨y, hy⟩ : ∃ y, ks[lessC ks key]? = some y := ⟨_, List.getElem?_eq_getElem (by omega)⟩
  have h1 := lessC_at hy
  rcases Nat.lt_or_ge (lessC ks key) i with g | g
  · have := (up_get H hy h).2 g; omega
  · have : lessC ks key = i := by omega
    rw [this, h] at hy
    injection hy with hy; omega
theorem lessC_iff {ks : List Int} (H : Up ks) {key : Int} {i : Nat} {x : Int} (h : ks[i]? = some x) : x < key ↔ i < lessC ks key :=
  ⟨fun hx => by
    rcases Nat.lt_or_ge i (lessC ks key) with g | g
    · exact g
    · have := lessC_ge H h g; omega, lessC_lt h⟩
/-- The number that parts keys is the one. -/
theorem lessC_uniq {ks : List Int} (H : Up ks) {key : Int} {n : Nat} (hn : n ≤ ks.length) (h1 : ∀ i x, ks[i]? = some x → i < n → x < key) (h2 : ∀ i x, ks[i]? = some x → n ≤ i → key ≤ x) : lessC ks key = n := by
  have h0 := lessC_le ks key
  rcases Nat.lt_trichotomy (lessC ks key) n with g | g | g
  · obtain ⟨y, hy⟩ : ∃ y, ks[lessC ks key]? = some y := ⟨_, List.getElem?_eq_getElem (by omega)⟩
    have a := h1 _ _ hy g
    have b := lessC_at hy
    omega
  · exact g
  · obtain ⟨y, hy⟩ : ∃ y, ks[n]? = some y := ⟨_, List.getElem?_eq_getElem (by omega)⟩
    have a := h2 _ _ hy (Nat.le_refl _)
    have b := lessC_lt hy g
    omega
theorem mem_lessC {ks : List Int} (H : Up ks) {key : Int} : key ∈ ks ↔ ks[lessC ks key]? = some key := by
  constructor
  · intro h
    obtain ⟨i, hi, e⟩ := List.getElem_of_mem h
    have h1 : ks[i]? = some key := List.getElem?_eq_some_iff.2 ⟨hi, e⟩
    have h2 := lessC_iff H (key := key) h1
    have h3 : ¬ i < lessC ks key := fun g => by have := h2.2 g; omega
    obtain ⟨y, hy⟩ : ∃ y, ks[lessC ks key]? = some y := ⟨_, List.getElem?_eq_getElem (by omega)⟩
    have h4 := lessC_at hy
    have h5 := up_get H hy h1
    have h6 : lessC ks key = i := by
      rcases Nat.lt_or_ge (lessC ks key) i with g | g
      · have := h5.2 g; omega
      · omega
    rw [h6]; exact h1
  · intro h
    exact List.mem_of_getElem? h
/-- A key comes. -/
def putK (ks : List Int) (key : Int) : List Int := ks.take (lessC ks key) ++ key :: ks.drop (lessC ks key)
/-- A key goes. -/
def delK (ks : List Int) (key : Int) : List Int := ks.take (lessC ks key) ++ ks.drop (lessC ks key + 1)
theorem mem_putK {ks : List Int} {key y : Int} : y ∈ putK ks key ↔ y = key ∨ y ∈ ks := by
  unfold putK
  rw [List.mem_append, List.mem_cons]
  constructor
  · rintro (h | h | h)
    · exact .inr (List.mem_of_mem_take h)
    · exact .inl h
    · exact .inr (List.mem_of_mem_drop h)
  · rintro (h | h)
    · exact .inr (.inl h)
    · rw [← List.take_append_drop (lessC ks key) ks, List.mem_append] at h
      rcases h with h | h
      · exact .inl h
      · exact .inr (.inr h)
theorem putK_length (ks : List Int) (key : Int) : (putK ks key).length = ks.length + 1 := by
  unfold putK
  rw [List.length_append, List.length_cons, List.length_take, List.length_drop]
  have := lessC_le ks key
  omega
theorem mem_take_get {ks : List Int} {n : Nat} {x : Int} (h : x ∈ ks.take n) : ∃ i, i < n ∧ ks[i]? = some x := by
  obtain ⟨i, hi, e⟩ := List.getElem_of_mem h
  rw [List.length_take] at hi
  rw [List.getElem_take] at e
  exact ⟨i, by omega, List.getElem?_eq_some_iff.2 ⟨by omega, e⟩⟩
theorem mem_drop_get {ks : List Int} {n : Nat} {x : Int} (h : x ∈ ks.drop n) : ∃ i, n ≤ i ∧ ks[i]? = some x := by
  obtain ⟨i, hi, e⟩ := List.getElem_of_mem h
  rw [List.length_drop] at hi
  rw [List.getElem_drop] at e
  exact ⟨n + i, by omega, List.getElem?_eq_some_iff.2 ⟨by omega, e⟩⟩
theorem up_putK {ks : List Int} (H : Up ks) {key : Int} (hk : key ∉ ks) : Up (putK ks key) := by
  unfold Up putK
  rw [List.pairwise_append, List.pairwise_cons]
  refine ⟨H.sublist (List.take_sublist _ _), ⟨fun a ha => ?_, H.sublist (List.drop_sublist _ _)⟩, fun a ha b hb => ?_⟩
  · obtain ⟨i, hi, e⟩ := mem_drop_get ha
    have h1 := lessC_ge H e hi
    have h2 : a ≠ key := fun h => hk (h ▸ List.mem_of_getElem? e)
    omega
  · obtain ⟨i, hi, e⟩ := mem_take_get ha
    have h1 := lessC_lt e hi
    rcases List.mem_cons.1 hb with h | h
    · omega
    · obtain ⟨j, hj, e2⟩ := mem_drop_get h
      have := lessC_ge H e2 hj; omega
theorem up_delK {ks : List Int} (H : Up ks) (key : Int) : Up (delK ks key) := by
  unfold Up delK
  rw [List.pairwise_append]
  refine ⟨H.sublist (List.take_sublist _ _), H.sublist (List.drop_sublist _ _), fun a ha b hb => ?_⟩
  obtain ⟨i, hi, e⟩ := mem_take_get ha
  obtain ⟨j, hj, e2⟩ := mem_drop_get hb
  exact (up_get H e e2).2 (by omega)
theorem delK_length {ks : List Int} (H : Up ks) {key : Int} (hk : key ∈ ks) : (delK ks key).length + 1 = ks.length := by
  obtain ⟨h, _⟩ := List.getElem?_eq_some_iff.1 ((mem_lessC H).1 hk)
  unfold delK
  rw [List.length_append, List.length_take, List.length_drop]
  omega
theorem mem_delK {ks : List Int} (H : Up ks) {key y : Int} (hk : key ∈ ks) : y ∈ delK ks key ↔ y ∈ ks ∧ y ≠ key := by
  have hK := (mem_lessC H).1 hk
  unfold delK
  rw [List.mem_append]
  constructor
  · rintro (h | h)
    · obtain ⟨i, hi, e⟩ := mem_take_get h
      have := lessC_lt e hi
      exact ⟨List.mem_of_mem_take h, by omega⟩
    · obtain ⟨i, hi, e⟩ := mem_drop_get h
      have := (up_get H hK e).2 (by omega)
      exact ⟨List.mem_of_mem_drop h, by omega⟩
  · rintro ⟨h, hne⟩
    obtain ⟨i, hi, e⟩ := List.getElem_of_mem h
    have h1 : ks[i]? = some y := List.getElem?_eq_some_iff.2 ⟨hi, e⟩
    rcases Nat.lt_trichotomy i (lessC ks key) with g | g | g
    · left
      exact List.mem_of_getElem? (i := i) (by rw [List.getElem?_take, if_pos g]; exact h1)
    · rw [← g, h1] at hK
      injection hK with hK; exact absurd hK hne
    · right
      exact List.mem_of_getElem? (i := i - (lessC ks key + 1)) (by rw [List.getElem?_drop, show lessC ks key + 1 + (i - (lessC ks key + 1)) = i by omega]; exact h1)
/-- Keys in slots: one slot is ahead of another one just if its key is less. -/
theorem up_slots {σ : List (Option Int)} (H : Up (its σ)) {p q : Nat} {x y : Int} (hp : σ.getD p none = some x) (hq : σ.getD q none = some y) : x < y ↔ p < q := by
  rw [up_get H (its_get σ p x hp) (its_get σ q y hq)]
  constructor
  · intro h
    rcases Nat.lt_or_ge p q with g | g
    · exact g
    · have := cntOn_le_of (onOf σ) g; omega
  · intro h
    have h1 := cntOn_on (onOf σ) p (onOf_some hp)
    have h2 := cntOn_le_of (onOf σ) (show p + 1 ≤ q by omega)
    omega
/-- What 'Lower' finds. -/
inductive LowO (σ : List (Option Int)) (key r : Int) : Prop
  | none (hr : r = -1) (hl : lessC (its σ) key = (its σ).length)
  | some (q : Nat) (x : Int) (hr : r = q) (hq : σ.getD q none = some x) (hx : key ≤ x) (hc : cntOn (onOf σ) q = lessC (its σ) key)
/-- What 'Before' finds. -/
inductive BefO (σ : List (Option Int)) (key r : Int) : Prop
  | none (hr : r = -1) (hl : lessC (its σ) key = 0)
  | some (q : Nat) (x : Int) (hr : r = q) (hq : σ.getD q none = some x) (hx : x < key) (hc : cntOn (onOf σ) q + 1 = lessC (its σ) key)
/-- What 'Exact' finds. -/
inductive ExO (σ : List (Option Int)) (key r : Int) : Prop
  | none (hr : r = -1) (hl : key ∉ its σ)
  | some (q : Nat) (hr : r = q) (hq : σ.getD q none = some key) (hc : cntOn (onOf σ) q = lessC (its σ) key)
/-- Where each key holds a test, or does not. -/
structure FndR (σ : List (Option Int)) (P : Int → Bool) (r : Int) : Prop where
  no : r = -1 → ∀ q x, σ.getD q none = some x → P x = true
  yes : r ≠ -1 → ∃ (p : Nat) (x : Int), r = p ∧ σ.getD p none = some x ∧ P x = false ∧ ∀ q y, q < p → σ.getD q none = some y → P y = true
theorem cnt_of_split {σ : List (Option Int)} (H : Up (its σ)) {key : Int} {p : Nat} (hp : p ≤ σ.length) (h1 : ∀ q x, q < p → σ.getD q none = some x → x < key) (h2 : ∀ q x, p ≤ q → σ.getD q none = some x → key ≤ x) : lessC (its σ) key = cntOn (onOf σ) p := by
  have hs := itsTo_take σ p hp
  have hle : cntOn (onOf σ) p ≤ (its σ).length := by rw [its_length]; exact cntOn_le_of _ hp
  have hget : ∀ i x, (its σ)[i]? = some x → ∃ q, σ.getD q none = some x ∧ cntOn (onOf σ) q = i := by
    intro i x h
    obtain ⟨q, hq⟩ := mem_its.1 (List.mem_of_getElem? h)
    exact ⟨q, hq, up_inj H (its_get σ q x hq) h⟩
  refine lessC_uniq H hle (fun i x h hi => ?_) (fun i x h hi => ?_)
  · obtain ⟨q, hq, hc⟩ := hget i x h
    refine h1 q x ?_ hq
    rcases Nat.lt_or_ge q p with g | g
    · exact g
    · have := cntOn_le_of (onOf σ) g; omega
  · obtain ⟨q, hq, hc⟩ := hget i x h
    refine h2 q x ?_ hq
    rcases Nat.lt_or_ge q p with g | g
    · have a := cntOn_on (onOf σ) q (onOf_some hq)
      have b := cntOn_le_of (onOf σ) (show q + 1 ≤ p by omega)
      omega
    · exact g
theorem FndR.low {σ : List (Option Int)} (H : Up (its σ)) {key r : Int} (h : FndR σ (fun k => decide (k < key)) r) : LowO σ key r := by
  by_cases e : r = -1
  · refine .none e ?_
    have := h.no e
    rw [cnt_of_split H (Nat.le_refl _) (fun q x _ hq => by simpa using this q x hq) (fun q x hq h => by have := getD_lt h; omega), its_length]
  · obtain ⟨p, x, e, hp, hx, hq⟩ := h.yes e
    have hx' : key ≤ x := by simpa using hx
    refine .some p x e hp hx' ?_
    refine (cnt_of_split H (Nat.le_of_lt (getD_lt hp)) (fun q y hl hy => by simpa using hq q y hl hy) (fun q y hl hy => ?_)).symm
    rcases Nat.lt_or_ge p q with g | g
    · have := (up_slots H hp hy).2 g; omega
    · obtain rfl : p = q := by omega
      rw [hp] at hy; injection hy with hy; omega
end Go.Proofs.YtmbkmojekpkfhaaGreatDoor
