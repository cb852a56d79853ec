/- In one: SA, SB, SC. -/
import Derived.Test.YtechphliifginaaGreatDoorGQ
import Derived.Test.YtechphliifginaaGreatDoorGS
import Derived.Lib.BitFns
/- Keys that rise: how many are less than one; what comes and goes. (plain) -/
set_option linter.unusedVariables false
set_option linter.unusedSimpArgs false
namespace Go.Proofs.YtechphliifginaaGreatDoor
open Go.RowKit

/-- Keys rise. -/
def Up (ks : List Int) : Prop := ks.Pairwise (· < ·)
/-- How many keys are less than one. -/
def lessC (ks : List Int) (key : Int) : Nat := (ks.takeWhile fun k => decide (k < key)).length
theorem lessC_le (ks : List Int) (key : Int) : lessC ks key ≤ ks.length := (List.takeWhile_prefix _).length_le
theorem lessC_nil (key : Int) : lessC [] key = 0 := rfl
theorem lessC_cons (k : Int) (ks : List Int) (key : Int) : lessC (k :: ks) key = if k < key then lessC ks key + 1 else 0 := by
  unfold lessC
  rw [List.takeWhile_cons]
  by_cases h : k < key
  · rw [if_pos h, if_pos (by simpa using h)]; rfl
  · rw [if_neg h, if_neg (by simpa using h)]; rfl
theorem lessC_lt {ks : List Int} {key : Int} : ∀ {i : Nat} {x : Int}, ks[i]? = some x → i < lessC ks key → x < key := by
  induction ks with
  | nil => intro i x h; simp at h
  | cons k ks ih =>
    intro i x h hi
    rw [lessC_cons] at hi
    by_cases hk : k < key
    · rw [if_pos hk] at hi
      cases i with
      | zero => simp at h; omega
      | succ i => exact ih (by simpa using h) (by omega)
    · rw [if_neg hk] at hi; omega
theorem up_get {ks : List Int} (H : Up ks) {i j : Nat} {x y : Int} (hi : ks[i]? = some x) (hj : ks[j]? = some y) : x < y ↔ i < j := by
  obtain ⟨h1, e1⟩ := List.getElem?_eq_some_iff.1 hi
  obtain ⟨h2, e2⟩ := List.getElem?_eq_some_iff.1 hj
  have key := List.pairwise_iff_getElem.1 H
  constructor
  · intro h
    rcases Nat.lt_trichotomy i j with g | g | g
    · exact g
    · subst g; rw [e1] at e2; omega
    · have := key j i h2 h1 g; omega
  · intro h
    have := key i j h1 h2 h; omega
theorem up_inj {ks : List Int} (H : Up ks) {i j : Nat} {x : Int} (hi : ks[i]? = some x) (hj : ks[j]? = some x) : i = j := by
  have a := up_get H hi hj
  have b := up_get H hj hi
  omega
theorem lessC_at {ks : List Int} {key : Int} : ∀ {x : Int}, ks[lessC ks key]? = some x → key ≤ x := by
  induction ks with
  | nil => intro x h; simp at h
  | cons k ks ih =>
    intro x h
    rw [lessC_cons] at h
    by_cases hk : k < key
    · rw [if_pos hk] at h
      exact ih (by simpa using h)
    · rw [if_neg hk] at h
      simp at h; omega
theorem lessC_ge {ks : List Int} (H : Up ks) {key : Int} {i : Nat} {x : Int} (h : ks[i]? = some x) (hi : lessC ks key ≤ i) : key ≤ x := by
  obtain ⟨hl, _⟩ := List.getElem?_eq_some_iff.1 h
  obtain ⟨y, hy⟩ : ∃ y, ks[lessC ks key]? = some y := ⟨_, List.getElem?_eq_getElem (by omega)⟩
  have h1 := lessC_at hy
  rcases Nat.lt_or_ge (lessC ks key) i with g | g
  · have := (up_get H hy h).2 g; omega
  · have : lessC ks key = i := by omega
    rw [this, h] at hy
    injection hy with hy; omega
theorem lessC_iff {ks : List Int} (H : Up ks) {key : Int} {i : Nat} {x : Int} (h : ks[i]? = some x) : x < key ↔ i < lessC ks key :=
  ⟨fun hx => by
    rcases Nat.lt_or_ge i (lessC ks key) with g | g
    · exact g
    · have := lessC_ge H h g; omega, lessC_lt h⟩
/-- The number that parts keys is the one. -/
theorem lessC_uniq {ks : List Int} (H : Up ks) {key : Int} {n : Nat} (hn : n ≤ ks.length) (h1 : ∀ i x, ks[i]? = some x → i < n → x < key) (h2 : ∀ i x, ks[i]? = some x → n ≤ i → key ≤ x) : lessC ks key = n := by
  have h0 := lessC_le ks key
  rcases Nat.lt_trichotomy (lessC ks key) n with g | g | g
  · obtain ⟨y, hy⟩ : ∃ y, ks[lessC ks key]? = some y := ⟨_, List.getElem?_eq_getElem (by omega)⟩
    have a := h1 _ _ hy g
    have b := lessC_at hy
    omega
  · exact g
  · obtain ⟨y, hy⟩ : ∃ y, ks[n]? = some y := ⟨_, List.getElem?_eq_getElem (by omega)⟩
    have a := h2 _ _ hy (Nat.le_refl _)
    have b := lessC_lt hy g
    omega
theorem mem_lessC {ks : List Int} (H : Up ks) {key : Int} : key ∈ ks ↔ ks[lessC ks key]? = some key := by
  constructor
  · intro h
    obtain ⟨i, hi, e⟩ := List.getElem_of_mem h
    have h1 : ks[i]? = some key := List.getElem?_eq_some_iff.2 ⟨hi, e⟩
    have h2 := lessC_iff H (key := key) h1
    have h3 : ¬ i < lessC ks key := fun g => by have := h2.2 g; omega
    obtain ⟨y, hy⟩ : ∃ y, ks[lessC ks key]? = some y := ⟨_, List.getElem?_eq_getElem (by omega)⟩
    have h4 := lessC_at hy
    have h5 := up_get H hy h1
    have h6 : lessC ks key = i := by
      rcases Nat.lt_or_ge (lessC ks key) i with g | g
      · have := h5.2 g; omega
      · omega
    rw [h6]; exact h1
  · intro h
    exact List.mem_of_getElem? h
/-- A key comes. -/
def putK (ks : List Int) (key : Int) : List Int := ks.take (lessC ks key) ++ key :: ks.drop (lessC ks key)
/-- A key goes. -/
def delK (ks : List Int) (key : Int) : List Int := ks.take (lessC ks key) ++ ks.drop (lessC ks key + 1)
theorem mem_putK {ks : List Int} {key y : Int} : y ∈ putK ks key ↔ y = key ∨ y ∈ ks := by
  unfold putK
  rw [List.mem_append, List.mem_cons]
  constructor
  · rintro (h | h | h)
    · exact .inr (List.mem_of_mem_take h)
    · exact .inl h
    · exact .inr (List.mem_of_mem_drop h)
  · rintro (h | h)
    · exact .inr (.inl h)
    · rw [← List.take_append_drop (lessC ks key) ks, List.mem_append] at h
      rcases h with h | h
      · exact .inl h
      · exact .inr (.inr h)
theorem putK_length (ks : List Int) (key : Int) : (putK ks key).length = ks.length + 1 := by
  unfold putK
  rw [List.length_append, List.length_cons, List.length_take, List.length_drop]
  have := lessC_le ks key
  omega
theorem mem_take_get {ks : List Int} {n : Nat} {x : Int} (h : x ∈ ks.take n) : ∃ i, i < n ∧ ks[i]? = some x := by
  obtain ⟨i, hi, e⟩ := List.getElem_of_mem h
  rw [List.length_take] at hi
  rw [List.getElem_take] at e
  exact ⟨i, by omega, List.getElem?_eq_some_iff.2 ⟨by omega, e⟩⟩
theorem mem_drop_get {ks : List Int} {n : Nat} {x : Int} (h : x ∈ ks.drop n) : ∃ i, n ≤ i ∧ ks[i]? = some x := by
  obtain ⟨i, hi, e⟩ := List.getElem_of_mem h
  rw [List.length_drop] at hi
  rw [List.getElem_drop] at e
  exact ⟨n + i, by omega, List.getElem?_eq_some_iff.2 ⟨by omega, e⟩⟩
theorem up_putK {ks : List Int} (H : Up ks) {key : Int} (hk : key ∉ ks) : Up (putK ks key) := by
  unfold Up putK
  rw [List.pairwise_append, List.pairwise_cons]
  refine ⟨H.sublist (List.take_sublist _ _), ⟨fun a ha => ?_, H.sublist (List.drop_sublist _ _)⟩, fun a ha b hb => ?_⟩
  · obtain ⟨i, hi, e⟩ := mem_drop_get ha
    have h1 := lessC_ge H e hi
    have h2 : a ≠ key := fun h => hk (h ▸ List.mem_of_getElem? e)
    omega
  · obtain ⟨i, hi, e⟩ := mem_take_get ha
    have h1 := lessC_lt e hi
    rcases List.mem_cons.1 hb with h | h
    · omega
    · obtain ⟨j, hj, e2⟩ := mem_drop_get h
      have := lessC_ge H e2 hj; omega
theorem up_delK {ks : List Int} (H : Up ks) (key : Int) : Up (delK ks key) := by
  unfold Up delK
  rw [List.pairwise_append]
  refine ⟨H.sublist (List.take_sublist _ _), H.sublist (List.drop_sublist _ _), fun a ha b hb => ?_⟩
  obtain ⟨i, hi, e⟩ := mem_take_get ha
  obtain ⟨j, hj, e2⟩ := mem_drop_get hb
  exact (up_get H e e2).2 (by omega)
theorem delK_length {ks : List Int} (H : Up ks) {key : Int} (hk : key ∈ ks) : (delK ks key).length + 1 = ks.length := by
  obtain ⟨h, _⟩ := List.getElem?_eq_some_iff.1 ((mem_lessC H).1 hk)
  unfold delK
  rw [List.length_append, List.length_take, List.length_drop]
  omega
theorem mem_delK {ks : List Int} (H : Up ks) {key y : Int} (hk : key ∈ ks) : y ∈ delK ks key ↔ y ∈ ks ∧ y ≠ key := by
  have hK := (mem_lessC H).1 hk
  unfold delK
  rw [List.mem_append]
  constructor
  · rintro (h | h)
    · obtain ⟨i, hi, e⟩ := mem_take_get h
      have := lessC_lt e hi
      exact ⟨List.mem_of_mem_take h, by omega⟩
    · obtain ⟨i, hi, e⟩ := mem_drop_get h
      have := (up_get H hK e).2 (by omega)
      exact ⟨List.mem_of_mem_drop h, by omega⟩
  · rintro ⟨h, hne⟩
    obtain ⟨i, hi, e⟩ := List.getElem_of_mem h
    have h1 : ks[i]? = some y := List.getElem?_eq_some_iff.2 ⟨hi, e⟩
    rcases Nat.lt_trichotomy i (lessC ks key) with g | g | g
    · left
      exact List.mem_of_getElem? (i := i) (by rw [List.getElem?_take, if_pos g]; exact h1)
    · rw [← g, h1] at hK
      injection hK with hK; exact absurd hK hne
    · right
      exact List.mem_of_getElem? (i := i - (lessC ks key + 1)) (by rw [List.getElem?_drop, show lessC ks key + 1 + (i - (lessC ks key + 1)) = i by omega]; exact h1)
/-- Keys in slots: one slot is ahead of another one just if its key is less. -/
theorem up_slots {σ : List (Option Int)} (H : Up (its σ)) {p q : Nat} {x y : Int} (hp : σ.getD p none = some x) (hq : σ.getD q none = some y) : x < y ↔ p < q := by
  rw [up_get H (its_get σ p x hp) (its_get σ q y hq)]
  constructor
  · intro h
    rcases Nat.lt_or_ge p q with g | g
    · exact g
    · have := cntOn_le_of (onOf σ) g; omega
  · intro h
    have h1 := cntOn_on (onOf σ) p (onOf_some hp)
    have h2 := cntOn_le_of (onOf σ) (show p + 1 ≤ q by omega)
    omega
/-- What 'Lower' finds. -/
inductive LowO (σ : List (Option Int)) (key r : Int) : Prop
  | none (hr : r = -1) (hl : lessC (its σ) key = (its σ).length)
  | some (q : Nat) (x : Int) (hr : r = q) (hq : σ.getD q none = some x) (hx : key ≤ x) (hc : cntOn (onOf σ) q = lessC (its σ) key)
/-- What 'Before' finds. -/
inductive BefO (σ : List (Option Int)) (key r : Int) : Prop
  | none (hr : r = -1) (hl : lessC (its σ) key = 0)
  | some (q : Nat) (x : Int) (hr : r = q) (hq : σ.getD q none = some x) (hx : x < key) (hc : cntOn (onOf σ) q + 1 = lessC (its σ) key)
/-- What 'Exact' finds. -/
inductive ExO (σ : List (Option Int)) (key r : Int) : Prop
  | none (hr : r = -1) (hl : key ∉ its σ)
  | some (q : Nat) (hr : r = q) (hq : σ.getD q none = some key) (hc : cntOn (onOf σ) q = lessC (its σ) key)
/-- Where each key holds a test, or does not. -/
structure FndR (σ : List (Option Int)) (P : Int → Bool) (r : Int) : Prop where
  no : r = -1 → ∀ q x, σ.getD q none = some x → P x = true
  yes : r ≠ -1 → ∃ (p : Nat) (x : Int), r = p ∧ σ.getD p none = some x ∧ P x = false ∧ ∀ q y, q < p → σ.getD q none = some y → P y = true
theorem cnt_of_split {σ : List (Option Int)} (H : Up (its σ)) {key : Int} {p : Nat} (hp : p ≤ σ.length) (h1 : ∀ q x, q < p → σ.getD q none = some x → x < key) (h2 : ∀ q x, p ≤ q → σ.getD q none = some x → key ≤ x) : lessC (its σ) key = cntOn (onOf σ) p := by
  have hs := itsTo_take σ p hp
  have hle : cntOn (onOf σ) p ≤ (its σ).length := by rw [its_length]; exact cntOn_le_of _ hp
  have hget : ∀ i x, (its σ)[i]? = some x → ∃ q, σ.getD q none = some x ∧ cntOn (onOf σ) q = i := by
    intro i x h
    obtain ⟨q, hq⟩ := mem_its.1 (List.mem_of_getElem? h)
    exact ⟨q, hq, up_inj H (its_get σ q x hq) h⟩
  refine lessC_uniq H hle (fun i x h hi => ?_) (fun i x h hi => ?_)
  · obtain ⟨q, hq, hc⟩ := hget i x h
    refine h1 q x ?_ hq
    rcases Nat.lt_or_ge q p with g | g
    · exact g
    · have := cntOn_le_of (onOf σ) g; omega
  · obtain ⟨q, hq, hc⟩ := hget i x h
    refine h2 q x ?_ hq
    rcases Nat.lt_or_ge q p with g | g
    · have a := cntOn_on (onOf σ) q (onOf_some hq)
      have b := cntOn_le_of (onOf σ) (show q + 1 ≤ p by omega)
      omega
    · exact g
theorem FndR.low {σ : List (Option Int)} (H : Up (its σ)) {key r : Int} (h : FndR σ (fun k => decide (k < key)) r) : LowO σ key r := by
  by_cases e : r = -1
  · refine .none e ?_
    have := h.no e
    rw [cnt_of_split H (Nat.le_refl _) (fun q x _ hq => by simpa using this q x hq) (fun q x hq h => by have := getD_lt h; omega), its_length]
  · obtain ⟨p, x, e, hp, hx, hq⟩ := h.yes e
    have hx' : key ≤ x := by simpa using hx
    refine .some p x e hp hx' ?_
    refine (cnt_of_split H (Nat.le_of_lt (getD_lt hp)) (fun q y hl hy => by simpa using hq q y hl hy) (fun q y hl hy => ?_)).symm
    rcases Nat.lt_or_ge p q with g | g
    · have := (up_slots H hp hy).2 g; omega
    · obtain rfl : p = q := by omega
      rw [hp] at hy; injection hy with hy; omega
end Go.Proofs.YtechphliifginaaGreatDoor

/- The last set bit up to one: words. (plain) -/
set_option linter.unusedVariables false
set_option linter.unusedSimpArgs false
namespace Go.Proofs.YtechphliifginaaGreatDoor
open Go.RowKit

/-- v << s >> s -/
theorem low_bits (v s j : Nat) (hs : s < 64) (hj : j < 64) : (v * 2 ^ s % 18446744073709551616 / 2 ^ s).testBit j = (decide (j + s < 64) && v.testBit j) := by
  rw [Nat.testBit_div_two_pow, show 18446744073709551616 = 2 ^ 64 from rfl, Nat.testBit_mod_two_pow, Nat.mul_comm, Nat.testBit_two_pow_mul]
  by_cases h : j + s < 64
  · simp [h]
  · simp [h]
theorem low_eq (v s : Nat) : IntKind.u64.wrap ((v : Int) * 2 ^ s) / 2 ^ s = ((v * 2 ^ s % 18446744073709551616 / 2 ^ s : Nat) : Int) := by
  rw [shl_eq, cast_pow]
theorem bitLenAux_spec : ∀ (f x : Nat), x < 2 ^ f → x < 2 ^ Lib.bitLenAux f x ∧ (x ≠ 0 → 1 ≤ Lib.bitLenAux f x ∧ 2 ^ (Lib.bitLenAux f x - 1) ≤ x) ∧ Lib.bitLenAux f x ≤ f
  | 0, x, h => by
    have : x = 0 := by simpa using h
    subst this
    exact ⟨by simp [Lib.bitLenAux], fun h => absurd rfl h, by simp [Lib.bitLenAux]⟩
  | f + 1, x, h => by
    rw [Lib.bitLenAux]
    by_cases h0 : x = 0
    · rw [if_pos h0]
      exact ⟨by rw [h0]; simp, fun h => absurd h0 h, by omega⟩
    · rw [if_neg h0]
      have ih := bitLenAux_spec f (x / 2) (by rw [Nat.pow_succ] at h; omega)
      refine ⟨?_, fun _ => ⟨by omega, ?_⟩, by omega⟩
      · rw [Nat.add_comm, Nat.pow_succ]; omega
      · rw [show 1 + Lib.bitLenAux f (x / 2) - 1 = Lib.bitLenAux f (x / 2) by omega]
        by_cases h1 : x / 2 = 0
        · have hz : Lib.bitLenAux f 0 = 0 := by cases f <;> simp [Lib.bitLenAux]
          rw [h1, hz]
          simp
          omega
        · obtain ⟨g1, g2⟩ := ih.2.1 h1
          obtain ⟨k, hk⟩ : ∃ k, Lib.bitLenAux f (x / 2) = k + 1 := ⟨Lib.bitLenAux f (x / 2) - 1, by omega⟩
          rw [hk] at g2 ⊢
          rw [Nat.pow_succ]
          simp at g2
          omega
theorem bitLen_spec (x : Nat) (h0 : x ≠ 0) (hx : x < 18446744073709551616) : 1 ≤ Lib.bitLen x ∧ Lib.bitLen x ≤ 64 ∧ x.testBit (Lib.bitLen x - 1) = true ∧ ∀ j, Lib.bitLen x ≤ j → x.testBit j = false := by
  obtain ⟨a, b, c⟩ := bitLenAux_spec 64 x hx
  obtain ⟨b1, b2⟩ := b h0
  have a' : x < 2 ^ Lib.bitLen x := a
  have b1' : 1 ≤ Lib.bitLen x := b1
  have b2' : 2 ^ (Lib.bitLen x - 1) ≤ x := b2
  have c' : Lib.bitLen x ≤ 64 := c
  refine ⟨b1', c', ?_, fun j hj => Nat.testBit_lt_two_pow (Nat.lt_of_lt_of_le a' (Nat.pow_le_pow_right (by omega) hj))⟩
  obtain ⟨k, hk⟩ : ∃ k, Lib.bitLen x = k + 1 := ⟨Lib.bitLen x - 1, by omega⟩
  rw [hk] at a' b2' ⊢
  simp only [Nat.add_sub_cancel] at b2' ⊢
  have h1 : x / 2 ^ k = 1 := by
    have hp : 0 < 2 ^ k := Nat.pow_pos (by omega)
    rw [Nat.pow_succ] at a'
    apply Nat.le_antisymm
    · exact Nat.le_of_lt_succ ((Nat.div_lt_iff_lt_mul hp).2 (by omega))
    · exact (Nat.le_div_iff_mul_le hp).2 (by omega)
  rw [Nat.testBit_eq_decide_div_mod_eq, h1]
  rfl
/-- In the loop of Prev: the word that is held has the bits of word k up to i; behind word k there is none up to i. -/
def PrevRel (on : Nat → Bool) (len : Nat) (i : Nat) (x k : Value) : Prop :=
  ∃ (v kk : Nat), x = .int .u64 v ∧ k = .int .i64 kk ∧ kk < len ∧ kk ≤ i / 64 ∧ v < 18446744073709551616 ∧ (∀ j, j < 64 → v.testBit j = (decide (64 * kk + j ≤ i) && on (64 * kk + j))) ∧ ∀ j, 64 * (kk + 1) ≤ j → j ≤ i → on j = false
theorem prevRel_start {on : Nat → Bool} {ws : List Nat} {n : Nat} (h3 : WOK ws n on) (m : Nat) (hmn : m < n) (hl : m / 64 < ws.length) :
    PrevRel on ws.length m (.int .u64 ((ws.getD (m / 64) 0 * 2 ^ (63 - m % 64) % 18446744073709551616 / 2 ^ (63 - m % 64) : Nat) : Int)) (.int .i64 ((m / 64 : Nat) : Int)) := by
  refine ⟨_, m / 64, rfl, rfl, hl, Nat.le_refl _, Nat.lt_of_le_of_lt (Nat.div_le_self _ _) (Nat.mod_lt _ (by omega)), fun j hj => ?_, fun j h1 h2 => by omega⟩
  rw [low_bits _ _ _ (by omega) hj, h3.bit, bitAt, show (64 * (m / 64) + j) / 64 = m / 64 by omega, show (64 * (m / 64) + j) % 64 = j by omega]
  congr 1
  rw [decide_eq_decide]
  omega
theorem prv_none {on : Nat → Bool} {n : Nat} {i : Int} (h : ∀ j : Nat, (j : Int) ≤ i → j < n → on j = false) : prv on n i = -1 :=
  prvF_none on _ (fun j hj => h j (by omega) (by omega))
theorem prv_some {on : Nat → Bool} {n : Nat} {i : Int} (r : Nat) (h1 : (r : Int) ≤ i) (h2 : r < n) (hr : on r = true) (h : ∀ j : Nat, r < j → (j : Int) ≤ i → j < n → on j = false) : prv on n i = r :=
  prvF_some on r hr _ (by omega) (fun j a b => h j a (by omega) (by omega))
theorem prv_cases (on : Nat → Bool) (n : Nat) (i : Int) : (prv on n i = -1 ∧ ∀ j : Nat, (j : Int) ≤ i → j < n → on j = false) ∨
    ∃ r : Nat, prv on n i = r ∧ (r : Int) ≤ i ∧ r < n ∧ on r = true ∧ ∀ j : Nat, r < j → (j : Int) ≤ i → j < n → on j = false := by
  have key : ∀ m : Nat, (∀ j, j < m → on j = false) ∨ ∃ r, r < m ∧ on r = true ∧ ∀ j, r < j → j < m → on j = false := by
    intro m
    induction m with
    | zero => exact .inl (fun j hj => by omega)
    | succ m ih =>
      cases e : on m with
      | true => exact .inr ⟨m, by omega, e, fun j a b => by omega⟩
      | false =>
        rcases ih with ih | ⟨r, a, b, c⟩
        · exact .inl (fun j hj => by
            rcases Nat.lt_or_ge j m with g | g
            · exact ih j g
            · rw [show j = m by omega]; exact e)
        · exact .inr ⟨r, by omega, b, fun j h1 h2 => by
            rcases Nat.lt_or_ge j m with g | g
            · exact c j h1 g
            · rw [show j = m by omega]; exact e⟩
  rcases key (min (i + 1) n).toNat with h | ⟨r, a, b, c⟩
  · have h' : ∀ j : Nat, (j : Int) ≤ i → j < n → on j = false := fun j h1 h2 => h j (by omega)
    exact .inl ⟨prv_none h', h'⟩
  · have h' : ∀ j : Nat, r < j → (j : Int) ≤ i → j < n → on j = false := fun j h1 h2 h3 => c j h1 (by omega)
    exact .inr ⟨r, prv_some r (by omega) (by omega) b h', by omega, by omega, b, h'⟩
end Go.Proofs.YtechphliifginaaGreatDoor

/- Keys that rise, in slots: Before, Exact; what an act of a set does to keys. (plain) -/
set_option linter.unusedVariables false
set_option linter.unusedSimpArgs false
namespace Go.Proofs.YtechphliifginaaGreatDoor
open Go.RowKit

theorem gap_cnt {on : Nat → Bool} {a b : Nat} (hab : a ≤ b) (h : ∀ j, a ≤ j → j < b → on j = false) : cntOn on b = cntOn on a := by
  obtain ⟨d, rfl⟩ : ∃ d, b = a + d := ⟨b - a, by omega⟩
  exact cntOn_gap on a d h
/-- From where 'Before' goes on. -/
def befS (σ : List (Option Int)) (r : Int) : Int := if r < 0 then (σ.length : Int) else r
theorem befO_at {σ : List (Option Int)} {key : Int} {p : Nat} (hp : p ≤ σ.length) (hc : cntOn (onOf σ) p = lessC (its σ) key) : BefO σ key (prv (onOf σ) σ.length ((p : Int) - 1)) := by
  have h0 : cntOn (onOf σ) 0 = 0 := rfl
  rcases prv_cases (onOf σ) σ.length ((p : Int) - 1) with ⟨e, h⟩ | ⟨q, e, h1, h2, h3, h4⟩
  · refine .none e ?_
    rw [← hc, gap_cnt (Nat.zero_le p) (fun j _ hj => h j (by omega) (by omega))]
    exact h0
  · obtain ⟨x, hx⟩ := onOf_true h3
    have hc2 : cntOn (onOf σ) p = cntOn (onOf σ) q + 1 := by
      rw [← cntOn_on _ _ h3]
      exact gap_cnt (by omega) (fun j a b => h4 j (by omega) (by omega) (by omega))
    exact .some q x e hx (lessC_lt (its_get σ q x hx) (by omega)) (by omega)
theorem LowO.bef {σ : List (Option Int)} {key r : Int} (h : LowO σ key r) : BefO σ key (prv (onOf σ) σ.length (befS σ r - 1)) := by
  cases h with
  | none hr hl =>
    subst hr
    exact befO_at (Nat.le_refl _) (by rw [← its_length, hl])
  | some q x hr hq hx hc =>
    subst hr
    have e : befS σ (q : Int) = q := by unfold befS; rw [if_neg (by omega)]
    rw [e]
    exact befO_at (Nat.le_of_lt (getD_lt hq)) hc
theorem low_mem {σ : List (Option Int)} (H : Up (its σ)) {key : Int} {q : Nat} {x : Int} (hq : σ.getD q none = some x) (hc : cntOn (onOf σ) q = lessC (its σ) key) : key ∈ its σ ↔ x = key := by
  rw [mem_lessC H, ← hc, its_get σ q x hq]
  exact ⟨fun h => by injection h, fun h => by rw [h]⟩
theorem not_mem_of_less {ks : List Int} (H : Up ks) {key : Int} (h : lessC ks key = ks.length) : key ∉ ks := by
  rw [mem_lessC H, h, List.getElem?_eq_none (Nat.le_refl _)]
  exact fun h => by cases h
/-- The greatest key that is not above one. -/
def floorK (ks : List Int) (key : Int) : Option Int := if key ∈ ks then some key else if lessC ks key = 0 then none else ks[lessC ks key - 1]?
/-- The least key that is not below one. -/
def ceilK (ks : List Int) (key : Int) : Option Int := ks[lessC ks key]?
theorem putK_at {ks : List Int} {key : Int} {n : Nat} (h : n = lessC ks key) : ks.take n ++ key :: ks.drop n = putK ks key := by subst h; rfl
theorem delK_at {ks : List Int} {key : Int} {n : Nat} (h : n = lessC ks key) : ks.take n ++ ks.drop (n + 1) = delK ks key := by subst h; rfl
end Go.Proofs.YtechphliifginaaGreatDoor
