/- Plain: how many are occupied in each segment; what the document's answer and the program's tell of it. No program in sight. -/
import Derived.Test.YtonoaklajnfmiaaDoorD4
import Derived.Test.YtonoaklajnfmiaaDoorG1
set_option linter.unusedVariables false
set_option linter.unusedSimpArgs false
namespace Go.Proofs.YtonoaklajnfmiaaDoor
open Go.RowKit

/-- How many of the first i slots are occupied and lie in segment k. -/
def cq (σ : List (Option Int)) (k : Nat) : Nat → Nat
  | 0 => 0
  | i + 1 => cq σ k i + if onOf σ i = true ∧ i / 8 = k then 1 else 0
def segC (σ : List (Option Int)) (k : Nat) : Nat := (inTo σ (8 * k) 8).length
theorem cq_low (σ : List (Option Int)) (k : Nat) : ∀ i, i ≤ 8 * k → cq σ k i = 0
  | 0, _ => rfl
  | i + 1, h => by
    unfold cq
    rw [cq_low σ k i (by omega), if_neg (by omega)]
theorem cq_in (σ : List (Option Int)) (k : Nat) : ∀ j, j ≤ 8 → cq σ k (8 * k + j) = (inTo σ (8 * k) j).length
  | 0, _ => by rw [Nat.add_zero, cq_low σ k _ (Nat.le_refl _)]; rfl
  | j + 1, h => by
    show cq σ k (8 * k + j) + _ = _
    rw [cq_in σ k j (by omega)]
    rw [show inTo σ (8 * k) (j + 1) = inTo σ (8 * k) j ++ if onOf σ (8 * k + j) then [((8 * k + j : Nat) : Int)] else [] from rfl]
    rw [List.length_append]
    cases hon : onOf σ (8 * k + j)
    · rw [if_neg (fun c => by cases c.1), if_neg (fun c => by cases c)]; rfl
    · rw [if_pos ⟨rfl, by show (8 * k + j) / 8 = k; omega⟩]; rfl
theorem cq_high (σ : List (Option Int)) (k : Nat) : ∀ d, cq σ k (8 * k + 8 + d) = segC σ k
  | 0 => cq_in σ k 8 (Nat.le_refl _)
  | d + 1 => by
    show cq σ k (8 * k + 8 + d) + _ = _
    rw [cq_high σ k d, if_neg (fun c => by have h : (8 * k + 8 + d) / 8 = k := c.2; omega)]
    rfl
theorem cntF_cq (σ : List (Option Int)) (m : Nat) : ∀ i, i ≤ 8 * m → ∀ k, k < m → (cntF m (idxs (occTo σ i))).getD k 0 = (cq σ k i : Int)
  | 0, _, k, hk => by
    unfold cntF idxs
    simp [cq, occTo, List.getD_eq_getElem?_getD, List.getElem?_replicate, hk]
  | i + 1, h, k, hk => by
    have ih := cntF_cq σ m i (by omega)
    unfold cq
    cases hon : onOf σ i
    · have e : occTo σ (i + 1) = occTo σ i := occTo_none σ i 1 (fun j' h1 h2 => by obtain rfl : j' = i := (by omega); exact hon)
      rw [e, ih k hk]
      simp
    · obtain ⟨x, hx⟩ : ∃ x, σ.getD i none = some x := by
        unfold onOf at hon
        cases e : σ.getD i none with
        | none => rw [e] at hon; cases hon
        | some x => exact ⟨x, rfl⟩
      rw [occTo_some σ i x hx]
      have e : cntF m (idxs (occTo σ i ++ [(i, x)])) = bump (cntF m (idxs (occTo σ i))) i := by
        unfold cntF idxs
        rw [List.map_append, List.foldl_append]
        rfl
      rw [e]
      unfold bump
      have hi8 : ((i : Int) / 8).toNat = i / 8 := by omega
      rw [hi8, List.getD_eq_getElem?_getD, List.getElem?_set]
      by_cases hk8 : i / 8 = k
      · rw [if_pos hk8, if_pos (by rw [cntF_length]; omega), if_pos ⟨rfl, hk8⟩, hk8]
        simp only [Option.getD_some]
        rw [ih k hk]
        omega
      · rw [if_neg hk8, if_neg (fun h => hk8 h.2), ← List.getD_eq_getElem?_getD, ih k hk]
        omega
theorem cntL_get (σ : List (Option Int)) (hm : σ.length = 8 * (σ.length / 8)) (k : Nat) (hk : k < σ.length / 8) : (cntL σ).getD k 0 = (segC σ k : Int) := by
  unfold cntL
  have := cntF_cq σ (σ.length / 8) σ.length (by omega) k hk
  unfold occ
  rw [this, show σ.length = 8 * k + 8 + (σ.length - (8 * k + 8)) by omega, cq_high]
theorem cntL_length (σ : List (Option Int)) : (cntL σ).length = σ.length / 8 := cntF_length _ _
theorem segC_le (σ : List (Option Int)) (k : Nat) : segC σ k ≤ 8 := inTo_length σ _ 8

theorem heightZ_eq (n : Nat) : heightZ (n : Int) = if n = 32 then 2 else if n = 64 then 3 else if n = 128 then 4 else if n = 256 then 5 else if n = 512 then 6 else if n = 1024 then 7 else if n = 2048 then 8 else if n = 4096 then 9 else -1 := by
  unfold heightZ hgtF hgtF hgtF hgtF hgtF hgtF hgtF hgtF hgtF
  simp only [pw, Nat.reducePow, Nat.reduceAdd]
  norm_cast
theorem heightZ_neg (n : Nat) : heightZ (n : Int) < 0 ↔ mayB (n : Int) = false := by
  rw [heightZ_eq]
  unfold mayB mayN
  rw [decide_eq_true (by omega), Bool.true_and, Int.toNat_natCast]
  simp only [Bool.or_eq_false_iff, beq_eq_false_iff_ne]
  split
  · omega
  · split
    · omega
    · split
      · omega
      · split
        · omega
        · split
          · omega
          · split
            · omega
            · split
              · omega
              · split <;> omega
/-- The greatest, the least that the document's answer has seen. -/
def mostTo (σ : List (Option Int)) : Nat → Nat
  | 0 => 0
  | k + 1 => if mostTo σ k < segC σ k then segC σ k else mostTo σ k
def leastTo (σ : List (Option Int)) : Nat → Nat
  | 0 => 8
  | k + 1 => if segC σ k < leastTo σ k then segC σ k else leastTo σ k
theorem mostTo_iff (σ : List (Option Int)) : ∀ k, 7 < mostTo σ k ↔ ∃ j, j < k ∧ 7 < segC σ j
  | 0 => by simp [mostTo]
  | k + 1 => by
    have ih := mostTo_iff σ k
    unfold mostTo
    constructor
    · intro h
      split at h
      · exact ⟨k, by omega, h⟩
      · obtain ⟨j, hj, h⟩ := ih.1 h; exact ⟨j, by omega, h⟩
    · rintro ⟨j, hj, h⟩
      rcases Nat.lt_or_ge j k with g | g
      · have := ih.2 ⟨j, g, h⟩; split <;> omega
      · obtain rfl : j = k := by omega
        split <;> omega
theorem leastTo_iff (σ : List (Option Int)) : ∀ k, leastTo σ k < 1 ↔ ∃ j, j < k ∧ segC σ j < 1
  | 0 => by simp [leastTo]
  | k + 1 => by
    have ih := leastTo_iff σ k
    unfold leastTo
    constructor
    · intro h
      split at h
      · exact ⟨k, by omega, h⟩
      · obtain ⟨j, hj, h⟩ := ih.1 h; exact ⟨j, by omega, h⟩
    · rintro ⟨j, hj, h⟩
      rcases Nat.lt_or_ge j k with g | g
      · have := ih.2 ⟨j, g, h⟩; split <;> omega
      · obtain rfl : j = k := by omega
        split <;> omega
theorem maxTo_iff (xs : List Int) (a : Int) : ∀ k, a < maxTo xs (k + 1) ↔ ∃ j, j < k + 1 ∧ a < xs.getD j 0
  | 0 => by
    show a < (if maxTo xs 0 < xs.getD 0 0 then xs.getD 0 0 else maxTo xs 0) ↔ _
    rw [show maxTo xs 0 = xs.getD 0 0 from rfl]
    constructor
    · intro h; exact ⟨0, by omega, by split at h <;> exact h⟩
    · rintro ⟨j, hj, h⟩; obtain rfl : j = 0 := by omega
      split <;> exact h
  | k + 1 => by
    have ih := maxTo_iff xs a k
    show a < (if maxTo xs (k + 1) < xs.getD (k + 1) 0 then xs.getD (k + 1) 0 else maxTo xs (k + 1)) ↔ _
    constructor
    · intro h
      split at h
      · exact ⟨k + 1, by omega, h⟩
      · obtain ⟨j, hj, h⟩ := ih.1 h; exact ⟨j, by omega, h⟩
    · rintro ⟨j, hj, h⟩
      rcases Nat.lt_or_ge j (k + 1) with g | g
      · have := ih.2 ⟨j, g, h⟩; split <;> omega
      · obtain rfl : j = k + 1 := by omega
        split <;> omega
theorem minTo_iff (xs : List Int) (a : Int) : ∀ k, minTo xs (k + 1) < a ↔ ∃ j, j < k + 1 ∧ xs.getD j 0 < a
  | 0 => by
    show (if xs.getD 0 0 < minTo xs 0 then xs.getD 0 0 else minTo xs 0) < a ↔ _
    rw [show minTo xs 0 = xs.getD 0 0 from rfl]
    constructor
    · intro h; exact ⟨0, by omega, by split at h <;> exact h⟩
    · rintro ⟨j, hj, h⟩; obtain rfl : j = 0 := by omega
      split <;> exact h
  | k + 1 => by
    have ih := minTo_iff xs a k
    show (if xs.getD (k + 1) 0 < minTo xs (k + 1) then xs.getD (k + 1) 0 else minTo xs (k + 1)) < a ↔ _
    constructor
    · intro h
      split at h
      · exact ⟨k + 1, by omega, h⟩
      · obtain ⟨j, hj, h⟩ := ih.1 h; exact ⟨j, by omega, h⟩
    · rintro ⟨j, hj, h⟩
      rcases Nat.lt_or_ge j (k + 1) with g | g
      · have := ih.2 ⟨j, g, h⟩; split <;> omega
      · obtain rfl : j = k + 1 := by omega
        split <;> omega
theorem most_max (σ : List (Option Int)) (hm : σ.length = 8 * (σ.length / 8)) (h0 : 0 < σ.length / 8) : 7 < mostTo σ (σ.length / 8) ↔ 7 < maxL (cntL σ) := by
  obtain ⟨q, hq⟩ : ∃ q, σ.length / 8 = q + 1 := ⟨σ.length / 8 - 1, by omega⟩
  unfold maxL
  rw [cntL_length, hq, mostTo_iff, maxTo_iff]
  constructor
  · rintro ⟨j, hj, h⟩; exact ⟨j, hj, by rw [cntL_get σ hm j (by omega)]; omega⟩
  · rintro ⟨j, hj, h⟩; rw [cntL_get σ hm j (by omega)] at h; exact ⟨j, hj, by omega⟩
theorem least_min (σ : List (Option Int)) (hm : σ.length = 8 * (σ.length / 8)) (h0 : 0 < σ.length / 8) : leastTo σ (σ.length / 8) < 1 ↔ minL (cntL σ) < 1 := by
  obtain ⟨q, hq⟩ : ∃ q, σ.length / 8 = q + 1 := ⟨σ.length / 8 - 1, by omega⟩
  unfold minL
  rw [cntL_length, hq, leastTo_iff, minTo_iff]
  constructor
  · rintro ⟨j, hj, h⟩; exact ⟨j, hj, by rw [cntL_get σ hm j (by omega)]; omega⟩
  · rintro ⟨j, hj, h⟩; rw [cntL_get σ hm j (by omega)] at h; exact ⟨j, hj, by omega⟩
end Go.Proofs.YtonoaklajnfmiaaDoor
