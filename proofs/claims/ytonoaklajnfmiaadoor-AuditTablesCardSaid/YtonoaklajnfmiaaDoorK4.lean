/- Plain: an even spread of so many elements into segments. No program in sight. -/
import Derived.Test.YtonoaklajnfmiaaDoorK2
set_option linter.unusedVariables false
set_option linter.unusedSimpArgs false
namespace Go.Proofs.YtonoaklajnfmiaaDoor
open Go.RowKit

/-- How many come into the segments ahead of one. -/
def ahd (n segs k : Nat) : Nat := k * n / segs
def shr (n segs k : Nat) : Nat := ahd n segs (k + 1) - ahd n segs k
theorem ahd_mono (n segs k : Nat) : ahd n segs k ≤ ahd n segs (k + 1) := Nat.div_le_div_right (Nat.mul_le_mul_right n (Nat.le_succ k))
theorem ahd_zero (n segs : Nat) : ahd n segs 0 = 0 := by simp [ahd]
theorem ahd_all (n segs : Nat) (h : 0 < segs) : ahd n segs segs = n := by unfold ahd; rw [Nat.mul_div_cancel_left _ h]
theorem ahd_succ (n segs k : Nat) : ahd n segs (k + 1) = ahd n segs k + shr n segs k := by have := ahd_mono n segs k; unfold shr; omega
theorem ahd_le (n segs k : Nat) (h : 0 < segs) (hk : k ≤ segs) : ahd n segs k ≤ n := by
  unfold ahd
  exact Nat.div_le_of_le_mul (Nat.mul_le_mul_right n hk)
theorem shr_le (n segs k : Nat) (h : 0 < segs) (hn : n ≤ 8 * segs) : shr n segs k ≤ 8 := by
  unfold shr ahd
  have h1 : (k + 1) * n / segs ≤ (k * n + 8 * segs) / segs := Nat.div_le_div_right (by rw [Nat.succ_mul]; omega)
  rw [Nat.add_mul_div_right _ _ h] at h1
  omega
/-- The slots of the first so many of a segment that has m elements. -/
def segTo (base m : Nat) : Nat → List Int
  | 0 => []
  | j + 1 => segTo base m j ++ [((base + j * 8 / m : Nat) : Int)]
theorem segTo_length (base m : Nat) : ∀ j, (segTo base m j).length = j
  | 0 => rfl
  | j + 1 => by unfold segTo; rw [List.length_append, segTo_length base m j]; rfl
/-- The slots of the elements of the first so many segments. -/
def plcTo (n first segs : Nat) : Nat → List Int
  | 0 => []
  | k + 1 => plcTo n first segs k ++ segTo (8 * (first + k)) (shr n segs k) (shr n segs k)
theorem plcTo_length (n first segs : Nat) : ∀ k, (plcTo n first segs k).length = ahd n segs k
  | 0 => by rw [ahd_zero]; rfl
  | k + 1 => by unfold plcTo; rw [List.length_append, plcTo_length n first segs k, segTo_length, ahd_succ]
/-- The slots of n elements, evenly spread. -/
def plcL (n first segs : Nat) : List Int := plcTo n first segs segs
theorem plcL_length (n first segs : Nat) (h : 0 < segs) : (plcL n first segs).length = n := by unfold plcL; rw [plcTo_length, ahd_all n segs h]
theorem plcTo_prefix (n first segs k : Nat) : ∀ d, plcTo n first segs k <+: plcTo n first segs (k + d)
  | 0 => List.prefix_refl _
  | d + 1 => (plcTo_prefix n first segs k d).trans (List.prefix_append _ _)
theorem segTo_prefix (base m j : Nat) : ∀ d, segTo base m j <+: segTo base m (j + d)
  | 0 => List.prefix_refl _
  | d + 1 => (segTo_prefix base m j d).trans (List.prefix_append _ _)
theorem plc_prefix (n first segs k j : Nat) (hk : k < segs) (hj : j ≤ shr n segs k) : plcTo n first segs k ++ segTo (8 * (first + k)) (shr n segs k) j <+: plcL n first segs := by
  have h1 := segTo_prefix (8 * (first + k)) (shr n segs k) j (shr n segs k - j)
  rw [show j + (shr n segs k - j) = shr n segs k by omega] at h1
  have h2 : plcTo n first segs k ++ segTo (8 * (first + k)) (shr n segs k) j <+: plcTo n first segs (k + 1) := by
    show _ <+: plcTo n first segs k ++ _
    exact (List.prefix_append_right_inj _).2 h1
  have h3 := plcTo_prefix n first segs (k + 1) (segs - (k + 1))
  rw [show k + 1 + (segs - (k + 1)) = segs by omega] at h3
  exact h2.trans h3
end Go.Proofs.YtonoaklajnfmiaaDoor
