/- What lies between two, in two parts; how many these are. -/
import Derived.Test.YtechphliifginaaGreatDoorCX
import Derived.Test.YtechphliifginaaGreatDoorHX
set_option linter.unusedVariables false
set_option linter.unusedSimpArgs false
namespace Go.Proofs.YtechphliifginaaGreatDoor
open Go.RowKit

theorem lessC_mono {a b : Int} (h : a ≤ b) : ∀ (ks : List Int), lessC ks a ≤ lessC ks b
  | [] => Nat.le_refl _
  | k :: ks => by
    have ih := lessC_mono h ks
    rw [lessC_cons, lessC_cons]
    by_cases h1 : k < a
    · rw [if_pos h1, if_pos (show k < b by omega)]; omega
    · rw [if_neg h1]; exact Nat.zero_le _
theorem btwL_length (ks : List Int) (lo hi : Int) : (btwL ks lo hi).length = lessC ks hi - lessC ks lo := by
  unfold btwL
  have := lessC_le ks hi
  rw [List.length_drop, List.length_take]
  omega
theorem btwL_lenK (ks : List Int) (lo hi : Int) : ((btwL ks lo hi).length : Int) = btwK ks lo hi := by
  rw [btwL_length]
  unfold btwK
  split <;> omega
theorem btwL_app (ks : List Int) {a b c : Int} (h1 : a ≤ b) (h2 : b ≤ c) : btwL ks a c = btwL ks a b ++ btwL ks b c := by
  have m1 := lessC_mono h1 ks
  have m2 := lessC_mono h2 ks
  have m3 := lessC_le ks c
  unfold btwL
  have e : ks.take (lessC ks c) = ks.take (lessC ks b) ++ (ks.take (lessC ks c)).drop (lessC ks b) := by
    have := (List.take_append_drop (lessC ks b) (ks.take (lessC ks c))).symm
    rwa [List.take_take, Nat.min_eq_left m2] at this
  conv => lhs; rw [e]
  rw [List.drop_append, List.length_take, Nat.min_eq_left (by omega), Nat.sub_eq_zero_of_le m1, List.drop_zero]
theorem btwL_none (ks : List Int) {a b : Int} (h : b ≤ a) : btwL ks a b = [] := by
  apply List.eq_nil_of_length_eq_zero
  rw [btwL_length]
  have := lessC_mono h ks
  omega
theorem btwK_bd (ks : List Int) (lo hi : Int) : 0 ≤ btwK ks lo hi ∧ btwK ks lo hi ≤ (ks.length : Int) := by
  rw [← btwL_lenK, btwL_length]
  have := lessC_le ks hi
  omega
theorem btwK_add (ks : List Int) {a b c : Int} (h1 : a ≤ b) (h2 : b ≤ c) : btwK ks a b + btwK ks b c = btwK ks a c := by
  rw [← btwL_lenK, ← btwL_lenK, ← btwL_lenK, btwL_app ks h1 h2, List.length_append]
  omega
theorem btwK_none (ks : List Int) {a b : Int} (h : b ≤ a) : btwK ks a b = 0 := by
  rw [← btwL_lenK, btwL_none ks h]
  rfl
theorem btwK_rank (ks : List Int) {a b : Int} (h : a ≤ b) : ((lessC ks a : Nat) : Int) + btwK ks a b = ((lessC ks b : Nat) : Int) := by
  rw [← btwL_lenK, btwL_length]
  have := lessC_mono h ks
  omega
end Go.Proofs.YtechphliifginaaGreatDoor
