/- ScanTakes, as it is called: the walk. -/
import Derived.Test.YtechphliifginaaGreatDoorTF
import Derived.Test.YtechphliifginaaGreatDoorCN
import Derived.Deep.Cut
set_option linter.unusedVariables false
set_option linter.unusedSimpArgs false
namespace Go.Proofs.YtechphliifginaaGreatDoor
open Go.RowKit

def pw8 (k : Nat) : Int := ((32 * 2 ^ k : Nat) : Int)
theorem pw8_cases {k : Nat} (h : k ≤ 8) : k = 0 ∨ k = 1 ∨ k = 2 ∨ k = 3 ∨ k = 4 ∨ k = 5 ∨ k = 6 ∨ k = 7 ∨ k = 8 := by omega
theorem pw8_le {k : Nat} (h : k ≤ 7) : pw8 k ≤ 4096 ∧ 32 ≤ pw8 k ∧ pw8 (k + 1) = 2 * pw8 k := by
  rcases pw8_cases (show k ≤ 8 by omega) with rfl | rfl | rfl | rfl | rfl | rfl | rfl | rfl | rfl <;> first | (exact ⟨by decide, by decide, by decide⟩) | omega
theorem pw8_may {k : Nat} (h : k ≤ 7) : mayB (pw8 k) = true := by
  rcases pw8_cases (show k ≤ 8 by omega) with rfl | rfl | rfl | rfl | rfl | rfl | rfl | rfl | rfl <;> first | decide | omega
theorem pw8_not {n : Int} (h : ∀ i, i < 8 → n ≠ pw8 i) : mayB n = false := by
  cases hm : mayB n with
  | false => rfl
  | true =>
    obtain ⟨k, h2, h9, rfl⟩ := mayB_is hm
    refine absurd ?_ (h (k - 2) (by omega))
    unfold pw8
    have : 2 ^ k = 4 * 2 ^ (k - 2) := by
      rw [show (4 : Nat) = 2 ^ 2 from rfl, ← Nat.pow_add]
      congr 1; omega
    omega
theorem ref8May_any (n : Int) (w : World) : Calls Tryz.prog 32 #[.int .i64 n] w fun e w' => e = .returned (.bool (mayB n)) ∧ w = w' := by
  go_enter Tryz.func32, Tryz.ntmps32
  go_wp2_with fail
  go_loopw [3] (fun v wr => ∃ k : Nat, k ≤ 8 ∧ v = .int .i64 (pw8 k) ∧ (∀ i, i < k → n ≠ pw8 i) ∧ w = wr) (fun v _ => (8192 - intOf v).toNat)
  case atStart => exact ⟨0, by omega, rfl, fun i h => by omega, rfl⟩
  case round =>
    obtain ⟨k, hk, rfl, hn, rfl⟩ := hrel
    have HN := hid hn
    clear hn
    by_cases h7 : k ≤ 7
    · obtain ⟨p1, p2, p3⟩ := pw8_le h7
      have HM := hid (pw8_may h7)
      have HP := hid p3
      by_cases he : pw8 k = n
      · have HE := hid he
        have he' : (pw8 k == n) = true := by rw [beq_iff_eq]; exact he
        clear he p3
        obtain ⟨p, hp⟩ : ∃ p, pw8 k = p := ⟨_, rfl⟩
        rw [hp] at p1 p2 he' ⊢
        clear hp
        go_wp2_with fail
        go_ret
        exact ⟨by rw [← HE.out, HM.out]; rfl, rfl⟩
      · have he' : (pw8 k == n) = false := by rw [beq_eq_false_iff_ne]; exact he
        have HE := hid he
        clear he p3
        obtain ⟨p, hp⟩ : ∃ p, pw8 k = p := ⟨_, rfl⟩
        have HPp := hid hp
        rw [hp] at p1 p2 he' ⊢
        clear hp HM
        go_wp2_with fail
        refine ⟨⟨k + 1, by omega, by rw [HP.out, HPp.out], fun i hi e => ?_, trivial⟩, by simp [intOf]; omega⟩
        rcases Nat.lt_or_ge i k with g | g
        · exact HN.out i g e
        · obtain rfl : i = k := by omega
          exact HE.out e.symm
    · obtain rfl : k = 8 := by omega
      have HM := hid (pw8_not (fun i hi => HN.out i hi))
      rw [show pw8 8 = 8192 from by decide]
      go_wp2_with fail
      go_ret
      exact ⟨by rw [HM.out]; rfl, rfl⟩
theorem on_inj {σ : List (Option Int)} (U : Up (its σ)) {p q : Nat} {x : Int} (hp : σ.getD p none = some x) (hq : σ.getD q none = some x) : p = q := by
  have e := up_index U (its_get σ p x hp) (its_get σ q x hq)
  have c1 := cntOn_on (onOf σ) p (onOf_some hp)
  have c2 := cntOn_on (onOf σ) q (onOf_some hq)
  rcases Nat.lt_trichotomy p q with g | g | g
  · have := cntOn_le_of (onOf σ) (show p + 1 ≤ q by omega); omega
  · exact g
  · have := cntOn_le_of (onOf σ) (show q + 1 ≤ p by omega); omega
/-- The segment of a slot, once it has been met. -/
def segI (p j : Nat) : Int := if p < j then ((p / 8 : Nat) : Int) else -1
theorem segI_zero (p : Nat) : segI p 0 = -1 := if_neg (by omega)
theorem segI_hit (p : Nat) : segI p (p + 1) = (p : Int) / 8 := by unfold segI; rw [if_pos (by omega)]; omega
theorem segI_miss {p j : Nat} (h : j ≠ p) : segI p (j + 1) = segI p j := by
  unfold segI
  by_cases g : p < j
  · rw [if_pos g, if_pos (by omega)]
  · rw [if_neg g, if_neg (by omega)]
theorem segI_end {p n : Nat} (h : p < n) : segI p n = (p : Int) / 8 := by unfold segI; rw [if_pos h]; omega
end Go.Proofs.YtechphliifginaaGreatDoor
