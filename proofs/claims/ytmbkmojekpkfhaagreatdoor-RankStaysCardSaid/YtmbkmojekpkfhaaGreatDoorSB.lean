/- The last set bit up to one: words. (plain) -/
import Derived.Test.YtmbkmojekpkfhaaGreatDoorGS
import Derived.Lib.BitFns
set_option linter.unusedVariables false
set_option linter.unusedSimpArgs false
namespace Go.Proofs.YtmbkmojekpkfhaaGreatDoor
open Go.RowKit

/-- v << s >> s -/
theorem low_bits (v s j : Nat) (hs : s < 64) (hj : j < 64) : (v * 2 ^ s % 18446744073709551616 / 2 ^ s).testBit j = (decide (j + s < 64) && v.testBit j) := by
  rw [Nat.testBit_div_two_pow, show 18446744073709551616 = 2 ^ 64 from rfl, Nat.testBit_mod_two_pow, Nat.mul_comm, Nat.testBit_two_pow_mul]
  by_cases h : j + s < 64
  · simp [h]
  · simp [h]
theorem low_eq (v s : Nat) : IntKind.u64.wrap ((v : Int) * 2 ^ s) / 2 ^ s = ((v * 2 ^ s % 18446744073709551616 / 2 ^ s : Nat) : Int) := by
  rw [shl_eq, cast_pow]
theorem bitLenAux_spec : ∀ (f x : Nat), x < 2 ^ f → x < 2 ^ Lib.bitLenAux f x ∧ (x ≠ 0 → 1 ≤ Lib.bitLenAux f x ∧ 2 ^ (Lib.bitLenAux f x - 1) ≤ x) ∧ Lib.bitLenAux f x ≤ f
  | 0, x, h => by
    have : x = 0 := by simpa using h
    subst this
    exact ⟨by simp [Lib.bitLenAux], fun h => absurd rfl h, by simp [Lib.bitLenAux]⟩
  | f + 1, x, h => by
    rw [Lib.bitLenAux]
    by_cases h0 : x = 0
    · rw [if_pos h0]
      exact ⟨by rw [h0]; simp, fun h => absurd h0 h, by omega⟩
    · rw [if_neg h0]
      have ih := bitLenAux_spec f (x / 2) (by rw [Nat.pow_succ] at h; omega)
      refine ⟨?_, fun _ => ⟨by omega, ?_⟩, by omega⟩
      · rw [Nat.add_comm, Nat.pow_succ]; omega
      · rw [show 1 + Lib.bitLenAux f (x / 2) - 1 = Lib.bitLenAux f (x / 2) by omega]
        by_cases h1 : x / 2 = 0
        · have hz : Lib.bitLenAux f 0 = 0 := by cases f <;> simp [Lib.bitLenAux]
          rw [h1, hz]
          simp
          omega
        · obtain ⟨g1, g2⟩ := ih.2.1 h1
          obtain ⟨k, hk⟩ : ∃ k, Lib.bitLenAux f (x / 2) = k + 1 := ⟨Lib.bitLenAux f (x / 2) - 1, by omega⟩
          rw [hk] at g2 ⊢
          rw [Nat.pow_succ]
          simp at g2
          omega
theorem bitLen_spec (x : Nat) (h0 : x ≠ 0) (hx : x < 18446744073709551616) : 1 ≤ Lib.bitLen x ∧ Lib.bitLen x ≤ 64 ∧ x.testBit (Lib.bitLen x - 1) = true ∧ ∀ j, Lib.bitLen x ≤ j → x.testBit j = false := by
  obtain ⟨a, b, c⟩ := bitLenAux_spec 64 x hx
  obtain ⟨b1, b2⟩ := b h0
  have a' : x < 2 ^ Lib.bitLen x := a
  have b1' : 1 ≤ Lib.bitLen x := b1
  have b2' : 2 ^ (Lib.bitLen x - 1) ≤ x := b2
  have c' : Lib.bitLen x ≤ 64 := c
  refine ⟨b1', c', ?_, fun j hj => Nat.testBit_lt_two_pow (Nat.lt_of_lt_of_le a' (Nat.pow_le_pow_right (by omega) hj))⟩
  obtain ⟨k, hk⟩ : ∃ k, Lib.bitLen x = k + 1 := ⟨Lib.bitLen x - 1, by omega⟩
  rw [hk] at a' b2' ⊢
  simp only [Nat.add_sub_cancel] at b2' ⊢
  have h1 : x / 2 ^ k = 1 := by
    have hp : 0 < 2 ^ k := Nat.pow_pos (by omega)
    rw [Nat.pow_succ] at a'
    apply Nat.le_antisymm
    · exact Nat.le_of_lt_succ ((Nat.div_lt_iff_lt_mul hp).2 (by omega))
    · exact (Nat.le_div_iff_mul_le hp).2 (by omega)
  rw [Nat.testBit_eq_decide_div_mod_eq, h1]
  rfl
/-- In the loop of Prev: the word that is held has the bits of word k up to i; behind word k there is none up to i. -/
def PrevRel (on : Nat → Bool) (len : Nat) (i : Nat) (x k : Value) : Prop :=
  ∃ (v kk : Nat), x = .int .u64 v ∧ k = .int .i64 kk ∧ kk < len ∧ kk ≤ i / 64 ∧ v < 18446744073709551616 ∧ (∀ j, j < 64 → v.testBit j = (decide (64 * kk + j ≤ i) && on (64 * kk + j))) ∧ ∀ j, 64 * (kk + 1) ≤ j → j ≤ i → on j = false
theorem prevRel_start {on : Nat → Bool} {ws : List Nat} {n : Nat} (h3 : WOK ws n on) (m : Nat) (hmn : m < n) (hl : m / 64 < ws.length) :
    PrevRel on ws.length m (.int .u64 ((ws.getD (m / 64) 0 * 2 ^ (63 - m % 64) % 18446744073709551616 / 2 ^ (63 - m % 64) : Nat) : Int)) (.int .i64 ((m / 64 : Nat) : Int)) := by
  refine ⟨_, m / 64, rfl, rfl, hl, Nat.le_refl _, Nat.lt_of_le_of_lt (Nat.div_le_self _ _) (Nat.mod_lt _ (by omega)), fun j hj => ?_, fun j h1 h2 => by omega⟩
  rw [low_bits _ _ _ (by omega) hj, h3.bit, bitAt, show (64 * (m / 64) + j) / 64 = m / 64 by omega, show (64 * (m / 64) + j) % 64 = j by omega]
  congr 1
  rw [decide_eq_decide]
  omega
theorem prv_none {on : Nat → Bool} {n : Nat} {i : Int} (h : ∀ j : Nat, (j : Int) ≤ i → j < n → on j = false) : prv on n i = -1 :=
  prvF_none on _ (fun j hj => h j (by omega) (by omega))
theorem prv_some {on : Nat → Bool} {n : Nat} {i : Int} (r : Nat) (h1 : (r : Int) ≤ i) (h2 : r < n) (hr : on r = true) (h : ∀ j : Nat, r < j → (j : Int) ≤ i → j < n → on j = false) : prv on n i = r :=
  prvF_some on r hr _ (by omega) (fun j a b => h j a (by omega) (by omega))
theorem prv_cases (on : Nat → Bool) (n : Nat) (i : Int) : (prv on n i = -1 ∧ ∀ j : Nat, (j : Int) ≤ i → j < n → on j = false) ∨
    ∃ r : Nat, prv on n i = r ∧ (r : Int) ≤ i ∧ r < n ∧ on r = true ∧ ∀ j : Nat, r < j → (j : Int) ≤ i → j < n → on j = false := by
  have key : ∀ m : Nat, (∀ j, j < m → on j = false) ∨ ∃ r, r < m ∧ on r = true ∧ ∀ j, r < j → j < m → on j = false := by
    intro m
    induction m with
    | zero => exact .inl (fun j hj => by omega)
    | succ m ih =>
      cases e : on m with
      | true => exact .inr ⟨m, by omega, e, fun j a b => by omega⟩
      | false =>
        rcases ih with ih | ⟨r, a, b, c⟩
        · exact .inl (fun j hj => by
            rcases Nat.lt_or_ge j m with g | g
            · exact ih j g
            · rw [show j = m by omega]; exact e)
        · exact .inr ⟨r, by omega, b, fun j h1 h2 => by
            rcases Nat.lt_or_ge j m with g | g
            · exact c j h1 g
            · rw [show j = m by omega]; exact e⟩
  rcases key (min (i + 1) n).toNat with h | ⟨r, a, b, c⟩
  · have h' : ∀ j : Nat, (j : Int) ≤ i → j < n → on j = false := fun j h1 h2 => h j (by omega)
    exact .inl ⟨prv_none h', h'⟩
  · have h' : ∀ j : Nat, r < j → (j : Int) ≤ i → j < n → on j = false := fun j h1 h2 h3 => c j h1 (by omega)
    exact .inr ⟨r, prv_some r (by omega) (by omega) b h', by omega, by omega, b, h'⟩
end Go.Proofs.YtmbkmojekpkfhaaGreatDoor
