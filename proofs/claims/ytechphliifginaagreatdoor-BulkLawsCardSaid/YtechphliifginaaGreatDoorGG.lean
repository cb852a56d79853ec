/- In one: L0, L1, L2. -/
import Derived.Test.YtechphliifginaaGreatDoorGB
import Derived.OwnWalk
import Derived.Test.YtechphliifginaaGreatDoorGC
/- level: between, May. -/
set_option linter.unusedVariables false
set_option linter.unusedSimpArgs false
namespace Go.Proofs.YtechphliifginaaGreatDoor
open Go.RowKit

/-! ### level.May -/
def mayN (n : Nat) : Bool := n == 32 || n == 64 || n == 128 || n == 256 || n == 512 || n == 1024 || n == 2048 || n == 4096
def mayB (n : Int) : Bool := decide (0 ≤ n) && mayN n.toNat
def mayChk : Nat → Bool
  | 0 => true
  | n + 1 => (decide (n < 32) || (Pop.cnt n 13 == 1) == mayN n) && mayChk n
theorem mayChk_all (n : Nat) (h : mayChk n = true) : ∀ k, k < n → 32 ≤ k → (Pop.cnt k 13 == 1) = mayN k := by
  induction n with
  | zero => intro k hk; omega
  | succ n ih =>
    intro k hk h32
    unfold mayChk at h
    rw [Bool.and_eq_true, Bool.or_eq_true] at h
    rcases Nat.lt_or_ge k n with g | g
    · exact ih h.2 k g h32
    · obtain rfl : k = n := by omega
      rcases h.1 with h1 | h1
      · have := of_decide_eq_true h1; omega
      · exact beq_iff_eq.1 h1
theorem mayChk_4097 : mayChk 4097 = true := by decide +kernel
theorem cnt_zero : ∀ n, Pop.cnt 0 n = 0
  | 0 => rfl
  | n + 1 => by unfold Pop.cnt; rw [cnt_zero n]; simp
theorem may_table (n : Nat) (h : n < 4097) (h32 : 32 ≤ n) : (Pop.cnt n 64 == 1) = mayN n := by
  rw [← mayChk_all 4097 mayChk_4097 n h h32, show 64 = 13 + 51 from rfl, Pop.cnt_add, show n / 2 ^ 13 = 0 from Nat.div_eq_of_lt (by omega), cnt_zero]
  rfl
theorem mayN_big (n : Nat) (h : n < 32 ∨ 4096 < n) : mayN n = false := by
  unfold mayN
  simp only [Bool.or_eq_false_iff, beq_eq_false_iff_ne]
  omega

def btw (n lo hi : Int) : Bool := decide (lo ≤ n ∧ n ≤ hi)
set_option maxHeartbeats 400000 in
theorem levelBetween_any (n lo hi : Int) (w : World) :
    Calls Tryz.prog 157 #[.int .i64 n, .int .i64 lo, .int .i64 hi] w fun e w' => e = .returned (.bool (btw n lo hi)) ∧ w = w' := by
  by_cases h1 : lo ≤ n
  · by_cases h2 : n ≤ hi
    · have H := hid (show btw n lo hi = true from decide_eq_true ⟨h1, h2⟩)
      go_enter Tryz.func157, Tryz.ntmps157
      go_wp2
      go_ret
      exact ⟨by rw [H.out]; rfl, rfl⟩
    · have H := hid (show btw n lo hi = false from decide_eq_false (fun h => h2 h.2))
      have h3 : decide (n ≤ hi) = false := decide_eq_false h2
      clear h2
      go_enter Tryz.func157, Tryz.ntmps157
      go_wp2
      go_ret
      exact ⟨by rw [H.out]; rfl, rfl⟩
  · have H := hid (show btw n lo hi = false from decide_eq_false (fun h => h1 h.1))
    go_enter Tryz.func157, Tryz.ntmps157
    go_wp2
    go_ret
    exact ⟨by rw [H.out]; rfl, rfl⟩

set_option maxHeartbeats 400000 in
theorem onesCount_any (v : Nat) (hv : v < 18446744073709551616) (w : World) :
    Calls Tryz.prog 158 #[.int .u64 (v : Int)] w fun e w' => e = .returned (.int .i64 (Pop.cnt v 64 : Nat)) ∧ w = w' := by
  have H := hid hv
  clear hv
  go_enter Tryz.func158, Tryz.ntmps158
  go_wp2_with (first | (go_at_call 190; refine (ones64_any v H.out _).mono ?_; rintro e w' ⟨rfl, rfl⟩))
  go_ret
  exact ⟨rfl, rfl⟩

set_option maxHeartbeats 400000 in
theorem levelMay_any (n : Int) (w : World) :
    Calls Tryz.prog 91 #[.int .i64 n] w fun e w' => e = .returned (.bool (mayB n)) ∧ w = w' := by
  by_cases h : 32 ≤ n ∧ n ≤ 4096
  · obtain ⟨m, rfl⟩ := Int.eq_ofNat_of_zero_le (show 0 ≤ n by omega)
    have hm : mayB (m : Int) = (Pop.cnt m 64 == 1) := by
      unfold mayB
      rw [decide_eq_true (by omega), Bool.true_and, Int.toNat_natCast, may_table m (by omega) (by omega)]
    have HM := hid hm
    have hd : btw (m : Int) 32 4096 = true := decide_eq_true h
    have hd2 : (((Pop.cnt m 64 : Nat) : Int) == 1) = (Pop.cnt m 64 == 1) := by
      rw [Bool.eq_iff_iff]; simp only [beq_iff_eq]; omega
    have HD2 := hid hd2
    obtain ⟨h1, h2⟩ := h
    have hw : IntKind.u64.wrap (m : Int) = (m : Int) := by rw [IntKind.wrap_u64]; omega
    clear hm hd2
    have HO := fun w => onesCount_any m (by omega) w
    have HO := hid HO
    generalize Pop.cnt m 64 = c at *
    go_enter Tryz.func91, Tryz.ntmps91
    go_wp2_with (first | (go_at_call 157; refine (levelBetween_any _ _ _ _).mono ?_; rintro e w' ⟨rfl, rfl⟩; rw [hd]) | (go_at_call 158; refine (HO.out _).mono ?_; rintro e w' ⟨rfl, rfl⟩))
    go_ret
    refine ⟨?_, rfl⟩
    rw [HM.out, ← HD2.out]
    rfl
  · have hd : btw n 32 4096 = false := decide_eq_false h
    have hm : mayB n = false := by
      unfold mayB
      by_cases h0 : 0 ≤ n
      · rw [decide_eq_true h0, Bool.true_and, mayN_big _ (by omega)]
      · rw [decide_eq_false h0, Bool.false_and]
    have HM := hid hm
    clear h hm
    go_enter Tryz.func91, Tryz.ntmps91
    go_wp2_with (first | (go_at_call 157; refine (levelBetween_any _ _ _ _).mono ?_; rintro e w' ⟨rfl, rfl⟩; rw [hd]))
    go_ret
    rw [HM.out]
    exact ⟨rfl, rfl⟩
end Go.Proofs.YtechphliifginaaGreatDoor

/- level: may, many, few, Within, Window, Height, Segs. -/
set_option linter.unusedVariables false
set_option linter.unusedSimpArgs false
namespace Go.Proofs.YtechphliifginaaGreatDoor
open Go.RowKit

/-- What a window has at most, and at least, times the height. -/
def manyF (k h : Nat) : Int := (7 * (h : Int) - 2 * k) * 2 ^ k
def fewF (k h : Nat) : Int := if h = 2 then 0 else ((h : Int) + k) * 2 ^ k
def withinF (n : Int) (k h : Nat) : Int := if 4096 < n ∨ manyF k h < h * n then 1 else if h * n < fewF k h then -1 else 0

theorem pow_le512 {k : Nat} (h : k ≤ 9) : (2 : Int) ^ k ≤ 512 ∧ (1 : Int) ≤ 2 ^ k := by
  have : ∀ k : Nat, k < 10 → (2 : Int) ^ k ≤ 512 ∧ (1 : Int) ≤ 2 ^ k := by decide
  exact this k (by omega)
theorem manyF_le : ∀ k h : Nat, k ≤ h → h ≤ 9 → 0 ≤ manyF k h ∧ manyF k h ≤ 32256 := by
  have : ∀ h : Nat, h < 10 → ∀ k : Nat, k < 10 → k ≤ h → 0 ≤ manyF k h ∧ manyF k h ≤ 32256 := by decide
  intro k h h1 h2
  exact this h (by omega) k (by omega) h1
theorem fewF_le : ∀ k h : Nat, k ≤ h → h ≤ 9 → 0 ≤ fewF k h ∧ fewF k h ≤ 9216 := by
  have : ∀ h : Nat, h < 10 → ∀ k : Nat, k < 10 → k ≤ h → 0 ≤ fewF k h ∧ fewF k h ≤ 9216 := by decide
  intro k h h1 h2
  exact this h (by omega) k (by omega) h1

theorem levelMany_any (k h : Nat) (h1 : k ≤ h) (h2 : h ≤ 9) (w : World) :
    Calls Tryz.prog 150 #[.int .i64 k, .int .i64 h] w fun e w' => e = .returned (.int .i64 (manyF k h)) ∧ w = w' := by
  obtain ⟨b1, b2⟩ := manyF_le k h h1 h2
  have q : wrap64 ((7 * (h : Int) - 2 * k) * 2 ^ k) = manyF k h := IntWalk.wrap64_in _ (by show _ ≤ manyF k h ∧ manyF k h ≤ _; omega)
  have Q := hid q
  have hk : k < 64 := by omega
  clear q b1 b2
  go_enter Tryz.func150, Tryz.ntmps150
  go_wp2_with fail
  go_ret
  exact ⟨by rw [← Q.out]; rfl, rfl⟩

theorem levelFew_any (k h : Nat) (h1 : k ≤ h) (h2 : h ≤ 9) (w : World) :
    Calls Tryz.prog 151 #[.int .i64 k, .int .i64 h] w fun e w' => e = .returned (.int .i64 (fewF k h)) ∧ w = w' := by
  obtain ⟨b1, b2⟩ := fewF_le k h h1 h2
  by_cases h3 : h = 2
  · subst h3
    go_enter Tryz.func151, Tryz.ntmps151
    go_wp2_with fail
    go_ret
    exact ⟨rfl, rfl⟩
  · have q : wrap64 (((h : Int) + k) * 2 ^ k) = fewF k h := by
      have e : fewF k h = ((h : Int) + k) * 2 ^ k := by unfold fewF; rw [if_neg h3]
      rw [← e]
      exact IntWalk.wrap64_in _ (by omega)
    have Q := hid q
    have hk : k < 64 := by omega
    have hb : ((h : Int) == 2) = false := by rw [beq_eq_false_iff_ne]; omega
    clear q b1 b2 h3
    go_enter Tryz.func151, Tryz.ntmps151
    go_wp2_with fail
    go_ret
    exact ⟨by rw [← Q.out]; rfl, rfl⟩

theorem levelMayL_any (k h : Nat) (h1 : k ≤ h) (h2 : h ≤ 9) (h3 : 2 ≤ h) (w : World) :
    Calls Tryz.prog 149 #[.int .i64 k, .int .i64 h] w fun e w' => e = .returned (.bool true) ∧ w = w' := by
  have B1 := hid (fun w => levelBetween_any (h : Int) 2 9 w)
  have B2 := hid (fun w => levelBetween_any (k : Int) 0 h w)
  rw [show btw (h : Int) 2 9 = true from decide_eq_true (by omega)] at B1
  rw [show btw (k : Int) 0 h = true from decide_eq_true (by omega)] at B2
  go_enter Tryz.func149, Tryz.ntmps149
  go_wp2_with (first | (go_at_call 157; first | (with_reducible refine (B1.out _).mono ?_; rintro e w1 ⟨rfl, rfl⟩) | (with_reducible refine (B2.out _).mono ?_; rintro e w1 ⟨rfl, rfl⟩)))
  go_ret
  exact ⟨rfl, rfl⟩

theorem levelWithin_any (n : Int) (k h : Nat) (h1 : k ≤ h) (h2 : h ≤ 9) (h3 : 2 ≤ h) (hn : 0 ≤ n) (hn2 : n ≤ 9223372036854775807) (w : World) :
    Calls Tryz.prog 84 #[.int .i64 n, .int .i64 k, .int .i64 h] w fun e w' => e = .returned (.tuple #[.int .i64 (withinF n k h), .int .i64 0]) ∧ w = w' := by
  have M := hid (fun w => levelMayL_any k h h1 h2 h3 w)
  have A := hid (fun w => levelMany_any k h h1 h2 w)
  have B := hid (fun w => levelFew_any k h h1 h2 w)
  obtain ⟨b1, b2⟩ := manyF_le k h h1 h2
  obtain ⟨b3, b4⟩ := fewF_le k h h1 h2
  by_cases c1 : 4096 < n
  · have W := hid (show withinF n k h = 1 by unfold withinF; rw [if_pos (.inl c1)])
    clear b1 b2 b3 b4
    go_enter Tryz.func84, Tryz.ntmps84
    go_wp2_with (first | (go_at_call 149; refine (M.out _).mono ?_; rintro e w1 ⟨rfl, rfl⟩))
    go_ret2
    rw [W.out]
    exact ⟨rfl, rfl⟩
  · have p0 : 0 ≤ (h : Int) * n := Int.mul_nonneg (by omega) hn
    have p1 : (h : Int) * n ≤ 9 * 4096 := Int.mul_le_mul (by omega) (by omega) hn (by omega)
    have q : wrap64 ((h : Int) * n) = (h : Int) * n := IntWalk.wrap64_in _ (by omega)
    by_cases c2 : manyF k h < h * n
    · have W := hid (show withinF n k h = 1 by unfold withinF; rw [if_pos (.inr c2)])
      have hz : True := trivial
      generalize manyF k h = y at *
      clear b3 b4
      go_enter Tryz.func84, Tryz.ntmps84
      go_wp2_with (first | (go_at_call 149; refine (M.out _).mono ?_; rintro e w1 ⟨rfl, rfl⟩) | (go_at_call 150; refine (A.out _).mono ?_; rintro e w1 ⟨rfl, rfl⟩))
      go_ret2
      rw [W.out]
      exact ⟨rfl, rfl⟩
    · by_cases c3 : h * n < fewF k h
      · have W := hid (show withinF n k h = -1 by unfold withinF; rw [if_neg (by omega), if_pos c3])
        have hz : True := trivial
        generalize manyF k h = y at *
        generalize fewF k h = x at *
        go_enter Tryz.func84, Tryz.ntmps84
        go_wp2_with (first | (go_at_call 149; refine (M.out _).mono ?_; rintro e w1 ⟨rfl, rfl⟩) | (go_at_call 150; refine (A.out _).mono ?_; rintro e w1 ⟨rfl, rfl⟩) | (go_at_call 151; refine (B.out _).mono ?_; rintro e w1 ⟨rfl, rfl⟩))
        go_ret2
        rw [W.out]
        exact ⟨rfl, rfl⟩
      · have W := hid (show withinF n k h = 0 by unfold withinF; rw [if_neg (by omega), if_neg c3])
        have hz : True := trivial
        generalize manyF k h = y at *
        generalize fewF k h = x at *
        go_enter Tryz.func84, Tryz.ntmps84
        go_wp2_with (first | (go_at_call 149; refine (M.out _).mono ?_; rintro e w1 ⟨rfl, rfl⟩) | (go_at_call 150; refine (A.out _).mono ?_; rintro e w1 ⟨rfl, rfl⟩) | (go_at_call 151; refine (B.out _).mono ?_; rintro e w1 ⟨rfl, rfl⟩))
        go_ret2
        rw [W.out]
        exact ⟨rfl, rfl⟩

/-- The window of a level: its first segment. -/
def winF (seg k : Nat) : Nat := seg - seg % 2 ^ k
theorem winF_bits : ∀ k : Nat, k ≤ 9 → ∀ seg : Nat, seg < 512 → bits BinOp.andNot IntKind.i64 (seg : Int) (2 ^ k - 1) = (winF seg k : Nat) := by
  have : ∀ k : Nat, k < 10 → ∀ seg : Nat, seg < 512 → bits BinOp.andNot IntKind.i64 (seg : Int) (2 ^ k - 1) = (winF seg k : Nat) := by decide +kernel
  exact fun k hk => this k (by omega)
theorem levelWindow_any (seg k : Nat) (h1 : seg < 512) (h2 : k ≤ 9) (w : World) :
    Calls Tryz.prog 184 #[.int .i64 seg, .int .i64 k] w fun e w' => e = .returned (.tuple #[.int .i64 (winF seg k : Nat), .int .i64 (2 ^ k : Nat), .int .i64 0]) ∧ w = w' := by
  have B1 := hid (fun w => levelBetween_any (seg : Int) 0 511 w)
  have B2 := hid (fun w => levelBetween_any (k : Int) 0 9 w)
  rw [show btw (seg : Int) 0 511 = true from decide_eq_true (by omega)] at B1
  rw [show btw (k : Int) 0 9 = true from decide_eq_true (by omega)] at B2
  obtain ⟨p1, p2⟩ := pow_le512 h2
  have q : wrap64 (1 * 2 ^ k) = 2 ^ k := by rw [Int.one_mul]; exact IntWalk.wrap64_in _ (by omega)
  have hk : k < 64 := by omega
  go_enter Tryz.func184, Tryz.ntmps184
  go_wp2_with (first | (go_at_call 157; first | (with_reducible refine (B1.out _).mono ?_; rintro e w1 ⟨rfl, rfl⟩) | (with_reducible refine (B2.out _).mono ?_; rintro e w1 ⟨rfl, rfl⟩)))
  go_ret3
  rw [← winF_bits k h2 seg h1]
  have HQ := hid (show ((2 ^ k : Nat) : Int) = 2 ^ k by rw [Int.natCast_pow]; rfl)
  rw [HQ.out]
  exact ⟨rfl, rfl⟩

/-- The height of a capacity. -/
def htN : Nat → Nat
  | 32 => 2 | 64 => 3 | 128 => 4 | 256 => 5 | 512 => 6 | 1024 => 7 | 2048 => 8 | _ => 9
theorem mayB_pow {h : Nat} (h2 : 2 ≤ h) (h9 : h ≤ 9) : mayB ((8 * 2 ^ h : Nat) : Int) = true := by
  have : ∀ h : Nat, h < 10 → 2 ≤ h → mayB ((8 * 2 ^ h : Nat) : Int) = true := by decide +kernel
  exact this h (by omega) h2

theorem levelSegs_ok (h : Nat) (h2 : 2 ≤ h) (h9 : h ≤ 9) (w : World) :
    Calls Tryz.prog 92 #[.int .i64 (8 * 2 ^ h : Nat)] w fun e w' => e = .returned (.tuple #[.int .i64 (2 ^ h : Nat), .int .i64 0]) ∧ w = w' := by
  have M := hid (fun w => levelMay_any ((8 * 2 ^ h : Nat) : Int) w)
  rw [mayB_pow h2 h9] at M
  obtain ⟨z, hz⟩ : ∃ z, 2 ^ h = z := ⟨_, rfl⟩
  rw [hz] at M ⊢
  have hb : z ≤ 512 := by rw [← hz]; exact Nat.pow_le_pow_right (n := 2) (by omega) h9
  have Q := hid (show ((8 * z : Nat) : Int) / 8 = (z : Int) by omega)
  clear hz
  obtain ⟨y, hy⟩ : ∃ y : Int, ((8 * z : Nat) : Int) = y := ⟨_, rfl⟩
  rw [hy] at M Q ⊢
  have h0 : 0 ≤ y := by omega
  have h1 : y ≤ 4096 := by omega
  clear hy hb
  go_enter Tryz.func92, Tryz.ntmps92
  go_wp2_with (first | (go_at_call 91; refine (M.out _).mono ?_; rintro e w1 ⟨rfl, rfl⟩))
  go_ret2
  rw [← Q.out]
  exact ⟨rfl, rfl⟩
theorem levelSegs_bad (n : Int) (w : World) (h : mayB n = false) :
    Calls Tryz.prog 92 #[.int .i64 n] w fun e w' => e = .returned (.tuple #[.int .i64 0, .int .i64 10]) ∧ w = w' := by
  have M := hid (fun w => levelMay_any n w)
  rw [h] at M
  clear h
  go_enter Tryz.func92, Tryz.ntmps92
  go_wp2_with (first | (go_at_call 91; refine (M.out _).mono ?_; rintro e w1 ⟨rfl, rfl⟩))
  go_ret2
  exact ⟨rfl, rfl⟩

end Go.Proofs.YtechphliifginaaGreatDoor

/- level.Height; the library's IndexFunc and ContainsFunc, with a test of numbers. -/
set_option linter.unusedVariables false
set_option linter.unusedSimpArgs false
namespace Go.Proofs.YtechphliifginaaGreatDoor
open Go.RowKit

theorem ctz_pow {h : Nat} (h9 : h ≤ 9) : Lib.ctz 64 (2 ^ h) = h := by
  have : ∀ h : Nat, h < 10 → Lib.ctz 64 (2 ^ h) = h := by decide +kernel
  exact this h (by omega)
theorem tz_any (x : Nat) (hx : x < 18446744073709551616) (h0 : x ≠ 0) (w : World) (hT : Tab w) :
    Calls Tryz.prog 182 #[.int .u64 (x : Int)] w fun e w' => e = .returned (.int .i64 (Lib.ctz 64 x)) ∧ w = w' := by
  have H := hid (tz64_any x hx h0 w hT)
  clear hx h0 hT
  go_enter Tryz.func182, Tryz.ntmps182
  go_wp2_with (first | (go_at_call 204; refine H.out.mono ?_; rintro e w' ⟨rfl, rfl⟩))
  go_ret
  exact ⟨rfl, rfl⟩
theorem levelHeight_ok (h : Nat) (h2 : 2 ≤ h) (h9 : h ≤ 9) (w : World) (hT : Tab w) :
    Calls Tryz.prog 146 #[.int .i64 (8 * 2 ^ h : Nat)] w fun e w' => e = .returned (.tuple #[.int .i64 h, .int .i64 0]) ∧ w = w' := by
  have M := hid (fun w => levelMay_any ((8 * 2 ^ h : Nat) : Int) w)
  rw [mayB_pow h2 h9] at M
  have T := hid (tz_any (2 ^ h) (by have : 2 ^ h ≤ 512 := Nat.pow_le_pow_right (n := 2) (by omega) h9; omega) (by have : 0 < 2 ^ h := Nat.pow_pos (by omega); omega) w hT)
  rw [ctz_pow h9] at T
  obtain ⟨z, hz⟩ : ∃ z, 2 ^ h = z := ⟨_, rfl⟩
  rw [hz] at M T ⊢
  have hb : z ≤ 512 := by rw [← hz]; exact Nat.pow_le_pow_right (n := 2) (by omega) h9
  have hw : IntKind.u64.wrap (((8 * z : Nat) : Int) / 8) = (z : Int) := by rw [IntKind.wrap_u64]; omega
  clear hz
  obtain ⟨y, hy⟩ : ∃ y : Int, ((8 * z : Nat) : Int) = y := ⟨_, rfl⟩
  rw [hy] at M hw ⊢
  have h0 : 0 ≤ y := by omega
  have h1 : y ≤ 4096 := by omega
  clear hy hb
  go_enter Tryz.func146, Tryz.ntmps146
  go_wp2_with (first | (go_at_call 91; refine (M.out _).mono ?_; rintro e w1 ⟨rfl, rfl⟩) | (go_at_call 182; refine T.out.mono ?_; rintro e w1 ⟨rfl, rfl⟩))
  go_ret2
  exact ⟨rfl, rfl⟩

/-- The first number that meets a test; -1: none. -/
def idxF (p : Int → Bool) (xs : List Int) (r : Int) : Prop := (r = -1 ∧ ∀ x ∈ xs, p x = false) ∨ (0 ≤ r ∧ ∃ x ∈ xs, p x = true)
set_option maxHeartbeats 1000000 in
set_option maxRecDepth 100000 in
theorem indexFunc_pure (g : FuncId) (p : Int → Bool) (xs : List Int) (v : Value) (w : World) (hv : Rd w v (ints' xs))
    (hent : Enters Tryz.prog g) (hp : ∀ x ∈ xs, ∀ w', Calls Tryz.prog g #[.int .i64 x] w' fun e w'' => e = .returned (.bool (p x)) ∧ w' = w'') :
    Calls Tryz.prog 185 #[v, .func (.func g) #[] #[]] w fun e w' => ∃ r : Int, e = .returned (.int .i64 r) ∧ idxF p xs r ∧ Fr Nil1 w w' := by
  obtain ⟨A, cc, rfl, hlen, hA⟩ := hv
  rw [ints'_length] at hlen hA ⊢
  have HA := hid hA
  have HP := hid hp
  have hen : ∀ (args : Array Value) (W : World), Sem.run Tryz.prog (callFunc g args) W = .ok (.enter g args) W := hent
  clear hA hp hent
  go_enter Tryz.func185, Tryz.ntmps185
  go_wp2_with fail
  go_loopw [4, 5, 8] (fun _ _ i wr => ∃ j : Nat, j ≤ xs.length ∧ i = .int .i64 j ∧ Hid (Fr Nil1 w wr ∧ ∀ t, t < j → p (xs.getD t 0) = false)) (fun _ _ i _ => xs.length - (intOf i).toNat)
  case atStart => exact ⟨0, by omega, rfl, hid ⟨Fr.refl _ _, fun t ht => by omega⟩⟩
  case round =>
    obtain ⟨j, hj, rfl, HR⟩ := hrel
    by_cases hlt : j < xs.length
    · have hltI : (j : Int) < xs.length := by omega
      obtain ⟨ad, rfl, hc⟩ := HA.out (by omega)
      have c1 := HR.out.1.cell (hc j _ (ints'_get xs j hlt)) (fun h => h)
      have hm : xs.getD j 0 ∈ xs := by simp [List.getD_eq_getElem?_getD, List.getElem?_eq_getElem hlt]
      have HM := hid hm
      have HI := hid (HP.out _ hm)
      have HJT := hid (fun h : p (xs.getD j 0) = false => fun t (ht : t < j + 1) => show p (xs.getD t 0) = false from by
        rcases Nat.lt_or_ge t j with g | g
        · exact HR.out.2 t g
        · obtain rfl : t = j := by omega
          exact h)
      clear hc hm
      generalize xs.getD j 0 = x at *
      cases hin : p x
      · rw [hin] at HI
        have HJ1 := hid (HJT.out hin)
        clear hin
        go_wp2_with (first | (with_reducible refine (HI.out _).mono ?_; rintro e w1 ⟨rfl, rfl⟩))
        exact ⟨⟨j + 1, by omega, by go_num, hid ⟨HR.out.1, HJ1.out⟩⟩, by simp [intOf]; omega⟩
      · rw [hin] at HI
        have HH := hid hin
        clear hin
        go_wp2_with (first | (with_reducible refine (HI.out _).mono ?_; rintro e w1 ⟨rfl, rfl⟩))
        go_ret
        exact ⟨_, rfl, .inr ⟨by omega, x, HM.out, HH.out⟩, HR.out.1⟩
    · have HJ1 := hid (show ∀ x ∈ xs, p x = false from fun x hx => by
        obtain ⟨t, ht, rfl⟩ := List.getElem_of_mem hx
        have := HR.out.2 t (by omega)
        rwa [List.getD_eq_getElem?_getD, List.getElem?_eq_getElem ht] at this)
      have hltI : ¬ (j : Int) < xs.length := by omega
      go_wp2_with fail
      go_ret
      exact ⟨_, rfl, .inl ⟨rfl, HJ1.out⟩, HR.out.1⟩
set_option maxRecDepth 100000 in
theorem containsFunc_pure (g : FuncId) (p : Int → Bool) (xs : List Int) (v : Value) (w : World) (hv : Rd w v (ints' xs))
    (hent : Enters Tryz.prog g) (hp : ∀ x ∈ xs, ∀ w', Calls Tryz.prog g #[.int .i64 x] w' fun e w'' => e = .returned (.bool (p x)) ∧ w' = w'') :
    Calls Tryz.prog 152 #[v, .func (.func g) #[] #[]] w fun e w' => e = .returned (.bool (xs.any p)) ∧ Fr Nil1 w w' := by
  have HI := hid (indexFunc_pure g p xs v w hv hent hp)
  obtain ⟨A, cc, rfl, _, _⟩ := hv
  rw [ints'_length] at HI ⊢
  have HX := hid (fun r : Int => fun h : idxF p xs r => show decide (0 ≤ r) = xs.any p by
    rcases h with ⟨rfl, h⟩ | ⟨h0, x, hx, h⟩
    · have : xs.any p = false := by rw [List.any_eq_false]; intro x hx; rw [h x hx]; simp
      rw [this]; rfl
    · have : xs.any p = true := by rw [List.any_eq_true]; exact ⟨x, hx, h⟩
      rw [this, decide_eq_true h0])
  generalize xs.any p = bb at *
  clear hp hent
  go_enter Tryz.func152, Tryz.ntmps152
  go_wp2_with (first | (go_at_call 185; refine HI.out.mono ?_; rintro e w1 ⟨r, rfl, hr, hF⟩; have HF := hid hF; have HR := hid hr; clear hF hr))
  go_ret
  rw [← HX.out _ HR.out]
  exact ⟨rfl, HF.out⟩
theorem enters_check : Enters Tryz.prog 153 := enters_of Tryz.func153 (by kernel_rfl) rfl
end Go.Proofs.YtechphliifginaaGreatDoor
