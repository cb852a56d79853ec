/- The library's Equal, Max, Min of numbers; whether there may be so many slots. -/
import Derived.Test.YtonoaklajnfmiaaDoorB2
import Derived.Test.YtonoaklajnfmiaaDoorK2
set_option linter.unusedVariables false
set_option linter.unusedSimpArgs false
namespace Go.Proofs.YtonoaklajnfmiaaDoor
open Go.RowKit

set_option maxHeartbeats 1000000 in
theorem slicesEqual_any (xs ys : List Int) (u v : Value) (w : World) (h1 : Rd w u (ints' xs)) (h2 : Rd w v (ints' ys)) :
    Calls Tryd.prog 33 #[u, v] w fun e w' => e = .returned (.bool (decide (xs = ys))) ∧ Fr Nil1 w w' := by
  obtain ⟨A, c, rfl, hb, hA⟩ := h1
  obtain ⟨B, d, rfl, hb', hB⟩ := h2
  rw [ints'_length] at hb hb' hA hB ⊢
  rw [ints'_length]
  have HA := hid hA
  have HB := hid hB
  clear hA hB
  by_cases hl : xs.length = ys.length
  · have HL := hid hl
    have hq : ((xs.length : Int) != (ys.length : Int)) = false := by rw [bne_eq_false_iff_eq]; omega
    have HH := hid (fun (n : Nat) (h : ∀ i, i < n → xs.getD i 0 = ys.getD i 0) (hn : n = xs.length) => show xs = ys by
      apply List.ext_getElem hl
      intro i a b
      have := h i (by omega)
      simpa [List.getD_eq_getElem?_getD, List.getElem?_eq_getElem a, List.getElem?_eq_getElem b] using this)
    clear hl
    go_enter Tryd.func33, Tryd.ntmps33
    go_wp2_with fail
    go_loopw [5, 13] (fun x i wr => ∃ (k m : Nat), k ≤ xs.length ∧ i = .int .i64 k ∧ wr = w.drewN m ∧ ∀ j, j < k → xs.getD j 0 = ys.getD j 0) (fun _ i _ => xs.length - (intOf i).toNat)
    case atStart => exact ⟨0, 0, by omega, rfl, rfl, fun j hj => by omega⟩
    case round =>
      obtain ⟨k, m, hk, rfl, rfl, heq⟩ := hrel
      have HE := hid heq
      clear heq
      by_cases hlt : k < xs.length
      · obtain ⟨ad, rfl, hc⟩ := HA.out (by omega)
        obtain ⟨ad', rfl, hc'⟩ := HB.out (by have := HL.out; omega)
        have c1 := hc k _ (ints'_get xs k hlt)
        have c2 := hc' k _ (ints'_get ys k (by have := HL.out; omega))
        have hlt2 : k < ys.length := by have := HL.out; omega
        clear hc hc'
        by_cases he : xs.getD k 0 = ys.getD k 0
        · have hb1 : (xs.getD k 0 != ys.getD k 0) = false := by rw [bne_eq_false_iff_eq]; exact he
          have HE2 := hid he
          clear he
          generalize xs.getD k 0 = x at c1 hb1
          generalize ys.getD k 0 = y at c2 hb1
          go_wp2_with fail
          go_quiet (fail)
          go_wp2_with fail
          refine ⟨⟨k + 1, m + nq, by omega, by go_num, rfl, fun j hj => ?_⟩, by simp [intOf]; omega⟩
          rcases Nat.lt_or_ge j k with g | g
          · exact HE.out j g
          · obtain rfl : j = k := by omega
            exact HE2.out
        · have hb1 : (xs.getD k 0 != ys.getD k 0) = true := by rw [bne_iff_ne]; exact he
          have HE2 := hid he
          have HF := hid (show decide (xs = ys) = false from decide_eq_false (fun e => HE2.out (by rw [e])))
          clear he
          generalize xs.getD k 0 = x at c1 hb1
          generalize ys.getD k 0 = y at c2 hb1
          go_wp2_with fail
          go_quiet (fail)
          go_wp2_with fail
          go_ret
          refine ⟨?_, ((Fr.refl _ w).drewN _).drewN _⟩
          rw [HF.out]
          rfl
      · have HF := hid (show decide (xs = ys) = true from decide_eq_true (HH.out k HE.out (by omega)))
        go_wp2_with fail
        go_ret
        refine ⟨?_, ((Fr.refl _ w).drewN _)⟩
        rw [HF.out]
        rfl
  · have hq : ((xs.length : Int) != (ys.length : Int)) = true := by rw [bne_iff_ne]; omega
    have HF := hid (show decide (xs = ys) = false from decide_eq_false (fun e => hl (by rw [e])))
    clear hl
    go_enter Tryd.func33, Tryd.ntmps33
    go_wp2_with fail
    go_ret
    refine ⟨?_, Fr.refl _ w⟩
    rw [HF.out]
    rfl

/-- The greatest, the least of the first so many. -/
def maxTo (xs : List Int) : Nat → Int
  | 0 => xs.getD 0 0
  | n + 1 => if maxTo xs n < xs.getD n 0 then xs.getD n 0 else maxTo xs n
def minTo (xs : List Int) : Nat → Int
  | 0 => xs.getD 0 0
  | n + 1 => if xs.getD n 0 < minTo xs n then xs.getD n 0 else minTo xs n
def maxL (xs : List Int) : Int := maxTo xs xs.length
def minL (xs : List Int) : Int := minTo xs xs.length

set_option maxHeartbeats 1000000 in
theorem slicesMax_any (xs : List Int) (u : Value) (w : World) (h1 : Rd w u (ints' xs)) (hp : 0 < xs.length) :
    Calls Tryd.prog 34 #[u] w fun e w' => e = .returned (.int .i64 (maxL xs)) ∧ w = w' := by
  obtain ⟨A, c, rfl, hb, hA⟩ := h1
  rw [ints'_length] at hb hA ⊢
  obtain ⟨ad, rfl, hc⟩ := hA hp
  have c0 := hc 0 _ (ints'_get xs 0 hp)
  have c0' := c0
  rw [show ad.add 0 = ad from by unfold Addr.add; simp] at c0'
  have HC := hid hc
  have hm1 : maxTo xs 1 = xs.getD 0 0 := by show (if maxTo xs 0 < xs.getD 0 0 then _ else _) = _; rw [show maxTo xs 0 = xs.getD 0 0 from rfl]; split <;> rfl
  have HM := hid hm1
  clear hA hc hm1
  generalize hx : xs.getD 0 0 = x0 at c0 c0'
  have HX := hid hx
  clear hx
  go_enter Tryd.func34, Tryd.ntmps34
  go_wp2_with fail
  go_loop [3, 4] (fun m i => ∃ k : Nat, 1 ≤ k ∧ k ≤ xs.length ∧ i = .int .i64 k ∧ m = .int .i64 (maxTo xs k)) (fun _ i => xs.length - (intOf i).toNat)
  case atStart => exact ⟨1, by omega, by omega, rfl, by rw [HM.out, HX.out]⟩
  case round =>
    obtain ⟨k, hk1, hk, rfl, rfl⟩ := hrel
    by_cases hlt : k < xs.length
    · have c1 := HC.out k _ (ints'_get xs k hlt)
      have HS : Hid (maxTo xs (k + 1) = if maxTo xs k < xs.getD k 0 then xs.getD k 0 else maxTo xs k) := hid rfl
      generalize hy : xs.getD k 0 = y at c1
      generalize hz : maxTo xs k = z
      have HY := hid hy
      have HZ := hid hz
      clear hy hz
      by_cases hlt2 : z < y
      · go_wp2_with fail
        go_round
        case rel => exact ⟨k + 1, by omega, by omega, by go_num, by rw [HS.out, HZ.out, HY.out, if_pos (by omega)]; try rw [if_pos (by omega)]⟩
        case measure => simp [intOf]; omega
      · go_wp2_with fail
        go_round
        case rel => exact ⟨k + 1, by omega, by omega, by go_num, by rw [HS.out, HZ.out, HY.out, if_neg (by omega)]; try rw [if_neg (by omega)]⟩
        case measure => simp [intOf]; omega
    · have hkk := hid (show xs.length = k by omega)
      go_wp2_with fail
      go_ret
      refine ⟨?_, rfl⟩
      unfold maxL
      rw [hkk.out]
      rfl

set_option maxHeartbeats 1000000 in
theorem slicesMin_any (xs : List Int) (u : Value) (w : World) (h1 : Rd w u (ints' xs)) (hp : 0 < xs.length) :
    Calls Tryd.prog 35 #[u] w fun e w' => e = .returned (.int .i64 (minL xs)) ∧ w = w' := by
  obtain ⟨A, c, rfl, hb, hA⟩ := h1
  rw [ints'_length] at hb hA ⊢
  obtain ⟨ad, rfl, hc⟩ := hA hp
  have c0 := hc 0 _ (ints'_get xs 0 hp)
  have c0' := c0
  rw [show ad.add 0 = ad from by unfold Addr.add; simp] at c0'
  have HC := hid hc
  have hm1 : minTo xs 1 = xs.getD 0 0 := by show (if xs.getD 0 0 < minTo xs 0 then _ else _) = _; rw [show minTo xs 0 = xs.getD 0 0 from rfl]; split <;> rfl
  have HM := hid hm1
  clear hA hc hm1
  generalize hx : xs.getD 0 0 = x0 at c0 c0'
  have HX := hid hx
  clear hx
  go_enter Tryd.func35, Tryd.ntmps35
  go_wp2_with fail
  go_loop [3, 4] (fun m i => ∃ k : Nat, 1 ≤ k ∧ k ≤ xs.length ∧ i = .int .i64 k ∧ m = .int .i64 (minTo xs k)) (fun _ i => xs.length - (intOf i).toNat)
  case atStart => exact ⟨1, by omega, by omega, rfl, by rw [HM.out, HX.out]⟩
  case round =>
    obtain ⟨k, hk1, hk, rfl, rfl⟩ := hrel
    by_cases hlt : k < xs.length
    · have c1 := HC.out k _ (ints'_get xs k hlt)
      have HS : Hid (minTo xs (k + 1) = if xs.getD k 0 < minTo xs k then xs.getD k 0 else minTo xs k) := hid rfl
      generalize hy : xs.getD k 0 = y at c1
      generalize hz : minTo xs k = z
      have HY := hid hy
      have HZ := hid hz
      clear hy hz
      by_cases hlt2 : y < z
      · go_wp2_with fail
        go_round
        case rel => exact ⟨k + 1, by omega, by omega, by go_num, by rw [HS.out, HZ.out, HY.out, if_pos (by omega)]; try rw [if_pos (by omega)]⟩
        case measure => simp [intOf]; omega
      · go_wp2_with fail
        go_round
        case rel => exact ⟨k + 1, by omega, by omega, by go_num, by rw [HS.out, HZ.out, HY.out, if_neg (by omega)]; try rw [if_neg (by omega)]⟩
        case measure => simp [intOf]; omega
    · have hkk := hid (show xs.length = k by omega)
      go_wp2_with fail
      go_ret
      refine ⟨?_, rfl⟩
      unfold minL
      rw [hkk.out]
      rfl

/-! ### level.May -/
def mayN (n : Nat) : Bool := n == 32 || n == 64 || n == 128 || n == 256 || n == 512 || n == 1024 || n == 2048 || n == 4096
def mayB (n : Int) : Bool := decide (0 ≤ n) && mayN n.toNat
def mayChk : Nat → Bool
  | 0 => true
  | n + 1 => (decide (n < 32) || (Pop.cnt n 13 == 1) == mayN n) && mayChk n
theorem mayChk_all (n : Nat) (h : mayChk n = true) : ∀ k, k < n → 32 ≤ k → (Pop.cnt k 13 == 1) = mayN k := by
  induction n with
  | zero => intro k hk; omega
  | succ n ih =>
    intro k hk h32
    unfold mayChk at h
    rw [Bool.and_eq_true, Bool.or_eq_true] at h
    rcases Nat.lt_or_ge k n with g | g
    · exact ih h.2 k g h32
    · obtain rfl : k = n := by omega
      rcases h.1 with h1 | h1
      · have := of_decide_eq_true h1; omega
      · exact beq_iff_eq.1 h1
theorem mayChk_4097 : mayChk 4097 = true := by decide +kernel
theorem cnt_zero : ∀ n, Pop.cnt 0 n = 0
  | 0 => rfl
  | n + 1 => by unfold Pop.cnt; rw [cnt_zero n]; simp
theorem may_table (n : Nat) (h : n < 4097) (h32 : 32 ≤ n) : (Pop.cnt n 64 == 1) = mayN n := by
  rw [← mayChk_all 4097 mayChk_4097 n h h32, show 64 = 13 + 51 from rfl, Pop.cnt_add, show n / 2 ^ 13 = 0 from Nat.div_eq_of_lt (by omega), cnt_zero]
  rfl
theorem mayN_big (n : Nat) (h : n < 32 ∨ 4096 < n) : mayN n = false := by
  unfold mayN
  simp only [Bool.or_eq_false_iff, beq_eq_false_iff_ne]
  omega

def btw (n lo hi : Int) : Bool := decide (lo ≤ n ∧ n ≤ hi)
set_option maxHeartbeats 400000 in
theorem levelBetween_any (n lo hi : Int) (w : World) :
    Calls Tryd.prog 54 #[.int .i64 n, .int .i64 lo, .int .i64 hi] w fun e w' => e = .returned (.bool (btw n lo hi)) ∧ w = w' := by
  by_cases h1 : lo ≤ n
  · by_cases h2 : n ≤ hi
    · have H := hid (show btw n lo hi = true from decide_eq_true ⟨h1, h2⟩)
      go_enter Tryd.func54, Tryd.ntmps54
      go_wp2
      go_ret
      exact ⟨by rw [H.out]; rfl, rfl⟩
    · have H := hid (show btw n lo hi = false from decide_eq_false (fun h => h2 h.2))
      have h3 : decide (n ≤ hi) = false := decide_eq_false h2
      clear h2
      go_enter Tryd.func54, Tryd.ntmps54
      go_wp2
      go_ret
      exact ⟨by rw [H.out]; rfl, rfl⟩
  · have H := hid (show btw n lo hi = false from decide_eq_false (fun h => h1 h.1))
    go_enter Tryd.func54, Tryd.ntmps54
    go_wp2
    go_ret
    exact ⟨by rw [H.out]; rfl, rfl⟩

set_option maxHeartbeats 400000 in
theorem onesCount_any (v : Nat) (hv : v < 18446744073709551616) (w : World) :
    Calls Tryd.prog 55 #[.int .u64 (v : Int)] w fun e w' => e = .returned (.int .i64 (Pop.cnt v 64 : Nat)) ∧ w = w' := by
  have H := hid hv
  clear hv
  go_enter Tryd.func55, Tryd.ntmps55
  go_wp2_with (first | (go_at_call 70; refine (ones64_any v H.out _).mono ?_; rintro e w' ⟨rfl, rfl⟩))
  go_ret
  exact ⟨rfl, rfl⟩

set_option maxHeartbeats 400000 in
theorem levelMay_any (n : Int) (w : World) :
    Calls Tryd.prog 31 #[.int .i64 n] w fun e w' => e = .returned (.bool (mayB n)) ∧ w = w' := by
  by_cases h : 32 ≤ n ∧ n ≤ 4096
  · obtain ⟨m, rfl⟩ := Int.eq_ofNat_of_zero_le (show 0 ≤ n by omega)
    have hm : mayB (m : Int) = (Pop.cnt m 64 == 1) := by
      unfold mayB
      rw [decide_eq_true (by omega), Bool.true_and, Int.toNat_natCast, may_table m (by omega) (by omega)]
    have HM := hid hm
    have hd : btw (m : Int) 32 4096 = true := decide_eq_true h
    have hd2 : (((Pop.cnt m 64 : Nat) : Int) == 1) = (Pop.cnt m 64 == 1) := by
      rw [Bool.eq_iff_iff]; simp only [beq_iff_eq]; omega
    have HD2 := hid hd2
    obtain ⟨h1, h2⟩ := h
    have hw : IntKind.u64.wrap (m : Int) = (m : Int) := by rw [IntKind.wrap_u64]; omega
    clear hm hd2
    have HO := fun w => onesCount_any m (by omega) w
    have HO := hid HO
    generalize Pop.cnt m 64 = c at *
    go_enter Tryd.func31, Tryd.ntmps31
    go_wp2_with (first | (go_at_call 54; refine (levelBetween_any _ _ _ _).mono ?_; rintro e w' ⟨rfl, rfl⟩; rw [hd]) | (go_at_call 55; refine (HO.out _).mono ?_; rintro e w' ⟨rfl, rfl⟩))
    go_ret
    refine ⟨?_, rfl⟩
    rw [HM.out, ← HD2.out]
    rfl
  · have hd : btw n 32 4096 = false := decide_eq_false h
    have hm : mayB n = false := by
      unfold mayB
      by_cases h0 : 0 ≤ n
      · rw [decide_eq_true h0, Bool.true_and, mayN_big _ (by omega)]
      · rw [decide_eq_false h0, Bool.false_and]
    have HM := hid hm
    clear h hm
    go_enter Tryd.func31, Tryd.ntmps31
    go_wp2_with (first | (go_at_call 54; refine (levelBetween_any _ _ _ _).mono ?_; rintro e w' ⟨rfl, rfl⟩; rw [hd]))
    go_ret
    rw [HM.out]
    exact ⟨rfl, rfl⟩
end Go.Proofs.YtonoaklajnfmiaaDoor
