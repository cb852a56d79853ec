/- bits.Prev, gaps.Prev. -/
import Derived.Test.YtmbkmojekpkfhaaGreatDoorSB
import Derived.Test.YtmbkmojekpkfhaaGreatDoorSh
set_option linter.unusedVariables false
set_option linter.unusedSimpArgs false
namespace Go.Proofs.YtmbkmojekpkfhaaGreatDoor
open Go.RowKit

theorem len64_any (x : Nat) (hx : x < 18446744073709551616) (w : World) :
    Calls Tryz.prog 151 #[.int .u64 (x : Int)] w fun e w' => e = .returned (.int .i64 (Lib.bitLen x)) ∧ w = w' := by
  refine (Tryz.bits_Len64 (x : Int) w (by omega) (by omega)).mono ?_
  rintro e w' ⟨rfl, rfl⟩
  exact ⟨by rw [Int.toNat_natCast], rfl⟩
set_option maxHeartbeats 400000 in
theorem bitsPrev_neg {b c n : Nat} {on : Nat → Bool} {w : World} (h : BitsR w b c n on) (i : Int) (hi : i < 0) :
    Calls Tryz.prog 145 #[.pointer (some ⟨b, 0, none⟩), .int .i64 i] w fun e w' => e = .returned (.int .i64 (-1)) ∧ w = w' := by
  have H := hid h
  have n1 := h.n1
  have n2 := h.n2
  have hm : ¬ (n : Int) - 1 < i := by omega
  clear h
  go_enter Tryz.func145, Tryz.ntmps145
  go_wp2_with (first | (go_at_call 126; refine (bitsLen_any H.out).mono ?_; rintro e w' ⟨rfl, rfl⟩))
  go_ret
  exact ⟨rfl, rfl⟩
set_option maxHeartbeats 2000000 in
theorem bitsPrev_in {b c n : Nat} {on : Nat → Bool} {w : World} (h : BitsR w b c n on) (i i' : Int) (h0 : 0 ≤ i) (hmin : min i ((n : Int) - 1) = i') :
    Calls Tryz.prog 145 #[.pointer (some ⟨b, 0, none⟩), .int .i64 i] w fun e w' => e = .returned (.int .i64 (prv on n i')) ∧ w = w' := by
  have H := hid h
  have n1 := h.n1
  have n2 := h.n2
  have hi0 : 0 ≤ i' := by omega
  have hin : i' < n := by omega
  obtain ⟨m, hm⟩ : ∃ m : Nat, m = i'.toNat := ⟨_, rfl⟩
  have HI : Hid ((i' : Int) = m) := hid (by omega)
  have hmn : m < n := by omega
  obtain ⟨ws, ex, h1, h2, h3⟩ := h.row
  obtain ⟨c0, c1, f0⟩ := h1.two
  have hl : m / 64 < ws.length := by rw [h3.len]; omega
  have hc := h2.cell (m / 64)
  rw [words_get ws ex _ hl] at hc
  have H3 := hid h3
  have HC := hid (fun k hk => (h2.cell k).trans (words_get ws ex k hk))
  have hlen : ws.length ≤ 1024 := by rw [h3.len]; omega
  have hl0 : i' / 64 < ws.length := by omega
  have HS := hid (prevRel_start h3 m hmn hl)
  rw [show m / 64 = (i' / 64).toNat by omega] at hc
  generalize hxx : ws.getD (i' / 64).toNat 0 = x at *
  have hxx' := hid hxx
  have v0 : (0 : Int) ≤ x := by omega
  have hr0 : 0 ≤ i' % 64 := by omega
  have hr1 : i' % 64 < 64 := by omega
  have hr2 : 0 ≤ 63 - i' % 64 := by omega
  clear h1 h2 h3 h f0 hxx hm
  go_enter Tryz.func145, Tryz.ntmps145
  go_wp2_with (first | (go_at_call 126; refine (bitsLen_any H.out).mono ?_; rintro e w' ⟨rfl, rfl⟩))
  go_loop [6, 7] (fun x k => PrevRel on ws.length m x k) (fun _ k => (intOf k).toNat + 1)
  case atStart =>
    have h := HS.out
    have e := HI.out
    rw [show m / 64 = (i' / 64).toNat by omega, hxx'.out, ← low_eq, show 63 - m % 64 = (63 - i' % 64).toNat by omega, show (((i' / 64).toNat : Nat) : Int) = i' / 64 by omega] at h
    exact h
  case round =>
    obtain ⟨v, k, rfl, rfl, hk, hk2, hv, hbit, hbelow⟩ := hrel
    have HB := hid hbit
    have HW := hid hbelow
    clear hbit hbelow HS
    by_cases hz : v = 0
    · subst hz
      have none_here : ∀ j, 64 * k ≤ j → j ≤ m → on j = false := by
        intro j h1 h2
        rcases Nat.lt_or_ge j (64 * (k + 1)) with g | g
        · have := HB.out (j - 64 * k) (by omega)
          rw [Nat.zero_testBit, show 64 * k + (j - 64 * k) = j by omega] at this
          rw [decide_eq_true (by omega), Bool.true_and] at this
          exact this.symm
        · exact HW.out j g h2
      have HN := hid none_here
      clear none_here
      cases k with
      | zero =>
        go_wp2
        go_ret
        refine ⟨?_, rfl⟩
        rw [prv_none (fun j h1 h2 => HN.out j (by omega) (by have := HI.out; omega))]
        rfl
      | succ K =>
        have hKl : K < ws.length := by omega
        have hcell := HC.out K hKl
        have hxs := hid (H3.out.lt K)
        have hbs := hid (fun j (hj : j < 64) => show (ws.getD K 0).testBit j = (decide (64 * K + j ≤ m) && on (64 * K + j)) by
          rw [H3.out.bit, bitAt, show (64 * K + j) / 64 = K by omega, show (64 * K + j) % 64 = j by omega, decide_eq_true (by omega), Bool.true_and])
        generalize ws.getD K 0 = y at *
        go_wp2
        go_round
        case rel => exact ⟨y, K, rfl, by go_num, hKl, by omega, hxs.out, hbs.out, fun j h1 h2 => HN.out j (by omega) h2⟩
        case measure => simp [intOf]
    · obtain ⟨z0, z1, z2, z3⟩ := bitLen_spec v hz hv
      have Z2 := hid z2
      have Z3 := hid z3
      have hz0 : ((v : Int) == 0) = false := by simp; omega
      have hz1 : ((v : Int) != 0) = true := by simp; omega
      have hlz := fun w' => len64_any v hv w'
      have HL := hid hlz
      clear z2 z3 hv hz hc hlz
      generalize Lib.bitLen v = q at *
      obtain ⟨r, rfl⟩ : ∃ r, q = r + 1 := ⟨q - 1, by omega⟩
      go_wp2_with (first | (go_at_call 151; refine (HL.out _).mono ?_; rintro e w' ⟨rfl, rfl⟩))
      go_ret
      refine ⟨?_, rfl⟩
      have hb1 := HB.out r (by omega)
      rw [show r + 1 - 1 = r by omega] at Z2
      rw [Z2.out] at hb1
      have hb4 := hb1.symm
      rw [Bool.and_eq_true] at hb4
      have hb2 := hb4.2
      have hb3 := of_decide_eq_true hb4.1
      have e := HI.out
      rw [prv_some (64 * k + r) (by omega) (by omega) hb2 (fun j h1 h2 _ => ?_)]
      · show Ending.returned (.int .i64 _) = _
        congr 2
        omega
      · rcases Nat.lt_or_ge j (64 * (k + 1)) with g | g
        · have h5 := HB.out (j - 64 * k) (by omega)
          rw [Z3.out _ (by omega), show 64 * k + (j - 64 * k) = j by omega, decide_eq_true (by omega), Bool.true_and] at h5
          exact h5.symm
        · exact HW.out j g (by omega)
theorem prv_min {on : Nat → Bool} {n : Nat} {i : Int} : prv on n (min i ((n : Int) - 1)) = prv on n i := by
  unfold prv
  congr 1
  omega
theorem bitsPrev_any {b c n : Nat} {on : Nat → Bool} {w : World} (h : BitsR w b c n on) (i : Int) :
    Calls Tryz.prog 145 #[.pointer (some ⟨b, 0, none⟩), .int .i64 i] w fun e w' => e = .returned (.int .i64 (prv on n i)) ∧ w = w' := by
  by_cases hi : i < 0
  · refine (bitsPrev_neg h i hi).mono ?_
    rintro e w' ⟨rfl, rfl⟩
    rw [prv_none (fun j h1 h2 => by omega)]
    exact ⟨rfl, rfl⟩
  · have := bitsPrev_in h i _ (by omega) rfl
    rwa [prv_min] at this
theorem gapsPrev_any {f : SF} {σ : List (Option Int)} {w : World} (h : SlotsR w f σ) (i : Int) :
    Calls Tryz.prog 124 #[.pointer (some ⟨f.s, 0, none⟩), .int .i64 i] w fun e w' => e = .returned (.int .i64 (prv (onOf σ) σ.length i)) ∧ w = w' := by
  have HB := hid (bitsPrev_any h.bits i)
  obtain ⟨ex, h1, h2⟩ := h.row
  obtain ⟨c0, c1, f0⟩ := h1.two
  generalize prv (onOf σ) σ.length i = q at *
  clear h2 h
  go_enter Tryz.func124, Tryz.ntmps124
  go_wp2_with (first | (go_at_call 145; refine HB.out.mono ?_; rintro e w' ⟨rfl, rfl⟩))
  go_ret
  exact ⟨rfl, rfl⟩
end Go.Proofs.YtmbkmojekpkfhaaGreatDoor
