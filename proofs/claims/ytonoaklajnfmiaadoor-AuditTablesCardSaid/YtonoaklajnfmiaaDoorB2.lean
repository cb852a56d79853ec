/- The library's OnesCount64 and TrailingZeros64; the first bit from one on. -/
import Derived.Test.YtonoaklajnfmiaaDoorB1
set_option linter.unusedVariables false
set_option linter.unusedSimpArgs false
namespace Go.Proofs.YtonoaklajnfmiaaDoor
open Go.RowKit

set_option maxHeartbeats 400000 in
theorem ones64_any (v : Nat) (hv : v < 18446744073709551616) (w : World) :
    Calls Tryd.prog 70 #[.int .u64 (v : Int)] w fun e w' => e = .returned (.int .i64 (Pop.cnt v 64 : Nat)) ∧ w = w' := by
  have H := hid (ones_eq v hv)
  clear hv
  go_enter Tryd.func70, Tryd.ntmps70
  go_wp2
  go_ret
  refine ⟨?_, rfl⟩
  rw [← H.out]
  rfl

theorem tz64_any0 (w : World) : Calls Tryd.prog 72 #[.int .u64 0] w fun e w' => e = .returned (.int .i64 64) ∧ w = w' := by
  go_enter Tryd.func72, Tryd.ntmps72
  go_wp2
  go_ret
  exact ⟨rfl, rfl⟩
set_option maxHeartbeats 400000 in
theorem tz64_core (x k idx : Nat) (w : World) (hx0 : ((x : Int) == 0) = false)
    (key : IntKind.u64.wrap (bits BinOp.and IntKind.u64 (x : Int) (IntKind.u64.wrap (-(x : Int))) * 285870213051353865) / 288230376151711744 = (idx : Int))
    (hi : idx < 64) (hk : k < 64) (hcell : w.cell? ⟨0, idx, none⟩ = some (.int .u8 k)) :
    Calls Tryd.prog 72 #[.int .u64 x] w fun e w' => e = .returned (.int .i64 k) ∧ w = w' := by
  go_enter Tryd.func72, Tryd.ntmps72
  go_wp2
  go_ret
  exact ⟨rfl, rfl⟩
/-- The library's TrailingZeros64. -/
theorem tz64_any (x : Nat) (hx : x < 18446744073709551616) (h0 : x ≠ 0) (w : World) (hT : Tab w) :
    Calls Tryd.prog 72 #[.int .u64 (x : Int)] w fun e w' => e = .returned (.int .i64 (Lib.ctz 64 x)) ∧ w = w' := by
  obtain ⟨hlow, hk⟩ := Lib.lowest_bit 64 x h0 hx
  obtain ⟨hi, htab⟩ := Lib.deBruijn64_at _ hk
  have hcell := hT _ hi
  rw [htab] at hcell
  exact tz64_core x _ _ w (by simp; omega) (Go.Proofs.tz64_key x _ hx h0 hlow) hi hk hcell

set_option maxHeartbeats 400000 in
theorem bitsNext_neg {b c n : Nat} {on : Nat → Bool} {w : World} (h : BitsR w b c n on) (i : Int) (hi : (n : Int) ≤ i) :
    Calls Tryd.prog 59 #[.pointer (some ⟨b, 0, none⟩), .int .i64 i] w fun e w' => e = .returned (.int .i64 (-1)) ∧ w = w' := by
  have H := hid h
  have n1 := h.n1
  clear h
  go_enter Tryd.func59, Tryd.ntmps59
  go_wp2_with (first | (go_at_call 68; refine (bitsLen_any H.out).mono ?_; rintro e w' ⟨rfl, rfl⟩))
  go_ret
  exact ⟨rfl, rfl⟩

/-- In the loop of Next: the word that is held has the bits of word k from i on; ahead of word k there is none. -/
def NextRel (on : Nat → Bool) (len : Nat) (i : Nat) (x k : Value) : Prop :=
  ∃ (v kk : Nat), x = .int .u64 v ∧ k = .int .i64 kk ∧ kk < len ∧ i / 64 ≤ kk ∧ v < 18446744073709551616 ∧ (∀ j, j < 64 → v.testBit j = (decide (i ≤ 64 * kk + j) && on (64 * kk + j))) ∧ ∀ j, i ≤ j → j < 64 * kk → on j = false


theorem nextRel_start {on : Nat → Bool} {ws : List Nat} {n : Nat} (h3 : WOK ws n on) (m : Nat) (hmn : m < n) (hl : m / 64 < ws.length) :
    NextRel on ws.length m (.int .u64 ((ws.getD (m / 64) 0 / 2 ^ (m % 64) * 2 ^ (m % 64) % 18446744073709551616 : Nat) : Int)) (.int .i64 ((m / 64 : Nat) : Int)) := by
  refine ⟨_, m / 64, rfl, rfl, hl, Nat.le_refl _, Nat.mod_lt _ (by omega), fun j hj => ?_, fun j h1 h2 => by omega⟩
  rw [high_bits _ _ _ (by omega) hj, h3.bit, bitAt, show (64 * (m / 64) + j) / 64 = m / 64 by omega, show (64 * (m / 64) + j) % 64 = j by omega]
  congr 1
  rw [decide_eq_decide]
  omega

set_option maxHeartbeats 1000000 in
theorem bitsNext_in {b c n : Nat} {on : Nat → Bool} {w : World} (h : BitsR w b c n on) (m : Nat) (i : Int) (hi : i = m) (hmn : i < n) :
    Calls Tryd.prog 59 #[.pointer (some ⟨b, 0, none⟩), .int .i64 i] w fun e w' => e = .returned (.int .i64 (nxt on n i)) ∧ w = w' := by
  have H := hid h
  have n1 := h.n1
  have n2 := h.n2
  have ht := hid h.g.tab
  obtain ⟨ws, ex, h1, h2, h3⟩ := h.row
  obtain ⟨c0, c1, f0⟩ := h1.two
  have hl : m / 64 < ws.length := by rw [h3.len]; omega
  have hc := h2.cell (m / 64)
  rw [words_get ws ex _ hl] at hc
  have H3 := hid h3
  have HC := hid (fun k hk => (h2.cell k).trans (words_get ws ex k hk))
  have hlen : ws.length ≤ 1024 := by rw [h3.len]; omega
  have hl0 : i / 64 < ws.length := by omega
  have HS := hid (nextRel_start h3 m (by omega) hl)
  rw [show m / 64 = (i / 64).toNat by omega] at hc
  have HI := hid hi
  have hi0 : 0 ≤ i := by omega
  generalize hxx : ws.getD (i / 64).toNat 0 = x at *
  have hxx' := hid hxx
  have v0 : (0 : Int) ≤ x := by omega
  have hr0 : 0 ≤ i % 64 := by omega
  have hr1 : i % 64 < 64 := by omega
  clear h1 h2 h3 h f0 hi hxx
  go_enter Tryd.func59, Tryd.ntmps59
  go_wp2_with (first | (go_at_call 68; refine (bitsLen_any H.out).mono ?_; rintro e w' ⟨rfl, rfl⟩))
  go_loop [5, 6] (fun x k => NextRel on ws.length m x k) (fun _ k => ws.length - (intOf k).toNat)
  case atStart =>
    have h := HS.out
    rw [show m / 64 = (i / 64).toNat by have := HI.out; omega, hxx'.out, ← high_eq, show m % 64 = (i % 64).toNat by have := HI.out; omega, show (((i / 64).toNat : Nat) : Int) = i / 64 by omega] at h
    exact h
  case round =>
    obtain ⟨v, k, rfl, rfl, hk, hk2, hv, hbit, hbelow⟩ := hrel
    have HB := hid hbit
    have HW := hid hbelow
    clear hbit hbelow HS
    by_cases hz : v = 0
    · subst hz
      have none_here : ∀ j, i.toNat ≤ j → j < 64 * (k + 1) → on j = false := by
        intro j h1 h2
        have e := HI.out
        rcases Nat.lt_or_ge j (64 * k) with g | g
        · exact HW.out j (by omega) g
        · have := HB.out (j - 64 * k) (by omega)
          rw [Nat.zero_testBit, show 64 * k + (j - 64 * k) = j by omega] at this
          rw [decide_eq_true (by omega), Bool.true_and] at this
          exact this.symm
      have HN := hid none_here
      clear none_here
      by_cases hend : k + 1 < ws.length
      · have hcell := HC.out (k + 1) hend
        have hxs := hid (H3.out.lt (k + 1))
        have hbs := hid (fun j (hj : j < 64) => show (ws.getD (k + 1) 0).testBit j = (decide (m ≤ 64 * (k + 1) + j) && on (64 * (k + 1) + j)) by
          rw [H3.out.bit, bitAt, show (64 * (k + 1) + j) / 64 = k + 1 by omega, show (64 * (k + 1) + j) % 64 = j by omega, decide_eq_true (by omega), Bool.true_and])
        generalize ws.getD (k + 1) 0 = y at *
        go_wp2
        go_round
        case rel => exact ⟨y, k + 1, rfl, by go_num, hend, by omega, hxs.out, hbs.out, fun j h1 h2 => HN.out j (by have := HI.out; omega) h2⟩
        case measure => simp [intOf]; omega
      · have hnn : n ≤ 64 * (k + 1) := by have := H3.out.len; omega
        go_wp2
        go_ret
        refine ⟨?_, rfl⟩
        rw [nxt_none (fun j h1 h2 => HN.out j h1 (by omega))]
        rfl
    · obtain ⟨z1, z2, z3⟩ := ctz_spec v hv hz
      have Z2 := hid z2
      have Z3 := hid z3
      have hz0 : ((v : Int) == 0) = false := by simp; omega
      have hz1 : ((v : Int) != 0) = true := by simp; omega
      have hq0 : (0 : Int) ≤ (Lib.ctz 64 v : Int) := by omega
      have HV := hid hv
      have HZ := hid hz
      have htz := fun w' => tz64_any v HV.out HZ.out w'
      clear z2 z3 hv hz hc
      generalize Lib.ctz 64 v = q at *
      go_wp2_with (first | (go_at_call 72; refine (htz _ ht.out).mono ?_; rintro e w' ⟨rfl, rfl⟩))
      go_ret
      refine ⟨?_, rfl⟩
      have hb1 := HB.out q z1
      rw [Z2.out] at hb1
      have hb4 := hb1.symm
      rw [Bool.and_eq_true] at hb4
      have hb2 := hb4.2
      have hb3 := of_decide_eq_true hb4.1
      have e := HI.out
      have hr : 64 * k + q < n := by
        rcases Nat.lt_or_ge (64 * k + q) n with g | g
        · exact g
        · have := H3.out.out _ g; rw [this] at hb2; cases hb2
      rw [nxt_some (64 * k + q) (by omega) hr hb2 (fun j h1 h2 => ?_)]
      · show Ending.returned (.int .i64 _) = _
        congr 2
        omega
      · rcases Nat.lt_or_ge j (64 * k) with g | g
        · exact HW.out j (by omega) g
        · have h5 := HB.out (j - 64 * k) (by omega)
          rw [Z3.out _ (by omega), show 64 * k + (j - 64 * k) = j by omega, decide_eq_true (by omega), Bool.true_and] at h5
          exact h5.symm

theorem bitsNext_any {b c n : Nat} {on : Nat → Bool} {w : World} (h : BitsR w b c n on) (i : Int) (hi : 0 ≤ i) :
    Calls Tryd.prog 59 #[.pointer (some ⟨b, 0, none⟩), .int .i64 i] w fun e w' => e = .returned (.int .i64 (nxt on n i)) ∧ w = w' := by
  by_cases hn : i < n
  · exact bitsNext_in h i.toNat i (by omega) hn
  · refine (bitsNext_neg h i (by omega)).mono ?_
    rintro e w' ⟨rfl, rfl⟩
    rw [nxt_none (fun j h1 h2 => by omega)]
    exact ⟨rfl, rfl⟩
end Go.Proofs.YtonoaklajnfmiaaDoor
