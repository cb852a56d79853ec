/- How many bits are set ahead of one; Count. -/
import Derived.Test.YtonoaklajnfmiaaDoorB2
set_option linter.unusedVariables false
set_option linter.unusedSimpArgs false
namespace Go.Proofs.YtonoaklajnfmiaaDoor
open Go.RowKit

set_option maxHeartbeats 1000000 in
theorem bitsAhead_any {b c n : Nat} {on : Nat → Bool} {w : World} (h : BitsR w b c n on) (to : Int) (h0 : 0 ≤ to) (hto : to ≤ n) :
    Calls Tryd.prog 78 #[.pointer (some ⟨b, 0, none⟩), .int .i64 to] w fun e w' => e = .returned (.int .i64 (cntOn on to.toNat : Nat)) ∧ w = w' := by
  have n2 := h.n2
  obtain ⟨ws, ex, h1, h2, h3⟩ := h.row
  obtain ⟨c0, c1, f0⟩ := h1.two
  have H3 := hid h3
  have HC := hid (fun k hk => (h2.cell k).trans (words_get ws ex k hk))
  have hlen := h3.len
  have hlen : ws.length ≤ 1024 := by omega
  have hlw : to / 64 ≤ ws.length := by rw [h3.len]; omega
  have HL := hid h3.len
  clear h1 h2 h3 h f0
  go_enter Tryd.func78, Tryd.ntmps78
  go_wp2_with fail
  go_loop [5, 6, 10] (fun s x i => ∃ k : Nat, k ≤ to / 64 ∧ i = .int .i64 k ∧ s = .int .i64 (cntOn on (64 * k) : Nat)) (fun _ _ i => (to / 64 - intOf i).toNat)
  case atStart => exact ⟨0, by omega, rfl, rfl⟩
  case round =>
    obtain ⟨k, hk, rfl, rfl⟩ := hrel
    have hcl := cntOn_le on (64 * k)
    by_cases hlt : (k : Int) < to / 64
    · have hcell := HC.out k (by omega)
      have hones := fun w' => ones64_any (ws.getD k 0) (H3.out.lt k) w'
      have hc64 := Pop.cnt_le (ws.getD k 0) 64
      have hstep := cntOn_word on (64 * k) (ws.getD k 0) 64 (fun j hj => by rw [H3.out.bit, bitAt, show (64 * k + j) / 64 = k by omega, show (64 * k + j) % 64 = j by omega])
      have HS := hid hstep
      clear hstep
      generalize ws.getD k 0 = y at *
      have hcc : 0 ≤ ((Pop.cnt y 64 : Nat) : Int) := by omega
      generalize hp : Pop.cnt y 64 = p at *
      have HP := hid hp
      clear hp
      generalize hz : cntOn on (64 * k) = z at *
      have HZ := hid hz
      clear hz
      have hones' := fun w' => (hones w')
      clear hones
      go_wp2_with (first | (go_at_call 70; refine (hones' _).mono ?_; rintro e w' ⟨rfl, rfl⟩))
      go_round
      case rel => exact ⟨k + 1, by omega, by go_num, by rw [show 64 * (k + 1) = 64 * k + 64 by omega, HS.out]; go_num⟩
      case measure => simp [intOf]; omega
    · have hkk : to / 64 = k := by omega
      have hkn : k = to.toNat / 64 := by omega
      have HKK := hid hkk
      have HKN := hid hkn
      have hr0 : 0 ≤ to % 64 := by omega
      have hr1 : to % 64 < 64 := by omega
      clear hkk hkn
      by_cases hleft : to % 64 = 0
      · have hl0 : ((to % 64 : Int) == 0) = true := by simp; omega
        have HE := hid hleft
        have hle : to % 64 ≤ 0 := by omega
        clear hl0 hleft
        generalize hz : cntOn on (64 * k) = z at *
        have HZ := hid hz
        clear hz
        go_wp2_with fail
        go_ret
        refine ⟨?_, rfl⟩
        have := HKN.out
        have := HE.out
        rw [show to.toNat = 64 * k by omega, HZ.out]
        rfl
      · have hgt : 0 < to % 64 := by omega
        clear hleft
        have hkl : k < ws.length := by have := HL.out; have := HKK.out; omega
        have hcell := HC.out k hkl
        rw [show k = (to / 64).toNat by have := HKK.out; omega] at hcell
        have hkl2 : to / 64 < ws.length := by have := HKK.out; omega
        have hv := H3.out.lt (to / 64).toNat
        have hstep := cntOn_word on (64 * k) (ws.getD (to / 64).toNat 0) (to % 64).toNat (fun j hj => by have := HKK.out; rw [H3.out.bit, bitAt, show (64 * k + j) / 64 = (to / 64).toNat by omega, show (64 * k + j) % 64 = j by omega])
        rw [show 64 * k + (to % 64).toNat = to.toNat by have := HKK.out; omega, ← low_cnt _ _ (by omega)] at hstep
        have HS := hid hstep
        have hcb := cntOn_le on to.toNat
        have hcb2 : cntOn on to.toNat ≤ 65536 := by omega
        clear hstep hcb
        generalize ws.getD (to / 64).toNat 0 = y at *
        have hsh : ∀ w', Calls Tryd.prog 70 #[.int .u64 (IntKind.u64.wrap ((y : Int) * 2 ^ (64 - to % 64).toNat))] w' fun e w'' => e = .returned (.int .i64 (Pop.cnt (y * 2 ^ (64 - (to % 64).toNat) % 18446744073709551616) 64 : Nat)) ∧ w' = w'' := by
          intro w'
          rw [shl_eq, show (64 - to % 64).toNat = 64 - (to % 64).toNat by omega]
          exact ones64_any _ (Nat.mod_lt _ (by omega)) w'
        have hq := Pop.cnt_le (y * 2 ^ (64 - (to % 64).toNat) % 18446744073709551616) 64
        generalize Pop.cnt (y * 2 ^ (64 - (to % 64).toNat) % 18446744073709551616) 64 = p at *
        generalize cntOn on (64 * k) = z at *
        have hz : 0 ≤ (z : Int) := by omega
        have hp : 0 ≤ (p : Int) := by omega
        have hs0 : 0 ≤ 64 - to % 64 := by omega
        have hs1 : 64 - to % 64 < 64 := by omega
        have HSH := hid hsh
        clear hsh
        go_wp2_with (first | (go_at_call 70; refine (HSH.out _).mono ?_; rintro e w' ⟨rfl, rfl⟩))
        go_ret
        refine ⟨?_, rfl⟩
        rw [HS.out]
        rfl

set_option maxHeartbeats 400000 in
theorem bitsCount_any {b c n : Nat} {on : Nat → Bool} {w : World} (h : BitsR w b c n on) :
    Calls Tryd.prog 64 #[.pointer (some ⟨b, 0, none⟩)] w fun e w' => e = .returned (.int .i64 (cntOn on n : Nat)) ∧ w = w' := by
  have H := hid h
  clear h
  go_enter Tryd.func64, Tryd.ntmps64
  go_wp2_with (first | (go_at_call 68; refine (bitsLen_any H.out).mono ?_; rintro e w' ⟨rfl, rfl⟩) | (go_at_call 78; refine (bitsAhead_any H.out _ (by omega) (by omega)).mono ?_; rintro e w' ⟨rfl, rfl⟩))
  go_ret
  exact ⟨rfl, rfl⟩
end Go.Proofs.YtonoaklajnfmiaaDoor
