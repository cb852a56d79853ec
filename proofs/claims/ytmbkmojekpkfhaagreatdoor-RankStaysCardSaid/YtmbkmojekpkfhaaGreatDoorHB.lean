/- rank: Select, Between, Quantile, Median, Of. -/
import Derived.Test.YtmbkmojekpkfhaaGreatDoorHA
import Derived.WalkMore
import Derived.ScopeJumps
set_option linter.unusedVariables false
set_option linter.unusedSimpArgs false
namespace Go.Proofs.YtmbkmojekpkfhaaGreatDoor
open Go.RowKit

attribute [local go_sem] max_two
section
variable {w w' : World} {X : IxF} {σ : List (Option Int)} {h : Nat}
theorem its_getD {σ : List (Option Int)} {p n : Nat} {x : Int} (h : σ.getD p none = some x) (hc : cntOn (onOf σ) p = n) : (its σ).getD n 0 = x := by
  have := its_get σ p x h
  rw [hc] at this
  rw [List.getD_eq_getElem?_getD, this]
  rfl
set_option maxRecDepth 100000 in
set_option maxHeartbeats 2000000 in
theorem rankSelect_ok (H : IxR w X σ h) (N : Nat) (hN : N < (its σ).length) : Calls Tryz.prog 29 #[.pointer (some ⟨X.x, 0, none⟩), .int .i64 N] w fun e w' => e = .returned (.tuple #[.int .i64 ((its σ).getD N 0), .int .i64 0]) ∧ w = w' := by
  have hz := p2_le H.h9
  have hz0 : 0 < 2 ^ h := Nat.pow_pos (by omega)
  have hp := preI_cnts σ (2 ^ h) H.len
  have hmx := H.sl.bits.n2
  rw [its_length] at hN
  have HF := hid (treeFind_ok H.tr (N : Int) (by omega) (by rw [hp (2 ^ h) (Nat.le_refl _), ← H.len]; omega))
  have HPre := hid hp
  have HNx := hid (fun (i : Int) (h0 : 0 ≤ i) => gapsNext_any H.sl i h0)
  have HAt := hid (fun (q : Int) => gapsAt_any H.sl q)
  have HL := hid H.len
  have HTot := hid hN
  have r0 := H.c.cell 0
  have r1 := H.c.cell 1
  clear H hp
  obtain ⟨L, hL⟩ : ∃ L, σ.length = L := ⟨_, rfl⟩
  rw [hL] at HNx hmx hN HTot HL
  have hN2 := cntOn_le (onOf σ) L
  clear hL
  have HFs := hid (HF.out.mono (fun e w' hh => show ∃ (s j : Nat), e = .returned (.tuple #[.int .i64 s, .int .i64 j, .int .i64 0]) ∧ w = w' ∧ Hid (s < 2 ^ h ∧ cntOn (onOf σ) (8 * s) + j = N ∧ N < cntOn (onOf σ) (8 * (s + 1))) from by
    obtain ⟨s, he, hw, h1, h2, h3⟩ := hh
    rw [HPre.out s (by omega)] at he h2
    rw [HPre.out (s + 1) (by omega)] at h3
    refine ⟨s, N - cntOn (onOf σ) (8 * s), ?_, hw, hid ⟨h1, by omega, by omega⟩⟩
    rw [he, show ((N - cntOn (onOf σ) (8 * s) : Nat) : Int) = (N : Int) - (cntOn (onOf σ) (8 * s) : Nat) by omega]))
  clear HF
  go_enter Tryz.func29, Tryz.ntmps29
  go_wp2_with fail
  go_step3
  go_wp2_with (first
    | (go_at_call 75; refine HFs.out.mono ?_; rintro e w1 ⟨s, jj, rfl, rfl, HS⟩; have hs5 : (s : Int) < 512 := by have := HS.out.1; omega)
    | (go_at_call 76; refine (HNx.out (8 * (s : Int)) (by omega)).mono ?_; rintro e w1 ⟨rfl, rfl⟩))
  go_step3
  go_wp2_with (go_at_call 76; refine (HNx.out ((s : Int) * 8) (by omega)).mono ?_; rintro e w1 ⟨rfl, rfl⟩)
  have hj9 : jj ≤ 4096 * 16 := by have := HS.out.2.1; omega
  go_loopw [7, 9] (fun kk sl wr => ∃ (r p : Nat), r ≤ jj ∧ kk = .int .i64 r ∧ sl = .int .i64 p ∧ p < L ∧ w = wr ∧ Hid (onOf σ p = true ∧ cntOn (onOf σ) p + r = cntOn (onOf σ) (8 * s) + jj)) (fun kk _ _ => (intOf kk).toNat)
  case atStart =>
    have e8 : (s : Int) * 8 = 8 * (s : Int) := by omega
    rw [e8]
    rcases nxt_cases (onOf σ) L (8 * (s : Int)) with ⟨_, hno⟩ | ⟨r, hr, q1, q2, q3, q4⟩
    · exfalso
      have := cntOn_gap (onOf σ) (8 * s) (L - 8 * s) (fun k k1 k2 => hno k (by omega) (by omega))
      have hs8 : 8 * s + (L - 8 * s) = L := by have := HS.out.1; have := HL.out; omega
      rw [hs8] at this
      have h1 := HTot.out
      have h2 := HS.out.2.1
      omega
    · exact ⟨jj, r, Nat.le_refl _, rfl, by rw [hr], q2, rfl, hid ⟨q3, by rw [nxt_rank (show 8 * s ≤ r by omega) (fun j j1 j2 => q4 j (by omega) j2)]⟩⟩
  case round =>
    obtain ⟨r, p, hr, rfl, rfl, hpL, rfl, HR⟩ := hrel
    by_cases hr0 : r = 0
    · subst hr0
      obtain ⟨x, hx⟩ := onOf_true HR.out.1
      have hat := HAt.out (p : Int)
      rw [(at_some hx).1, (at_some hx).2] at hat
      have HAp := hid hat
      have HX := hid hx
      clear hx hat
      go_wp2_with (go_at_call 77; refine HAp.out.mono ?_; rintro e w1 ⟨rfl, rfl⟩)
      (try rw [Exit.noGoto_ret])
      go_ret2
      exact ⟨by rw [its_getD HX.out (show cntOn (onOf σ) p = N by have := HR.out.2; have := HS.out.2.1; omega)]; rfl, rfl⟩
    · have hrI : ((r : Int) == 0) = false := by rw [beq_eq_false_iff_ne]; omega
      have hn1 := HNx.out ((p : Int) + 1) (by omega)
      have hex : ∃ q : Nat, nxt (onOf σ) L ((p : Int) + 1) = q ∧ q < L ∧ onOf σ q = true ∧ cntOn (onOf σ) q + (r - 1) = cntOn (onOf σ) (8 * s) + jj := by
        have hp1 := cntOn_on _ _ HR.out.1
        rcases nxt_cases (onOf σ) L ((p : Int) + 1) with ⟨_, hno⟩ | ⟨q, hq, q1, q2, q3, q4⟩
        · exfalso
          have := cntOn_gap (onOf σ) (p + 1) (L - (p + 1)) (fun k k1 k2 => hno k (by omega) (by omega))
          rw [show p + 1 + (L - (p + 1)) = L by omega] at this
          have h1 := HTot.out
          have h2 := HS.out.2.1
          have h3 := HR.out.2
          omega
        · exact ⟨q, hq, q2, q3, by rw [nxt_rank (show p + 1 ≤ q by omega) (fun j j1 j2 => q4 j (by omega) j2), hp1]; have := HR.out.2; omega⟩
      obtain ⟨q, hq, q2, q3, q4⟩ := hex
      rw [hq] at hn1
      have HN1 := hid hn1
      have HQ := hid (And.intro q3 q4)
      have hnz : (r : Int) ≠ 0 := by omega
      have hw1 : IntKind.i64.wrap ((r : Int) - 1) = ((r - 1 : Nat) : Int) := by rw [show ((r - 1 : Nat) : Int) = (r : Int) - 1 by omega]; exact IntWalk.i64_in _ (by omega)
      have HR0 := hid (And.intro hr hr0)
      clear hn1 hq q3 q4 hr hr0
      go_wp2_with (go_at_call 76; refine HN1.out.mono ?_; rintro e w1 ⟨rfl, rfl⟩)
      exact ⟨⟨r - 1, q, by have := HR0.out; omega, rfl, rfl, q2, trivial, HQ⟩, by have := HR0.out; simp [intOf]; omega⟩
theorem rankSelect_none (H : IxR w X σ h) (N : Int) (hN : N < 0 ∨ ((its σ).length : Int) ≤ N) : Calls Tryz.prog 29 #[.pointer (some ⟨X.x, 0, none⟩), .int .i64 N] w fun e w' => e = .returned (.tuple #[.int .i64 0, .int .i64 14]) ∧ w = w' := by
  have HF := hid (treeFind_none H.tr N (by rw [H.total]; exact hN))
  have r0 := H.c.cell 0
  have r1 := H.c.cell 1
  clear H hN
  go_enter Tryz.func29, Tryz.ntmps29
  go_wp2_with fail
  go_step3
  go_wp2_with (go_at_call 75; refine HF.out.mono ?_; rintro e w1 ⟨rfl, rfl⟩)
  (try rw [Exit.noGoto_ret])
  go_ret2
  exact ⟨rfl, rfl⟩
theorem rankSelect_nil (N : Int) (w : World) : Calls Tryz.prog 29 #[.pointer none, .int .i64 N] w fun e w' => e = .returned (.tuple #[.int .i64 0, .int .i64 2]) ∧ w = w' := by
  go_enter Tryz.func29, Tryz.ntmps29
  go_wp2_with fail
  go_step3
  go_wp2_with fail
  (try rw [Exit.noGoto_ret])
  go_ret2
  exact ⟨rfl, rfl⟩
/-- How many lie between two. -/
def btwK (ks : List Int) (lo hi : Int) : Int := if (lessC ks lo : Int) ≤ (lessC ks hi : Int) then (lessC ks hi : Int) - (lessC ks lo : Int) else 0
theorem btwK_max (ks : List Int) (lo hi : Int) : btwK ks lo hi = max ((lessC ks hi : Int) - (lessC ks lo : Int)) 0 := by unfold btwK; split <;> omega
theorem rankBetween_any (H : IxR w X σ h) (lo hi : Int) : Calls Tryz.prog 33 #[.pointer (some ⟨X.x, 0, none⟩), .int .i64 lo, .int .i64 hi] w fun e w' => e = .returned (.int .i64 (btwK (its σ) lo hi)) ∧ Fr Nil1 w w' := by
  have HR := hid (fun key w' (hf : Fr Nil1 w w') => rankRank_any (H.new hf) key)
  have h1 := lessC_le (its σ) lo
  have h2 := lessC_le (its σ) hi
  have h3 := H.few
  rw [btwK_max]
  clear H
  have hb : (lessC (its σ) lo : Int) ≤ 4096 := by omega
  have hb2 : (lessC (its σ) hi : Int) ≤ 4096 := by omega
  clear h1 h2 h3
  obtain ⟨a, ha⟩ : ∃ a : Int, ((lessC (its σ) lo : Nat) : Int) = a := ⟨_, rfl⟩
  obtain ⟨b, hbb⟩ : ∃ b : Int, ((lessC (its σ) hi : Nat) : Int) = b := ⟨_, rfl⟩
  have a0 : 0 ≤ a := by omega
  have b0 : 0 ≤ b := by omega
  have HA := hid (fun w' hf => ha ▸ HR.out lo w' hf)
  have HB := hid (fun w' hf => hbb ▸ HR.out hi w' hf)
  rw [ha, hbb]
  rw [ha] at hb
  rw [hbb] at hb2
  clear ha hbb HR
  go_enter Tryz.func33, Tryz.ntmps33
  go_wp2_with (first
    | (go_at_call 32; (with_reducible refine (HA.out w1 H1.out).mono ?_); rintro e w2 ⟨rfl, h2⟩; have H2 := hid h2; clear h2)
    | (go_at_call 32; (with_reducible refine (HB.out w (Fr.refl _ _)).mono ?_); rintro e w1 ⟨rfl, h1⟩; have H1 := hid h1; clear h1))
  go_ret
  exact ⟨rfl, H1.out.trans H2.out⟩
theorem rankBetween_nil (lo hi : Int) (w : World) : Calls Tryz.prog 33 #[.pointer none, .int .i64 lo, .int .i64 hi] w fun e w' => e = .returned (.int .i64 0) ∧ w = w' := by
  have HR := hid (fun key w' => rankRank_nil key w')
  go_enter Tryz.func33, Tryz.ntmps33
  go_wp2_with (go_at_call 32; refine (HR.out _ _).mono ?_; rintro e w1 ⟨rfl, rfl⟩)
  go_ret
  exact ⟨rfl, rfl⟩
/-- Which arguments of a quantile may not be. -/
def quanBad (n parts : Int) : Prop := parts < 1 ∨ 1000000 < parts ∨ n < 0 ∨ parts < n
/-- Which key a quantile is. -/
def quanI (len : Nat) (n parts : Int) : Nat := (n * ((len : Int) - 1) / parts).toNat
theorem quanI_lt {len : Nat} {n parts : Int} (h : ¬ quanBad n parts) (hl : 0 < len) : quanI len n parts < len ∧ ((quanI len n parts : Nat) : Int) = n * ((len : Int) - 1) / parts := by
  unfold quanBad at h
  have hp : 0 < parts := by omega
  have h0 : 0 ≤ n * ((len : Int) - 1) := Int.mul_nonneg (by omega) (by omega)
  have h1 : n * ((len : Int) - 1) ≤ parts * ((len : Int) - 1) := Int.mul_le_mul_of_nonneg_right (by omega) (by omega)
  have h2 : n * ((len : Int) - 1) / parts ≤ (len : Int) - 1 := by
    have := Int.ediv_le_ediv hp h1
    rwa [Int.mul_ediv_cancel_left _ (by omega)] at this
  have h3 : 0 ≤ n * ((len : Int) - 1) / parts := Int.ediv_nonneg h0 (by omega)
  unfold quanI
  omega
set_option maxRecDepth 100000 in
theorem rankQuantile_bad {x : Nat} (n parts : Int) (hb : quanBad n parts) (w : World) : Calls Tryz.prog 35 #[.pointer (some ⟨x, 0, none⟩), .int .i64 n, .int .i64 parts] w fun e w' => e = .returned (.tuple #[.int .i64 0, .int .i64 1]) ∧ w = w' := by
  have hex : decide (parts < 1) = true ∨ (decide (parts < 1) = false ∧ decide (1000000 < parts) = true) ∨ (decide (parts < 1) = false ∧ decide (1000000 < parts) = false ∧ decide (n < 0) = true) ∨ (decide (parts < 1) = false ∧ decide (1000000 < parts) = false ∧ decide (n < 0) = false ∧ decide (parts < n) = true) := by
    unfold quanBad at hb
    by_cases h1 : parts < 1
    · exact .inl (decide_eq_true h1)
    by_cases h2 : 1000000 < parts
    · exact .inr (.inl ⟨decide_eq_false h1, decide_eq_true h2⟩)
    by_cases h3 : n < 0
    · exact .inr (.inr (.inl ⟨decide_eq_false h1, decide_eq_false h2, decide_eq_true h3⟩))
    · exact .inr (.inr (.inr ⟨decide_eq_false h1, decide_eq_false h2, decide_eq_false h3, decide_eq_true (by omega)⟩))
  clear hb
  rcases hex with d1 | ⟨d1, d2⟩ | ⟨d1, d2, d3⟩ | ⟨d1, d2, d3, d4⟩
  all_goals (
    go_enter Tryz.func35, Tryz.ntmps35
    go_wp2_with fail
    go_ret2
    exact ⟨rfl, rfl⟩)
theorem rankQuantile_nil (n parts : Int) (w : World) : Calls Tryz.prog 35 #[.pointer none, .int .i64 n, .int .i64 parts] w fun e w' => e = .returned (.tuple #[.int .i64 0, .int .i64 2]) ∧ w = w' := by
  go_enter Tryz.func35, Tryz.ntmps35
  go_wp2_with fail
  go_ret2
  exact ⟨rfl, rfl⟩
theorem notBad {n parts : Int} (h : ¬ quanBad n parts) : decide (parts < 1) = false ∧ decide (1000000 < parts) = false ∧ decide (n < 0) = false ∧ decide (parts < n) = false := by
  unfold quanBad at h
  exact ⟨decide_eq_false (by omega), decide_eq_false (by omega), decide_eq_false (by omega), decide_eq_false (by omega)⟩
set_option maxRecDepth 100000 in
theorem rankQuantile_none (H : IxR w X σ h) (n parts : Int) (hb : ¬ quanBad n parts) (he : its σ = []) : Calls Tryz.prog 35 #[.pointer (some ⟨X.x, 0, none⟩), .int .i64 n, .int .i64 parts] w fun e w' => e = .returned (.tuple #[.int .i64 0, .int .i64 14]) ∧ w = w' := by
  obtain ⟨d1, d2, d3, d4⟩ := notBad hb
  have HT := hid (treeTotal_ok H.tr)
  rw [H.total, he] at HT
  have r0 := H.c.cell 0
  have r1 := H.c.cell 1
  clear H hb he
  go_enter Tryz.func35, Tryz.ntmps35
  go_wp2_with (go_at_call 79; refine HT.out.mono ?_; rintro e w1 ⟨rfl, rfl⟩)
  go_ret2
  exact ⟨rfl, rfl⟩
set_option maxRecDepth 100000 in
theorem rankQuantile_ok (H : IxR w X σ h) (n parts : Int) (hb : ¬ quanBad n parts) (he : 0 < (its σ).length) : Calls Tryz.prog 35 #[.pointer (some ⟨X.x, 0, none⟩), .int .i64 n, .int .i64 parts] w fun e w' => e = .returned (.tuple #[.int .i64 ((its σ).getD (quanI (its σ).length n parts) 0), .int .i64 0]) ∧ w = w' := by
  obtain ⟨d1, d2, d3, d4⟩ := notBad hb
  obtain ⟨q1, q2⟩ := quanI_lt hb he
  have HT := hid (treeTotal_ok H.tr)
  rw [H.total] at HT
  have HS := hid (rankSelect_ok H _ q1)
  rw [q2] at HS
  have hfw := H.few
  unfold quanBad at hb
  have h0 : 0 ≤ n * (((its σ).length : Int) - 1) := Int.mul_nonneg (by omega) (by omega)
  have h1 : n * (((its σ).length : Int) - 1) ≤ 1000000 * 4096 := Int.mul_le_mul (by omega) (by omega) (by omega) (by omega)
  have r0 := H.c.cell 0
  have r1 := H.c.cell 1
  have hpar : 0 < parts := by omega
  have hpz : parts ≠ 0 := by omega
  generalize quanI (its σ).length n parts = qq at *
  generalize (its σ).getD qq 0 = res at *
  obtain ⟨L, hL⟩ : ∃ L : Int, ((its σ).length : Int) = L := ⟨_, rfl⟩
  rw [hL] at HT HS h0 h1
  have hL1 : 1 ≤ L := by omega
  have hL2 : L ≤ 4096 := by omega
  have hLz : (L == 0) = false := by rw [beq_eq_false_iff_ne]; omega
  have e1 : IntKind.i64.wrap (L - 1) = L - 1 := IntWalk.i64_in _ (by omega)
  have e2 : IntKind.i64.wrap (n * (L - 1)) = n * (L - 1) := IntWalk.i64_in _ (by omega)
  have hdv : Int.tdiv (n * (L - 1)) parts = n * (L - 1) / parts := Int.tdiv_eq_ediv_of_nonneg h0
  have hd0 : 0 ≤ n * (L - 1) / parts := Int.ediv_nonneg h0 (by omega)
  have hd1 : n * (L - 1) / parts ≤ 1000000 * 4096 := Int.le_trans (Int.ediv_le_self _ h0) h1
  have e3 : IntKind.i64.wrap (n * (L - 1) / parts) = n * (L - 1) / parts := IntWalk.i64_in _ (by omega)
  clear H hb he q1 q2 hfw hL
  go_enter Tryz.func35, Tryz.ntmps35
  go_wp2_with (first
    | (go_at_call 79; refine HT.out.mono ?_; rintro e w1 ⟨rfl, rfl⟩)
    | (go_at_call 29; refine HS.out.mono ?_; rintro e w1 ⟨rfl, rfl⟩))
  go_ret2
  exact ⟨rfl, rfl⟩
end
end Go.Proofs.YtmbkmojekpkfhaaGreatDoor
