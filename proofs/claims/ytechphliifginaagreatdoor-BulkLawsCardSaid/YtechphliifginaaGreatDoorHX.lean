/- In one: LW, LS, HA, HB, HC. -/
import Derived.Test.YtechphliifginaaGreatDoorGV
import Derived.Test.YtechphliifginaaGreatDoorGG
import Derived.Test.YtechphliifginaaGreatDoorOB
import Derived.WalkMore
import Derived.ScopeJumps
/- What Lower finds, parted; the next slot that is on. -/
set_option linter.unusedVariables false
set_option linter.unusedSimpArgs false
namespace Go.Proofs.YtechphliifginaaGreatDoor
open Go.RowKit

section
variable {σ : List (Option Int)}
theorem LowO.neg {key r : Int} (H : LowO σ key r) (hl : lessC (its σ) key = (its σ).length) : r = -1 := by
  cases H with
  | none hr _ => exact hr
  | some q x hr hq hx hc =>
    have h1 := its_get σ q x hq
    have h2 := (List.getElem?_eq_some_iff.1 h1).1
    omega
theorem LowO.pos {key r : Int} (H : LowO σ key r) (hl : lessC (its σ) key ≠ (its σ).length) : ∃ q : Nat, r = q ∧ q < σ.length ∧ cntOn (onOf σ) q = lessC (its σ) key := by
  cases H with
  | none _ h => exact absurd h hl
  | some q x hr hq hx hc => exact ⟨q, hr, getD_lt hq, hc⟩
theorem nxt_self {q : Nat} (hq : q < σ.length) (h : onOf σ q = true) : nxt (onOf σ) σ.length (q : Int) = q := by
  rcases nxt_cases (onOf σ) σ.length (q : Int) with ⟨_, hno⟩ | ⟨r, hr, h1, h2, h3, h4⟩
  · have := hno q (by omega) hq
    rw [h] at this
    cases this
  · rw [hr]
    rcases Nat.lt_or_ge q r with g | g
    · have := h4 q (by omega) g
      rw [h] at this
      cases this
    · congr 1; omega
theorem nxt_end : nxt (onOf σ) σ.length (σ.length : Int) = -1 := by
  rcases nxt_cases (onOf σ) σ.length (σ.length : Int) with ⟨h, _⟩ | ⟨r, hr, h1, h2, h3, h4⟩
  · exact h
  · omega
theorem LowO.posOn {key r : Int} (H : LowO σ key r) (hl : lessC (its σ) key ≠ (its σ).length) : ∃ q : Nat, r = q ∧ q < σ.length ∧ cntOn (onOf σ) q = lessC (its σ) key ∧ onOf σ q = true := by
  cases H with
  | none _ h => exact absurd h hl
  | some q x hr hq hx hc => exact ⟨q, hr, getD_lt hq, hc, onOf_some hq⟩
end
end Go.Proofs.YtechphliifginaaGreatDoor

/- level.Seg, of a slot. -/
set_option linter.unusedVariables false
set_option linter.unusedSimpArgs false
namespace Go.Proofs.YtechphliifginaaGreatDoor
open Go.RowKit

theorem levelSeg_ok (q : Nat) (hq : q < 4096) (w : World) : Calls Tryz.prog 100 #[.int .i64 q] w fun e w' => e = .returned (.tuple #[.int .i64 ((q : Int) / 8), .int .i64 0]) ∧ w = w' := by
  have M := hid (fun w => levelBetween_any (q : Int) 0 4095 w)
  rw [show btw (q : Int) 0 4095 = true from decide_eq_true ⟨by omega, by omega⟩] at M
  obtain ⟨y, hy⟩ : ∃ y : Int, (q : Int) = y := ⟨_, rfl⟩
  rw [hy] at M ⊢
  have h0 : 0 ≤ y := by omega
  have h1 : y ≤ 4096 := by omega
  clear hy hq
  go_enter Tryz.func100, Tryz.ntmps100
  go_wp2_with (first | (go_at_call 157; refine (M.out _).mono ?_; rintro e w1 ⟨rfl, rfl⟩))
  go_ret2
  exact ⟨rfl, rfl⟩
theorem levelSeg_bad (q : Nat) (hq : 4096 ≤ q) (w : World) : Calls Tryz.prog 100 #[.int .i64 q] w fun e w' => e = .returned (.tuple #[.int .i64 0, .int .i64 10]) ∧ w = w' := by
  have M := hid (fun w => levelBetween_any (q : Int) 0 4095 w)
  rw [show btw (q : Int) 0 4095 = false from decide_eq_false (fun h => by omega)] at M
  obtain ⟨y, hy⟩ : ∃ y : Int, (q : Int) = y := ⟨_, rfl⟩
  rw [hy] at M ⊢
  clear hy hq
  go_enter Tryz.func100, Tryz.ntmps100
  go_wp2_with (first | (go_at_call 157; refine (M.out _).mono ?_; rintro e w1 ⟨rfl, rfl⟩))
  go_ret2
  exact ⟨rfl, rfl⟩
end Go.Proofs.YtechphliifginaaGreatDoor

/- rank: what an index is; Rank, Select, Between. -/
set_option linter.unusedVariables false
set_option linter.unusedSimpArgs false
namespace Go.Proofs.YtechphliifginaaGreatDoor
open Go.RowKit

theorem treeTotal_ok {t d h : Nat} {cs : List Int} {w : World} (H : TreeR w t d h cs) :
    Calls Tryz.prog 119 #[.pointer (some ⟨t, 0, none⟩)] w fun e w' => e = .returned (.int .i64 (preI cs (2 ^ h))) ∧ w = w' := by
  obtain ⟨ns, ex, r1, r2, r3⟩ := H.row
  have hz := p2_le H.h9
  have hz2 : 2 ≤ 2 ^ h := by have := Nat.pow_le_pow_right (n := 2) (by omega) H.h1; simpa using this
  have c1 := r1.cell 1
  have c2 := (r2.cell 1).trans (ints'_append ns ex 1 (by rw [r3.len]; omega))
  rw [r3.root] at c2
  generalize preI cs (2 ^ h) = tot at *
  obtain ⟨C, hC⟩ : ∃ C, 2 * 2 ^ h + ex.length = C := ⟨_, rfl⟩
  rw [hC] at c1
  generalize hZ : 2 ^ h = Z at *
  have i3 : 1 < 2 * Z := by omega
  clear H r1 r2 r3 hZ hC
  go_enter Tryz.func119, Tryz.ntmps119
  go_wp2_with fail
  go_ret
  exact ⟨rfl, rfl⟩
/-- The blocks of an index. -/
structure IxF where
  x : Nat
  f : SF
  t : Nat
  d : Nat
def IxF.mem (X : IxF) (k : Nat) : Prop := k = X.x ∨ X.f.mem k ∨ k = X.t ∨ k = X.d
structure IxR (w : World) (X : IxF) (σ : List (Option Int)) (h : Nat) : Prop where
  c : Has w X.x [.pointer (some ⟨X.f.s, 0, none⟩), .pointer (some ⟨X.t, 0, none⟩)] 136
  sl : SlotsR w X.f σ
  tr : TreeR w X.t X.d h (cntsL σ)
  h2 : 2 ≤ h
  h9 : h ≤ 9
  len : σ.length = 8 * 2 ^ h
  up : Up (its σ)
section
variable {w w' : World} {X : IxF} {σ : List (Option Int)} {h : Nat}
theorem IxR.fr (H : IxR w X σ h) {S : Nat → Prop} (hf : Fr S w w') (hS : ∀ k, X.mem k → ¬ S k) : IxR w' X σ h :=
  ⟨H.c.fr' hf (hS _ (.inl rfl)), H.sl.fr hf (fun k hk => hS _ (.inr (.inl hk))), H.tr.fr hf (hS _ (.inr (.inr (.inl rfl)))) (hS _ (.inr (.inr (.inr rfl)))), H.h2, H.h9, H.len, H.up⟩
theorem IxR.new (H : IxR w X σ h) (hf : Fr Nil1 w w') : IxR w' X σ h := H.fr hf (fun _ _ h => h)
theorem IxR.lt (H : IxR w X σ h) : ∀ k, X.mem k → k < w.heap.size := by
  rintro k (rfl | hk | rfl | rfl)
  · exact H.c.lt
  · exact H.sl.lt k hk
  · exact H.tr.lt.1
  · exact H.tr.lt.2
theorem IxR.total (H : IxR w X σ h) : preI (cntsL σ) (2 ^ h) = ((its σ).length : Nat) := by
  rw [preI_cnts σ (2 ^ h) H.len (2 ^ h) (Nat.le_refl _), ← H.len, its_length]
theorem IxR.few (H : IxR w X σ h) : (its σ).length ≤ 4096 := by
  have := cntOn_le (onOf σ) σ.length
  rw [← its_length] at this
  have := p2_le H.h9
  have := H.len
  omega
set_option maxRecDepth 100000 in
set_option maxHeartbeats 1000000 in
theorem rankRank_any (H : IxR w X σ h) (key : Int) : Calls Tryz.prog 55 #[.pointer (some ⟨X.x, 0, none⟩), .int .i64 key] w fun e w' => e = .returned (.int .i64 (lessC (its σ) key : Nat)) ∧ Fr Nil1 w w' := by
  have HL := hid (findLower_any H.sl H.up key)
  have hz := p2_le H.h9
  have c0 := H.c.cell 0
  have c1 := H.c.cell 1
  have HH := hid H
  by_cases hl : lessC (its σ) key = (its σ).length
  · have HLs := hid hl
    clear hl
    go_enter Tryz.func55, Tryz.ntmps55
    go_wp2_with (first
      | (go_at_call 119; (with_reducible refine (treeTotal_ok (HH.out.new H1.out.2).tr).mono ?_); rintro e w2 ⟨rfl, rfl⟩)
      | (go_at_call 118; refine HL.out.mono ?_; rintro e w1 ⟨r, cc, rfl, H1⟩; obtain rfl := H1.out.1.neg HLs.out; have HX := hid (HH.out.new H1.out.2); have k0 := HX.out.c.cell 0; have k1 := HX.out.c.cell 1))
    go_ret
    exact ⟨by rw [HH.out.total, HLs.out]; rfl, H1.out.2⟩
  · have HLs := hid hl
    have HFac := hid (fun (q : Nat) (hq : q < σ.length) (hc : cntOn (onOf σ) q = lessC (its σ) key) (w1 : World) (hf : Fr Nil1 w w1) => show ∃ x y : Nat, x + y = lessC (its σ) key ∧ x + y ≤ 4096 ∧ q ≤ 4096 ∧
        (Calls Tryz.prog 100 #[.int .i64 q] w1 fun e w' => e = .returned (.tuple #[.int .i64 ((q : Int) / 8), .int .i64 0]) ∧ w1 = w') ∧
        (Calls Tryz.prog 120 #[.pointer (some ⟨X.t, 0, none⟩), .int .i64 ((q : Int) / 8)] w1 fun e w' => e = .returned (.tuple #[.int .i64 x, .int .i64 0]) ∧ w1 = w') ∧
        (Calls Tryz.prog 116 #[.pointer (some ⟨X.f.s, 0, none⟩), .int .i64 ((q : Int) / 8 * 8), .int .i64 q] w1 fun e w' => e = .returned (.tuple #[.int .i64 y, .int .i64 0]) ∧ w1 = w') from by
      have HX := H.new hf
      have hl := HX.len
      have hah := treeAhead_ok HX.tr (q / 8) (by omega)
      rw [preI_cnts σ (2 ^ h) hl (q / 8) (by omega)] at hah
      have hcn := gapsCount_any HX.sl (8 * (q / 8 : Nat)) q (by omega) (by omega) (by omega)
      rw [show (8 * ((q / 8 : Nat) : Int)).toNat = 8 * (q / 8) by omega, Int.toNat_natCast] at hcn
      have e8 : ((q / 8 : Nat) : Int) = (q : Int) / 8 := by omega
      rw [e8] at hah hcn
      rw [show 8 * ((q : Int) / 8) = (q : Int) / 8 * 8 by omega] at hcn
      have hle := cntOn_le_of (onOf σ) (show 8 * (q / 8) ≤ q by omega)
      have hle2 := cntOn_le (onOf σ) q
      exact ⟨_, _, by omega, by omega, by omega, levelSeg_ok q (by omega) w1, hah, hcn⟩)
    clear hl H
    go_enter Tryz.func55, Tryz.ntmps55
    go_wp2_with (first
      | (go_at_call 116; (with_reducible refine HCn.out.mono ?_); rintro e w4 ⟨rfl, rfl⟩)
      | (go_at_call 120; (with_reducible refine HAh.out.mono ?_); rintro e w3 ⟨rfl, rfl⟩)
      | (go_at_call 100; (with_reducible refine HSg.out.mono ?_); rintro e w2 ⟨rfl, rfl⟩)
      | (go_at_call 118; refine HL.out.mono ?_; rintro e w1 ⟨r, cc, rfl, H1⟩; obtain ⟨q, rfl, hq, hc⟩ := H1.out.1.pos HLs.out; have HX := hid (HH.out.new H1.out.2); have k0 := HX.out.c.cell 0; have k1 := HX.out.c.cell 1; obtain ⟨x, y, hxy, hsum, hq4, h5, h6, h7⟩ := HFac.out q hq hc w1 H1.out.2; have HSg := hid h5; have HAh := hid h6; have HCn := hid h7; have HE := hid hxy; clear h5 h6 h7 hxy hq hc))
    go_ret
    exact ⟨by rw [← HE.out]; rfl, H1.out.2⟩
theorem rankRank_nil (key : Int) (w : World) : Calls Tryz.prog 55 #[.pointer none, .int .i64 key] w fun e w' => e = .returned (.int .i64 0) ∧ w = w' := by
  go_enter Tryz.func55, Tryz.ntmps55
  go_wp2_with fail
  go_ret
  exact ⟨rfl, rfl⟩
end
end Go.Proofs.YtechphliifginaaGreatDoor

/- rank: Select, Between, Quantile, Median, Of. -/
set_option linter.unusedVariables false
set_option linter.unusedSimpArgs false
namespace Go.Proofs.YtechphliifginaaGreatDoor
open Go.RowKit

attribute [local go_sem] max_two
section
variable {w w' : World} {X : IxF} {σ : List (Option Int)} {h : Nat}
theorem its_getD {σ : List (Option Int)} {p n : Nat} {x : Int} (h : σ.getD p none = some x) (hc : cntOn (onOf σ) p = n) : (its σ).getD n 0 = x := by
  have := its_get σ p x h
  rw [hc] at this
  rw [List.getD_eq_getElem?_getD, this]
  rfl
set_option maxRecDepth 100000 in
set_option maxHeartbeats 2000000 in
theorem rankSelect_ok (H : IxR w X σ h) (N : Nat) (hN : N < (its σ).length) : Calls Tryz.prog 113 #[.pointer (some ⟨X.x, 0, none⟩), .int .i64 N] w fun e w' => e = .returned (.tuple #[.int .i64 ((its σ).getD N 0), .int .i64 0]) ∧ w = w' := by
  have hz := p2_le H.h9
  have hz0 : 0 < 2 ^ h := Nat.pow_pos (by omega)
  have hp := preI_cnts σ (2 ^ h) H.len
  have hmx := H.sl.bits.n2
  rw [its_length] at hN
  have HF := hid (treeFind_ok H.tr (N : Int) (by omega) (by rw [hp (2 ^ h) (Nat.le_refl _), ← H.len]; omega))
  have HPre := hid hp
  have HNx := hid (fun (i : Int) (h0 : 0 ≤ i) => gapsNext_any H.sl i h0)
  have HAt := hid (fun (q : Int) => gapsAt_any H.sl q)
  have HL := hid H.len
  have HTot := hid hN
  have r0 := H.c.cell 0
  have r1 := H.c.cell 1
  clear H hp
  obtain ⟨L, hL⟩ : ∃ L, σ.length = L := ⟨_, rfl⟩
  rw [hL] at HNx hmx hN HTot HL
  have hN2 := cntOn_le (onOf σ) L
  clear hL
  have HFs := hid (HF.out.mono (fun e w' hh => show ∃ (s j : Nat), e = .returned (.tuple #[.int .i64 s, .int .i64 j, .int .i64 0]) ∧ w = w' ∧ Hid (s < 2 ^ h ∧ cntOn (onOf σ) (8 * s) + j = N ∧ N < cntOn (onOf σ) (8 * (s + 1))) from by
    obtain ⟨s, he, hw, h1, h2, h3⟩ := hh
    rw [HPre.out s (by omega)] at he h2
    rw [HPre.out (s + 1) (by omega)] at h3
    refine ⟨s, N - cntOn (onOf σ) (8 * s), ?_, hw, hid ⟨h1, by omega, by omega⟩⟩
    rw [he, show ((N - cntOn (onOf σ) (8 * s) : Nat) : Int) = (N : Int) - (cntOn (onOf σ) (8 * s) : Nat) by omega]))
  clear HF
  go_enter Tryz.func113, Tryz.ntmps113
  go_wp2_with fail
  go_step3
  go_wp2_with (first
    | (go_at_call 165; refine HFs.out.mono ?_; rintro e w1 ⟨s, jj, rfl, rfl, HS⟩; have hs5 : (s : Int) < 512 := by have := HS.out.1; omega)
    | (go_at_call 133; refine (HNx.out (8 * (s : Int)) (by omega)).mono ?_; rintro e w1 ⟨rfl, rfl⟩))
  go_step3
  go_wp2_with (go_at_call 133; refine (HNx.out ((s : Int) * 8) (by omega)).mono ?_; rintro e w1 ⟨rfl, rfl⟩)
  have hj9 : jj ≤ 4096 * 16 := by have := HS.out.2.1; omega
  go_loopw [7, 9] (fun kk sl wr => ∃ (r p : Nat), r ≤ jj ∧ kk = .int .i64 r ∧ sl = .int .i64 p ∧ p < L ∧ w = wr ∧ Hid (onOf σ p = true ∧ cntOn (onOf σ) p + r = cntOn (onOf σ) (8 * s) + jj)) (fun kk _ _ => (intOf kk).toNat)
  case atStart =>
    have e8 : (s : Int) * 8 = 8 * (s : Int) := by omega
    rw [e8]
    rcases nxt_cases (onOf σ) L (8 * (s : Int)) with ⟨_, hno⟩ | ⟨r, hr, q1, q2, q3, q4⟩
    · exfalso
      have := cntOn_gap (onOf σ) (8 * s) (L - 8 * s) (fun k k1 k2 => hno k (by omega) (by omega))
      have hs8 : 8 * s + (L - 8 * s) = L := by have := HS.out.1; have := HL.out; omega
      rw [hs8] at this
      have h1 := HTot.out
      have h2 := HS.out.2.1
      omega
    · exact ⟨jj, r, Nat.le_refl _, rfl, by rw [hr], q2, rfl, hid ⟨q3, by rw [nxt_rank (show 8 * s ≤ r by omega) (fun j j1 j2 => q4 j (by omega) j2)]⟩⟩
  case round =>
    obtain ⟨r, p, hr, rfl, rfl, hpL, rfl, HR⟩ := hrel
    by_cases hr0 : r = 0
    · subst hr0
      obtain ⟨x, hx⟩ := onOf_true HR.out.1
      have hat := HAt.out (p : Int)
      rw [(at_some hx).1, (at_some hx).2] at hat
      have HAp := hid hat
      have HX := hid hx
      clear hx hat
      go_wp2_with (go_at_call 39; refine HAp.out.mono ?_; rintro e w1 ⟨rfl, rfl⟩)
      (try rw [Exit.noGoto_ret])
      go_ret2
      exact ⟨by rw [its_getD HX.out (show cntOn (onOf σ) p = N by have := HR.out.2; have := HS.out.2.1; omega)]; rfl, rfl⟩
    · have hrI : ((r : Int) == 0) = false := by rw [beq_eq_false_iff_ne]; omega
      have hn1 := HNx.out ((p : Int) + 1) (by omega)
      have hex : ∃ q : Nat, nxt (onOf σ) L ((p : Int) + 1) = q ∧ q < L ∧ onOf σ q = true ∧ cntOn (onOf σ) q + (r - 1) = cntOn (onOf σ) (8 * s) + jj := by
        have hp1 := cntOn_on _ _ HR.out.1
        rcases nxt_cases (onOf σ) L ((p : Int) + 1) with ⟨_, hno⟩ | ⟨q, hq, q1, q2, q3, q4⟩
        · exfalso
          have := cntOn_gap (onOf σ) (p + 1) (L - (p + 1)) (fun k k1 k2 => hno k (by omega) (by omega))
          rw [show p + 1 + (L - (p + 1)) = L by omega] at this
          have h1 := HTot.out
          have h2 := HS.out.2.1
          have h3 := HR.out.2
          omega
        · exact ⟨q, hq, q2, q3, by rw [nxt_rank (show p + 1 ≤ q by omega) (fun j j1 j2 => q4 j (by omega) j2), hp1]; have := HR.out.2; omega⟩
      obtain ⟨q, hq, q2, q3, q4⟩ := hex
      rw [hq] at hn1
      have HN1 := hid hn1
      have HQ := hid (And.intro q3 q4)
      have hnz : (r : Int) ≠ 0 := by omega
      have hw1 : IntKind.i64.wrap ((r : Int) - 1) = ((r - 1 : Nat) : Int) := by rw [show ((r - 1 : Nat) : Int) = (r : Int) - 1 by omega]; exact IntWalk.i64_in _ (by omega)
      have HR0 := hid (And.intro hr hr0)
      clear hn1 hq q3 q4 hr hr0
      go_wp2_with (go_at_call 133; refine HN1.out.mono ?_; rintro e w1 ⟨rfl, rfl⟩)
      exact ⟨⟨r - 1, q, by have := HR0.out; omega, rfl, rfl, q2, trivial, HQ⟩, by have := HR0.out; simp [intOf]; omega⟩
theorem rankSelect_none (H : IxR w X σ h) (N : Int) (hN : N < 0 ∨ ((its σ).length : Int) ≤ N) : Calls Tryz.prog 113 #[.pointer (some ⟨X.x, 0, none⟩), .int .i64 N] w fun e w' => e = .returned (.tuple #[.int .i64 0, .int .i64 14]) ∧ w = w' := by
  have HF := hid (treeFind_none H.tr N (by rw [H.total]; exact hN))
  have r0 := H.c.cell 0
  have r1 := H.c.cell 1
  clear H hN
  go_enter Tryz.func113, Tryz.ntmps113
  go_wp2_with fail
  go_step3
  go_wp2_with (go_at_call 165; refine HF.out.mono ?_; rintro e w1 ⟨rfl, rfl⟩)
  (try rw [Exit.noGoto_ret])
  go_ret2
  exact ⟨rfl, rfl⟩
theorem rankSelect_nil (N : Int) (w : World) : Calls Tryz.prog 113 #[.pointer none, .int .i64 N] w fun e w' => e = .returned (.tuple #[.int .i64 0, .int .i64 2]) ∧ w = w' := by
  go_enter Tryz.func113, Tryz.ntmps113
  go_wp2_with fail
  go_step3
  go_wp2_with fail
  (try rw [Exit.noGoto_ret])
  go_ret2
  exact ⟨rfl, rfl⟩
/-- How many lie between two. -/
def btwK (ks : List Int) (lo hi : Int) : Int := if (lessC ks lo : Int) ≤ (lessC ks hi : Int) then (lessC ks hi : Int) - (lessC ks lo : Int) else 0
theorem btwK_max (ks : List Int) (lo hi : Int) : btwK ks lo hi = max ((lessC ks hi : Int) - (lessC ks lo : Int)) 0 := by unfold btwK; split <;> omega
theorem rankBetween_any (H : IxR w X σ h) (lo hi : Int) : Calls Tryz.prog 54 #[.pointer (some ⟨X.x, 0, none⟩), .int .i64 lo, .int .i64 hi] w fun e w' => e = .returned (.int .i64 (btwK (its σ) lo hi)) ∧ Fr Nil1 w w' := by
  have HR := hid (fun key w' (hf : Fr Nil1 w w') => rankRank_any (H.new hf) key)
  have h1 := lessC_le (its σ) lo
  have h2 := lessC_le (its σ) hi
  have h3 := H.few
  rw [btwK_max]
  clear H
  have hb : (lessC (its σ) lo : Int) ≤ 4096 := by omega
  have hb2 : (lessC (its σ) hi : Int) ≤ 4096 := by omega
  clear h1 h2 h3
  obtain ⟨a, ha⟩ : ∃ a : Int, ((lessC (its σ) lo : Nat) : Int) = a := ⟨_, rfl⟩
  obtain ⟨b, hbb⟩ : ∃ b : Int, ((lessC (its σ) hi : Nat) : Int) = b := ⟨_, rfl⟩
  have a0 : 0 ≤ a := by omega
  have b0 : 0 ≤ b := by omega
  have HA := hid (fun w' hf => ha ▸ HR.out lo w' hf)
  have HB := hid (fun w' hf => hbb ▸ HR.out hi w' hf)
  rw [ha, hbb]
  rw [ha] at hb
  rw [hbb] at hb2
  clear ha hbb HR
  go_enter Tryz.func54, Tryz.ntmps54
  go_wp2_with (first
    | (go_at_call 55; (with_reducible refine (HA.out w1 H1.out).mono ?_); rintro e w2 ⟨rfl, h2⟩; have H2 := hid h2; clear h2)
    | (go_at_call 55; (with_reducible refine (HB.out w (Fr.refl _ _)).mono ?_); rintro e w1 ⟨rfl, h1⟩; have H1 := hid h1; clear h1))
  go_ret
  exact ⟨rfl, H1.out.trans H2.out⟩
theorem rankBetween_nil (lo hi : Int) (w : World) : Calls Tryz.prog 54 #[.pointer none, .int .i64 lo, .int .i64 hi] w fun e w' => e = .returned (.int .i64 0) ∧ w = w' := by
  have HR := hid (fun key w' => rankRank_nil key w')
  go_enter Tryz.func54, Tryz.ntmps54
  go_wp2_with (go_at_call 55; refine (HR.out _ _).mono ?_; rintro e w1 ⟨rfl, rfl⟩)
  go_ret
  exact ⟨rfl, rfl⟩
/-- Which arguments of a quantile may not be. -/
def quanBad (n parts : Int) : Prop := parts < 1 ∨ 1000000 < parts ∨ n < 0 ∨ parts < n
/-- Which key a quantile is. -/
def quanI (len : Nat) (n parts : Int) : Nat := (n * ((len : Int) - 1) / parts).toNat
theorem quanI_lt {len : Nat} {n parts : Int} (h : ¬ quanBad n parts) (hl : 0 < len) : quanI len n parts < len ∧ ((quanI len n parts : Nat) : Int) = n * ((len : Int) - 1) / parts := by
  unfold quanBad at h
  have hp : 0 < parts := by omega
  have h0 : 0 ≤ n * ((len : Int) - 1) := Int.mul_nonneg (by omega) (by omega)
  have h1 : n * ((len : Int) - 1) ≤ parts * ((len : Int) - 1) := Int.mul_le_mul_of_nonneg_right (by omega) (by omega)
  have h2 : n * ((len : Int) - 1) / parts ≤ (len : Int) - 1 := by
    have := Int.ediv_le_ediv hp h1
    rwa [Int.mul_ediv_cancel_left _ (by omega)] at this
  have h3 : 0 ≤ n * ((len : Int) - 1) / parts := Int.ediv_nonneg h0 (by omega)
  unfold quanI
  omega
set_option maxRecDepth 100000 in
theorem rankQuantile_bad {x : Nat} (n parts : Int) (hb : quanBad n parts) (w : World) : Calls Tryz.prog 115 #[.pointer (some ⟨x, 0, none⟩), .int .i64 n, .int .i64 parts] w fun e w' => e = .returned (.tuple #[.int .i64 0, .int .i64 1]) ∧ w = w' := by
  have hex : decide (parts < 1) = true ∨ (decide (parts < 1) = false ∧ decide (1000000 < parts) = true) ∨ (decide (parts < 1) = false ∧ decide (1000000 < parts) = false ∧ decide (n < 0) = true) ∨ (decide (parts < 1) = false ∧ decide (1000000 < parts) = false ∧ decide (n < 0) = false ∧ decide (parts < n) = true) := by
    unfold quanBad at hb
    by_cases h1 : parts < 1
    · exact .inl (decide_eq_true h1)
    by_cases h2 : 1000000 < parts
    · exact .inr (.inl ⟨decide_eq_false h1, decide_eq_true h2⟩)
    by_cases h3 : n < 0
    · exact .inr (.inr (.inl ⟨decide_eq_false h1, decide_eq_false h2, decide_eq_true h3⟩))
    · exact .inr (.inr (.inr ⟨decide_eq_false h1, decide_eq_false h2, decide_eq_false h3, decide_eq_true (by omega)⟩))
  clear hb
  rcases hex with d1 | ⟨d1, d2⟩ | ⟨d1, d2, d3⟩ | ⟨d1, d2, d3, d4⟩
  all_goals (
    go_enter Tryz.func115, Tryz.ntmps115
    go_wp2_with fail
    go_ret2
    exact ⟨rfl, rfl⟩)
theorem rankQuantile_nil (n parts : Int) (w : World) : Calls Tryz.prog 115 #[.pointer none, .int .i64 n, .int .i64 parts] w fun e w' => e = .returned (.tuple #[.int .i64 0, .int .i64 2]) ∧ w = w' := by
  go_enter Tryz.func115, Tryz.ntmps115
  go_wp2_with fail
  go_ret2
  exact ⟨rfl, rfl⟩
theorem notBad {n parts : Int} (h : ¬ quanBad n parts) : decide (parts < 1) = false ∧ decide (1000000 < parts) = false ∧ decide (n < 0) = false ∧ decide (parts < n) = false := by
  unfold quanBad at h
  exact ⟨decide_eq_false (by omega), decide_eq_false (by omega), decide_eq_false (by omega), decide_eq_false (by omega)⟩
set_option maxRecDepth 100000 in
theorem rankQuantile_none (H : IxR w X σ h) (n parts : Int) (hb : ¬ quanBad n parts) (he : its σ = []) : Calls Tryz.prog 115 #[.pointer (some ⟨X.x, 0, none⟩), .int .i64 n, .int .i64 parts] w fun e w' => e = .returned (.tuple #[.int .i64 0, .int .i64 14]) ∧ w = w' := by
  obtain ⟨d1, d2, d3, d4⟩ := notBad hb
  have HT := hid (treeTotal_ok H.tr)
  rw [H.total, he] at HT
  have r0 := H.c.cell 0
  have r1 := H.c.cell 1
  clear H hb he
  go_enter Tryz.func115, Tryz.ntmps115
  go_wp2_with (go_at_call 119; refine HT.out.mono ?_; rintro e w1 ⟨rfl, rfl⟩)
  go_ret2
  exact ⟨rfl, rfl⟩
set_option maxRecDepth 100000 in
theorem rankQuantile_ok (H : IxR w X σ h) (n parts : Int) (hb : ¬ quanBad n parts) (he : 0 < (its σ).length) : Calls Tryz.prog 115 #[.pointer (some ⟨X.x, 0, none⟩), .int .i64 n, .int .i64 parts] w fun e w' => e = .returned (.tuple #[.int .i64 ((its σ).getD (quanI (its σ).length n parts) 0), .int .i64 0]) ∧ w = w' := by
  obtain ⟨d1, d2, d3, d4⟩ := notBad hb
  obtain ⟨q1, q2⟩ := quanI_lt hb he
  have HT := hid (treeTotal_ok H.tr)
  rw [H.total] at HT
  have HS := hid (rankSelect_ok H _ q1)
  rw [q2] at HS
  have hfw := H.few
  unfold quanBad at hb
  have h0 : 0 ≤ n * (((its σ).length : Int) - 1) := Int.mul_nonneg (by omega) (by omega)
  have h1 : n * (((its σ).length : Int) - 1) ≤ 1000000 * 4096 := Int.mul_le_mul (by omega) (by omega) (by omega) (by omega)
  have r0 := H.c.cell 0
  have r1 := H.c.cell 1
  have hpar : 0 < parts := by omega
  have hpz : parts ≠ 0 := by omega
  generalize quanI (its σ).length n parts = qq at *
  generalize (its σ).getD qq 0 = res at *
  obtain ⟨L, hL⟩ : ∃ L : Int, ((its σ).length : Int) = L := ⟨_, rfl⟩
  rw [hL] at HT HS h0 h1
  have hL1 : 1 ≤ L := by omega
  have hL2 : L ≤ 4096 := by omega
  have hLz : (L == 0) = false := by rw [beq_eq_false_iff_ne]; omega
  have e1 : IntKind.i64.wrap (L - 1) = L - 1 := IntWalk.i64_in _ (by omega)
  have e2 : IntKind.i64.wrap (n * (L - 1)) = n * (L - 1) := IntWalk.i64_in _ (by omega)
  have hdv : Int.tdiv (n * (L - 1)) parts = n * (L - 1) / parts := Int.tdiv_eq_ediv_of_nonneg h0
  have hd0 : 0 ≤ n * (L - 1) / parts := Int.ediv_nonneg h0 (by omega)
  have hd1 : n * (L - 1) / parts ≤ 1000000 * 4096 := Int.le_trans (Int.ediv_le_self _ h0) h1
  have e3 : IntKind.i64.wrap (n * (L - 1) / parts) = n * (L - 1) / parts := IntWalk.i64_in _ (by omega)
  clear H hb he q1 q2 hfw hL
  go_enter Tryz.func115, Tryz.ntmps115
  go_wp2_with (first
    | (go_at_call 119; refine HT.out.mono ?_; rintro e w1 ⟨rfl, rfl⟩)
    | (go_at_call 113; refine HS.out.mono ?_; rintro e w1 ⟨rfl, rfl⟩))
  go_ret2
  exact ⟨rfl, rfl⟩
end
end Go.Proofs.YtechphliifginaaGreatDoor

/- rank: Median, Of. -/
set_option linter.unusedVariables false
set_option linter.unusedSimpArgs false
namespace Go.Proofs.YtechphliifginaaGreatDoor
open Go.RowKit

section
variable {w w' : World} {X : IxF} {σ : List (Option Int)} {h : Nat}
theorem half_ok : ¬ quanBad 1 2 := by unfold quanBad; omega
theorem rankMedian_ok (H : IxR w X σ h) (he : 0 < (its σ).length) : Calls Tryz.prog 114 #[.pointer (some ⟨X.x, 0, none⟩)] w fun e w' => e = .returned (.tuple #[.int .i64 ((its σ).getD (((its σ).length - 1) / 2) 0), .int .i64 0]) ∧ w = w' := by
  have HQ := hid (rankQuantile_ok H 1 2 half_ok he)
  rw [show quanI (its σ).length 1 2 = ((its σ).length - 1) / 2 by unfold quanI; omega] at HQ
  clear H he
  generalize (its σ).getD (((its σ).length - 1) / 2) 0 = z at *
  go_enter Tryz.func114, Tryz.ntmps114
  go_wp2_with (go_at_call 115; refine HQ.out.mono ?_; rintro e w1 ⟨rfl, rfl⟩)
  go_ret2
  exact ⟨rfl, rfl⟩
theorem rankMedian_none (H : IxR w X σ h) (he : its σ = []) : Calls Tryz.prog 114 #[.pointer (some ⟨X.x, 0, none⟩)] w fun e w' => e = .returned (.tuple #[.int .i64 0, .int .i64 14]) ∧ w = w' := by
  have HQ := hid (rankQuantile_none H 1 2 half_ok he)
  clear H he
  go_enter Tryz.func114, Tryz.ntmps114
  go_wp2_with (go_at_call 115; refine HQ.out.mono ?_; rintro e w1 ⟨rfl, rfl⟩)
  go_ret2
  exact ⟨rfl, rfl⟩
theorem rankMedian_nil (w : World) : Calls Tryz.prog 114 #[.pointer none] w fun e w' => e = .returned (.tuple #[.int .i64 0, .int .i64 2]) ∧ w = w' := by
  have HQ := hid (rankQuantile_nil 1 2)
  go_enter Tryz.func114, Tryz.ntmps114
  go_wp2_with (go_at_call 115; refine (HQ.out _).mono ?_; rintro e w1 ⟨rfl, rfl⟩)
  go_ret2
  exact ⟨rfl, rfl⟩
theorem rankOf_nil (w : World) : Calls Tryz.prog 53 #[.pointer none] w fun e w' => e = .returned (.pointer none) ∧ w = w' := by
  go_enter Tryz.func53, Tryz.ntmps53
  go_wp2_with fail
  go_ret
  exact ⟨rfl, rfl⟩
end
/-- What holds behind some rounds of counting. -/
structure OfI (w3 : World) (D Q : Nat) (Z k : Nat) (σ : List (Option Int)) (wr : World) : Prop where
  row : Has wr D (ints' ((cntsW σ 0 Z).take k ++ List.replicate (Z - k) 0)) 3
  fr : Fr Nil1 w3 wr
set_option maxRecDepth 100000 in
set_option maxHeartbeats 4000000 in
theorem rankOf_any {w0 w : World} {s : Nat} {ks : List Int} (H : SS w0 s ks w) : Calls Tryz.prog 53 #[.pointer (some ⟨s, 0, none⟩)] w fun e w' => ∃ (X : IxF), e = .returned (.pointer (some ⟨X.x, 0, none⟩)) ∧ ∃ (σ : List (Option Int)) (h : Nat), Hid (IxR w' X σ h ∧ its σ = ks ∧ Fr Nil1 w w' ∧ ∀ k, X.mem k → w.heap.size ≤ k) := by
  obtain ⟨p, F, σ, h, evs, a, rfl⟩ := H.ex
  have HRow := hid (setRow_any a)
  have HD := hid a.row.d
  have HUp := hid a.up
  have HG := hid a.size
  have h9 := a.row.d.h9
  have h2 := a.row.d.h2
  have hlen := a.row.d.len
  have hz := p2_le h9
  have hz0 : 0 < 2 ^ h := Nat.pow_pos (by omega)
  have HSg := hid (fun w => levelSegs_ok h h2 h9 w)
  clear H a
  obtain ⟨Z, hZ⟩ : ∃ Z, 2 ^ h = Z := ⟨_, rfl⟩
  have HZ := hid hZ
  rw [hZ] at HSg hlen hz hz0
  have HLen := hid hlen
  have hmk := mk_row (P := Tryz.prog) 30 3 (.int .i64 0) 8 Tryz.underlying30 info_int rfl (by decide) (Z : Int) (by omega) (by omega)
  obtain ⟨y, hy⟩ : ∃ y : Int, ((8 * Z : Nat) : Int) = y := ⟨_, rfl⟩
  rw [hy] at HSg
  have HY := hid (show ((σ.length : Nat) : Int) = y by rw [hlen]; exact hy)
  clear hZ hy hlen h2 h9
  go_enter Tryz.func53, Tryz.ntmps53
  go_wp2_with (first
    | (go_at_call 92; (with_reducible refine (HSg.out _).mono ?_); rintro e w4 ⟨rfl, rfl⟩)
    | (go_at_call 38; (with_reducible refine HCp.out.mono ?_); rintro e w5 ⟨rfl, rfl⟩)
    | (go_at_call 19; (with_reducible refine (pmaSlots_any H1.out.1.r).mono ?_); rintro e w2 ⟨f, rfl, g1, g2, g3⟩; have H2 := hid (And.intro g1 (And.intro g3 g2)); clear g1 g2 g3; have hcp := gapsCap_any (H2.out.1.new ((Fr.refl Nil1 w2).alloc (.cells #[.pointer (some ⟨f.s, 0, none⟩), .pointer none] 136))); rw [HY.out] at hcp; have HCp := hid hcp; clear hcp)
    | (go_at_call 37; (with_reducible refine HRow.out.mono ?_); rintro e w1 ⟨F', rfl, H1⟩))
  have hs1 := H1.out.2.size
  have hs2 := H2.out.2.2.size
  obtain ⟨Q, hQ⟩ : ∃ Q, w2.heap.size = Q := ⟨_, rfl⟩
  have hb0 : Has (w2.alloc (.cells #[.pointer (some ⟨f.s, 0, none⟩), .pointer none] 136)) Q [.pointer (some ⟨f.s, 0, none⟩), .pointer none] 136 := hQ ▸ Has.new w2 _ _
  have HS3 := hid (H2.out.1.new ((Fr.refl Nil1 w2).alloc (.cells #[.pointer (some ⟨f.s, 0, none⟩), .pointer none] 136)))
  have HF3 := hid (show Fr Nil1 w (w2.alloc (.cells #[.pointer (some ⟨f.s, 0, none⟩), .pointer none] 136)) from (H1.out.2.trans H2.out.2.2).alloc _)
  have hsz3 : (w2.alloc (.cells #[.pointer (some ⟨f.s, 0, none⟩), .pointer none] 136)).heap.size = Q + 1 := by simp [hQ]
  obtain ⟨W3, hW3⟩ : ∃ W3, w2.alloc (.cells #[.pointer (some ⟨f.s, 0, none⟩), .pointer none] 136) = W3 := ⟨_, rfl⟩
  have HMem := hid (show Q = w2.heap.size ∧ w.heap.size ≤ Q ∧ NG ≤ w.heap.size ∧ ∀ k, f.mem k → k < Q ∧ w.heap.size ≤ k from ⟨hQ.symm, by omega, HG.out, fun k hk => ⟨hQ ▸ H2.out.1.lt k hk, by have := H2.out.2.1 k hk; omega⟩⟩)
  have hm := Has.made W3 (.int .i64 0) Z 3
  rw [hW3] at hb0 HS3 HF3 hsz3 ⊢
  rw [hQ]
  rw [hsz3] at hm
  have e0 : ints' ((cntsW σ 0 Z).take 0 ++ List.replicate (Z - 0) 0) = List.replicate Z (.int .i64 0) := by simp [ints']
  rw [← e0] at hm
  have HM := hid (show OfI W3 (Q + 1) Q Z 0 σ (W3.alloc (.cells (madeCells #[.int .i64 0] Z) 3)) from ⟨hm, (Fr.refl _ _).alloc _⟩)
  have HB0 := hid hb0
  clear hs1 hs2 hQ hb0 hW3 hm e0
  go_loopw [7, 27] (fun _ i wr => ∃ k : Nat, k ≤ Z ∧ i = .int .i64 k ∧ Hid (OfI W3 (Q + 1) Q Z k σ wr)) (fun _ i _ => Z - (intOf i).toNat)
  case atStart => exact ⟨0, by omega, rfl, HM⟩
  case round =>
    obtain ⟨k, hk, rfl, HR⟩ := hrel
    have hbx := HB0.out.fr' HR.out.fr id
    have k0 := hbx.cell 0
    have k1 := hbx.cell 1
    have kf := hbx.frozen
    have HBx := hid hbx
    clear hbx
    by_cases hlt : k < Z
    · have hltI : (k : Int) < Z := by omega
      have hk0 : (0 : Int) ≤ (k : Int) := by omega
      have hll : k < ((cntsW σ 0 Z).take k ++ List.replicate (Z - k) 0).length := by rw [List.length_append, List.length_take, cntsW_length, List.length_replicate]; omega
      have c0 := HR.out.row.cell k
      rw [ints'_get _ _ hll] at c0
      have cf := HR.out.row.frozen
      have hcn := gapsCount_any (HS3.out.new HR.out.fr) ((k : Int) * 8) (((k : Int) + 1) * 8) (by omega) (by omega) (by have := HLen.out; omega)
      rw [show (((k : Int) + 1) * 8).toNat = 8 * (0 + k + 1) by omega, show ((k : Int) * 8).toNat = 8 * (0 + k) by omega] at hcn
      have HCn := hid (show Calls Tryz.prog 116 #[.pointer (some ⟨f.s, 0, none⟩), .int .i64 ((k : Int) * 8), .int .i64 (((k : Int) + 1) * 8)] wr fun e w' => e = .returned (.tuple #[.int .i64 (segC σ (0 + k) : Nat), .int .i64 0]) ∧ wr = w' from hcn)
      have hst := HR.out.row.set k (.int .i64 (segC σ (0 + k) : Nat))
      have e1 := ints'_set ((cntsW σ 0 Z).take k ++ List.replicate (Z - k) 0) [] k (segC σ (0 + k) : Int) hll
      rw [List.append_nil, List.append_nil, cnts_step σ 0 Z k hlt] at e1
      rw [e1] at hst
      have HSt := hid hst
      have hs8 := segC_le σ (0 + k)
      have HK := hid (And.intro hk hlt)
      have v1 : IntKind.i64.wrap ((k : Int) * 8) = (k : Int) * 8 := IntWalk.i64_in _ (by omega)
      have v2 : IntKind.i64.wrap ((k : Int) + 1) = (k : Int) + 1 := IntWalk.i64_in _ (by omega)
      have v3 : IntKind.i64.wrap (((k : Int) + 1) * 8) = ((k : Int) + 1) * 8 := IntWalk.i64_in _ (by omega)
      clear hst e1 hll hcn hk hlt
      generalize ((cntsW σ 0 Z).take k ++ List.replicate (Z - k) 0).getD k 0 = z at *
      generalize segC σ (0 + k) = sg at *
      go_wp2_with (go_at_call 116; refine HCn.out.mono ?_; rintro e w6 ⟨rfl, rfl⟩)
      exact ⟨⟨k + 1, by have := HK.out; omega, by go_num, hid ⟨HSt.out, HR.out.fr.setNew _ _ (by have := HMem.out; rw [hsz3]; omega) (by rw [hsz3]; exact Nat.le_refl _)⟩⟩, by have := HK.out; simp [intOf]; omega⟩
    · have hltI : ¬ (k : Int) < Z := by omega
      have hks : k = Z := by omega
      subst hks
      have hrow := HR.out.row
      have hcl : (cntsL σ).length = k := by rw [cntsL_length, HLen.out]; omega
      have ecl : cntsW σ 0 k = cntsL σ := by rw [cntsL_eq, HLen.out]; congr 1; omega
      rw [Nat.sub_self, List.replicate_zero, List.append_nil, List.take_of_length_le (by rw [cntsW_length]; omega), ecl] at hrow
      have hsz := HR.out.fr.size
      have htn := treeNew_ok (cntsL σ) h (by have := HD.out.h2; omega) HD.out.h9 (by rw [hcl]; exact HZ.out.symm) (by rw [cntsL_eq]; exact cntsW_mem _ _ _) ⟨Q + 1, 0, none⟩ k wr ⟨by rw [hcl]; exact Nat.le_refl _, by omega, fun j u hu => by rw [add_flat, Nat.zero_add]; exact (hrow.cell j).trans hu⟩ (by have := HMem.out; rw [hsz3] at hsz; omega)
      rw [hcl] at htn
      have HTn := hid htn
      have HSz := hid hsz
      clear hrow hcl ecl hsz htn hk hlt
      go_wp2_with (go_at_call 117; refine HTn.out.mono ?_; rintro e w7 ⟨t, d, rfl, hT, hF, ht, hd⟩; have H7 := hid (And.intro hT (And.intro hF (And.intro ht hd))); have hk7 := HBx.out.fr' hF id; have HK7 := hid hk7; have q0 := hk7.cell 0; have q1 := hk7.cell 1; have qf := hk7.frozen; clear hT hF ht hd hk7)
      go_ret
      have hM := HMem.out
      have hz := HSz.out
      rw [hsz3] at hz
      have hst : Fr (fun j => j = Q) w7 (w7.setCell ⟨Q, 1, none⟩ (.pointer (some ⟨t, 0, none⟩))) := (Fr.refl _ _).setCell _ _ (by show NG ≤ Q; omega) (fun _ => rfl)
      have hfa : Fr Nil1 w w7 := (HF3.out.trans HR.out.fr).trans H7.out.2.1
      refine ⟨⟨Q, f, t, d⟩, rfl, σ, h, hid ⟨⟨HK7.out.set 1 _, ((HS3.out.new HR.out.fr).new H7.out.2.1).fr hst (fun j hj e => by have := (hM.2.2.2 j hj).1; omega), H7.out.1.fr hst (by have := H7.out.2.2.1; omega) (by have := H7.out.2.2.2; omega), HD.out.h2, HD.out.h9, HD.out.len, HUp.out⟩, rfl, hfa.setNew _ _ hM.2.2.1 hM.2.1, ?_⟩⟩
      rintro j (e | hj | e | e)
      · have e' : j = Q := e; omega
      · exact (hM.2.2.2 j hj).2
      · have e' : j = t := e; have := H7.out.2.2.1; omega
      · have e' : j = d := e; have := H7.out.2.2.2; omega
end Go.Proofs.YtechphliifginaaGreatDoor
