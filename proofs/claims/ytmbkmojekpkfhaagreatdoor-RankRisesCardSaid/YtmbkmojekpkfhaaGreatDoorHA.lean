/- rank: what an index is; Rank, Select, Between. -/
import Derived.Test.YtmbkmojekpkfhaaGreatDoorOB
import Derived.Test.YtmbkmojekpkfhaaGreatDoorSJ
set_option linter.unusedVariables false
set_option linter.unusedSimpArgs false
namespace Go.Proofs.YtmbkmojekpkfhaaGreatDoor
open Go.RowKit

theorem levelSeg_ok (q : Nat) (hq : q < 4096) (w : World) : Calls Tryz.prog 80 #[.int .i64 q] w fun e w' => e = .returned (.tuple #[.int .i64 ((q : Int) / 8), .int .i64 0]) ∧ w = w' := by
  have M := hid (fun w => levelBetween_any (q : Int) 0 4095 w)
  rw [show btw (q : Int) 0 4095 = true from decide_eq_true ⟨by omega, by omega⟩] at M
  obtain ⟨y, hy⟩ : ∃ y : Int, (q : Int) = y := ⟨_, rfl⟩
  rw [hy] at M ⊢
  have h0 : 0 ≤ y := by omega
  have h1 : y ≤ 4096 := by omega
  clear hy hq
  go_enter Tryz.func80, Tryz.ntmps80
  go_wp2_with (first | (go_at_call 115; refine (M.out _).mono ?_; rintro e w1 ⟨rfl, rfl⟩))
  go_ret2
  exact ⟨rfl, rfl⟩
theorem treeTotal_ok {t d h : Nat} {cs : List Int} {w : World} (H : TreeR w t d h cs) :
    Calls Tryz.prog 79 #[.pointer (some ⟨t, 0, none⟩)] w fun e w' => e = .returned (.int .i64 (preI cs (2 ^ h))) ∧ w = w' := by
  obtain ⟨ns, ex, r1, r2, r3⟩ := H.row
  have hz := p2_le H.h9
  have hz2 : 2 ≤ 2 ^ h := by have := Nat.pow_le_pow_right (n := 2) (by omega) H.h1; simpa using this
  have c1 := r1.cell 1
  have c2 := (r2.cell 1).trans (ints'_append ns ex 1 (by rw [r3.len]; omega))
  rw [r3.root] at c2
  generalize preI cs (2 ^ h) = tot at *
  obtain ⟨C, hC⟩ : ∃ C, 2 * 2 ^ h + ex.length = C := ⟨_, rfl⟩
  rw [hC] at c1
  generalize hZ : 2 ^ h = Z at *
  have i3 : 1 < 2 * Z := by omega
  clear H r1 r2 r3 hZ hC
  go_enter Tryz.func79, Tryz.ntmps79
  go_wp2_with fail
  go_ret
  exact ⟨rfl, rfl⟩
/-- The blocks of an index. -/
structure IxF where
  x : Nat
  f : SF
  t : Nat
  d : Nat
def IxF.mem (X : IxF) (k : Nat) : Prop := k = X.x ∨ X.f.mem k ∨ k = X.t ∨ k = X.d
structure IxR (w : World) (X : IxF) (σ : List (Option Int)) (h : Nat) : Prop where
  c : Has w X.x [.pointer (some ⟨X.f.s, 0, none⟩), .pointer (some ⟨X.t, 0, none⟩)] 107
  sl : SlotsR w X.f σ
  tr : TreeR w X.t X.d h (cntsL σ)
  h2 : 2 ≤ h
  h9 : h ≤ 9
  len : σ.length = 8 * 2 ^ h
  up : Up (its σ)
section
variable {w w' : World} {X : IxF} {σ : List (Option Int)} {h : Nat}
theorem IxR.fr (H : IxR w X σ h) {S : Nat → Prop} (hf : Fr S w w') (hS : ∀ k, X.mem k → ¬ S k) : IxR w' X σ h :=
  ⟨H.c.fr' hf (hS _ (.inl rfl)), H.sl.fr hf (fun k hk => hS _ (.inr (.inl hk))), H.tr.fr hf (hS _ (.inr (.inr (.inl rfl)))) (hS _ (.inr (.inr (.inr rfl)))), H.h2, H.h9, H.len, H.up⟩
theorem IxR.new (H : IxR w X σ h) (hf : Fr Nil1 w w') : IxR w' X σ h := H.fr hf (fun _ _ h => h)
theorem IxR.lt (H : IxR w X σ h) : ∀ k, X.mem k → k < w.heap.size := by
  rintro k (rfl | hk | rfl | rfl)
  · exact H.c.lt
  · exact H.sl.lt k hk
  · exact H.tr.lt.1
  · exact H.tr.lt.2
theorem LowO.neg {key r : Int} (H : LowO σ key r) (hl : lessC (its σ) key = (its σ).length) : r = -1 := by
  cases H with
  | none hr _ => exact hr
  | some q x hr hq hx hc =>
    have h1 := its_get σ q x hq
    have h2 := (List.getElem?_eq_some_iff.1 h1).1
    omega
theorem LowO.pos {key r : Int} (H : LowO σ key r) (hl : lessC (its σ) key ≠ (its σ).length) : ∃ q : Nat, r = q ∧ q < σ.length ∧ cntOn (onOf σ) q = lessC (its σ) key := by
  cases H with
  | none _ h => exact absurd h hl
  | some q x hr hq hx hc => exact ⟨q, hr, getD_lt hq, hc⟩
theorem IxR.total (H : IxR w X σ h) : preI (cntsL σ) (2 ^ h) = ((its σ).length : Nat) := by
  rw [preI_cnts σ (2 ^ h) H.len (2 ^ h) (Nat.le_refl _), ← H.len, its_length]
theorem IxR.few (H : IxR w X σ h) : (its σ).length ≤ 4096 := by
  have := cntOn_le (onOf σ) σ.length
  rw [← its_length] at this
  have := p2_le H.h9
  have := H.len
  omega
set_option maxRecDepth 100000 in
set_option maxHeartbeats 1000000 in
theorem rankRank_any (H : IxR w X σ h) (key : Int) : Calls Tryz.prog 32 #[.pointer (some ⟨X.x, 0, none⟩), .int .i64 key] w fun e w' => e = .returned (.int .i64 (lessC (its σ) key : Nat)) ∧ Fr Nil1 w w' := by
  have HL := hid (findLower_any H.sl H.up key)
  have hz := p2_le H.h9
  have c0 := H.c.cell 0
  have c1 := H.c.cell 1
  have HH := hid H
  by_cases hl : lessC (its σ) key = (its σ).length
  · have HLs := hid hl
    clear hl
    go_enter Tryz.func32, Tryz.ntmps32
    go_wp2_with (first
      | (go_at_call 79; (with_reducible refine (treeTotal_ok (HH.out.new H1.out.2).tr).mono ?_); rintro e w2 ⟨rfl, rfl⟩)
      | (go_at_call 78; refine HL.out.mono ?_; rintro e w1 ⟨r, cc, rfl, H1⟩; obtain rfl := H1.out.1.neg HLs.out; have HX := hid (HH.out.new H1.out.2); have k0 := HX.out.c.cell 0; have k1 := HX.out.c.cell 1))
    go_ret
    exact ⟨by rw [HH.out.total, HLs.out]; rfl, H1.out.2⟩
  · have HLs := hid hl
    have HFac := hid (fun (q : Nat) (hq : q < σ.length) (hc : cntOn (onOf σ) q = lessC (its σ) key) (w1 : World) (hf : Fr Nil1 w w1) => show ∃ x y : Nat, x + y = lessC (its σ) key ∧ x + y ≤ 4096 ∧ q ≤ 4096 ∧
        (Calls Tryz.prog 80 #[.int .i64 q] w1 fun e w' => e = .returned (.tuple #[.int .i64 ((q : Int) / 8), .int .i64 0]) ∧ w1 = w') ∧
        (Calls Tryz.prog 81 #[.pointer (some ⟨X.t, 0, none⟩), .int .i64 ((q : Int) / 8)] w1 fun e w' => e = .returned (.tuple #[.int .i64 x, .int .i64 0]) ∧ w1 = w') ∧
        (Calls Tryz.prog 73 #[.pointer (some ⟨X.f.s, 0, none⟩), .int .i64 ((q : Int) / 8 * 8), .int .i64 q] w1 fun e w' => e = .returned (.tuple #[.int .i64 y, .int .i64 0]) ∧ w1 = w') from by
      have HX := H.new hf
      have hl := HX.len
      have hah := treeAhead_ok HX.tr (q / 8) (by omega)
      rw [preI_cnts σ (2 ^ h) hl (q / 8) (by omega)] at hah
      have hcn := gapsCount_any HX.sl (8 * (q / 8 : Nat)) q (by omega) (by omega) (by omega)
      rw [show (8 * ((q / 8 : Nat) : Int)).toNat = 8 * (q / 8) by omega, Int.toNat_natCast] at hcn
      have e8 : ((q / 8 : Nat) : Int) = (q : Int) / 8 := by omega
      rw [e8] at hah hcn
      rw [show 8 * ((q : Int) / 8) = (q : Int) / 8 * 8 by omega] at hcn
      have hle := cntOn_le_of (onOf σ) (show 8 * (q / 8) ≤ q by omega)
      have hle2 := cntOn_le (onOf σ) q
      exact ⟨_, _, by omega, by omega, by omega, levelSeg_ok q (by omega) w1, hah, hcn⟩)
    clear hl H
    go_enter Tryz.func32, Tryz.ntmps32
    go_wp2_with (first
      | (go_at_call 73; (with_reducible refine HCn.out.mono ?_); rintro e w4 ⟨rfl, rfl⟩)
      | (go_at_call 81; (with_reducible refine HAh.out.mono ?_); rintro e w3 ⟨rfl, rfl⟩)
      | (go_at_call 80; (with_reducible refine HSg.out.mono ?_); rintro e w2 ⟨rfl, rfl⟩)
      | (go_at_call 78; refine HL.out.mono ?_; rintro e w1 ⟨r, cc, rfl, H1⟩; obtain ⟨q, rfl, hq, hc⟩ := H1.out.1.pos HLs.out; have HX := hid (HH.out.new H1.out.2); have k0 := HX.out.c.cell 0; have k1 := HX.out.c.cell 1; obtain ⟨x, y, hxy, hsum, hq4, h5, h6, h7⟩ := HFac.out q hq hc w1 H1.out.2; have HSg := hid h5; have HAh := hid h6; have HCn := hid h7; have HE := hid hxy; clear h5 h6 h7 hxy hq hc))
    go_ret
    exact ⟨by rw [← HE.out]; rfl, H1.out.2⟩
theorem rankRank_nil (key : Int) (w : World) : Calls Tryz.prog 32 #[.pointer none, .int .i64 key] w fun e w' => e = .returned (.int .i64 0) ∧ w = w' := by
  go_enter Tryz.func32, Tryz.ntmps32
  go_wp2_with fail
  go_ret
  exact ⟨rfl, rfl⟩
end
end Go.Proofs.YtmbkmojekpkfhaaGreatDoor
