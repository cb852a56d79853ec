/- RankRanks, as it is called: the walk. -/
import Derived.Test.YtmbkmojekpkfhaaGreatDoorKQ
import Derived.Deep.Cut
set_option linter.unusedVariables false
set_option linter.unusedSimpArgs false
namespace Go.Proofs.YtmbkmojekpkfhaaGreatDoor
open Go.RowKit

/-- What Select tells, as one word. -/
def selV (ks : List Int) (n : Int) : Int × Int := if n < 0 ∨ (ks.length : Int) ≤ n then (0, 14) else (ks.getD n.toNat 0, 0)
theorem RkS.selectV {w0 w : World} {s h : Nat} {X : IxF} {σ : List (Option Int)} {ks : List Int} (H : RkS w0 s X σ h ks w) (n : Int) : Calls Tryz.prog 29 #[.pointer (some ⟨X.x, 0, none⟩), .int .i64 n] w fun e w' => e = .returned (.tuple #[.int .i64 (selV ks n).1, .int .i64 (selV ks n).2]) ∧ w = w' := by
  unfold selV
  by_cases hb : n < 0 ∨ (ks.length : Int) ≤ n
  · rw [if_pos hb]; exact H.selectNone n hb
  · rw [if_neg hb]
    have := H.select n.toNat (by omega)
    rwa [show ((n.toNat : Nat) : Int) = n by omega] at this
theorem ref15SelectV (l : List Int) (n : Int) {u : Value} {w : World} (hu : Rd w u (ints' l)) : Calls Tryz.prog 30 #[u, .int .i64 n] w fun e w' => e = .returned (.tuple #[.int .i64 (selV l n).1, .int .i64 (selV l n).2]) ∧ w = w' := by
  have := ref15Select_any l n hu
  unfold selV
  by_cases hb : n < 0 ∨ (l.length : Int) ≤ n
  · rw [if_pos hb] at this ⊢; exact this
  · rw [if_neg hb] at this ⊢; exact this
theorem RkS.between {w0 w : World} {s h : Nat} {X : IxF} {σ : List (Option Int)} {ks : List Int} (H : RkS w0 s X σ h ks w) (lo hi : Int) : Calls Tryz.prog 33 #[.pointer (some ⟨X.x, 0, none⟩), .int .i64 lo, .int .i64 hi] w fun e w' => e = .returned (.int .i64 (btwK ks lo hi)) ∧ Fr Nil1 w w' := by
  have := rankBetween_any H.ix lo hi
  rwa [H.eq] at this
set_option maxRecDepth 100000 in
set_option maxHeartbeats 8000000 in
theorem rankRanks_any (u v : Value) (l : List Int) (acts : List AcS) (key n hi : Int) (w : World) (hu : Rd w u (ints' l)) (hv : RdAm w v acts) (hg : GW w) : Calls Tryz.prog 5 #[.agg #[u, v], .int .i64 key, .agg #[.int .i64 n, .int .i64 hi]] w fun e w' => e = .returned (.bool true) ∧ Fr Nil1 w w' := by
  have HAw := hid (fun w' (hf : Fr Nil1 w w') => awake15_any w' (hg.fr hf))
  have HMany := hid (fun (hN : 100 < acts.length) w' (hf : Fr Nil1 w w') => set14_many u acts (hu.new hf) (hv.new hf) hN)
  have HAny := hid (fun (hN : acts.length ≤ 100) w' (hf : Fr Nil1 w w') => set14_any u acts (hu.new hf) (hv.new hf) hN (hg.fr hf))
  obtain ⟨A, c, rfl, _, _⟩ := hu
  obtain ⟨B, d, rfl, _, _⟩ := hv
  rw [ints'_length] at HMany HAny ⊢
  have hb := (Has.new w [.slice A l.length c, .slice B acts.length d] 52).alloc (.cells #[.int .i64 n, .int .i64 hi] 54)
  have hb2 := Has.new (w.alloc (.cells #[.slice A l.length c, .slice B acts.length d] 52)) [.int .i64 n, .int .i64 hi] 54
  simp only [World.size_alloc] at hb2
  have HBx := hid hb
  have c0 := hb.cell 0
  have c1 := hb.cell 1
  have c2 := hb2.cell 0
  have c3 := hb2.cell 1
  have HF := hid (show Fr Nil1 w ((w.alloc (.cells #[.slice A l.length c, .slice B acts.length d] 52)).alloc (.cells #[.int .i64 n, .int .i64 hi] 54)) from ((Fr.refl _ _).alloc _).alloc _)
  clear hb hb2 hg
  by_cases hN : 100 < acts.length
  · have hI : (100 : Int) < (acts.length : Int) := by omega
    have HM := hid (HMany.out hN _ HF.out)
    clear hN HMany HAny
    go_enter Tryz.func5, Tryz.ntmps5
    go_wp2_with (first
      | (go_at_call 27; (with_reducible refine (HAw.out w1 (HF.out.trans HF1.out)).mono ?_); rintro e w2 ⟨rfl, h2⟩; have HF2 := hid h2; clear h2)
      | (go_at_call 26; (with_reducible refine HM.out.mono ?_); rintro e w1 ⟨rfl, h1⟩; have HF1 := hid h1; have k0 := (HBx.out.fr' h1 id).cell 0; have k1 := (HBx.out.fr' h1 id).cell 1; clear h1))
    go_ret
    exact ⟨rfl, (HF.out.trans HF1.out).trans HF2.out⟩
  · have HM := hid (HAny.out (by omega) _ HF.out)
    clear hN HMany HAny
    go_enter Tryz.func5, Tryz.ntmps5
    go_upto_region 12 with (first
      | (go_at_call 31; (with_reducible refine HRfH.out.mono ?_); rintro e w4 ⟨rfl, rfl⟩)
      | (go_at_call 31; (with_reducible refine HRfK.out.mono ?_); rintro e w4 ⟨rfl, rfl⟩)
      | (go_at_call 30; (with_reducible refine HRs.out.mono ?_); rintro e w4 ⟨rfl, rfl⟩)
      | (go_at_call 29; (with_reducible refine (H3.out.1.selectV n).mono ?_); rintro e w4 ⟨rfl, rfl⟩)
      | (go_at_call 28; (with_reducible refine (rankOf_rk H2.out.set.ss).mono ?_); rintro e w3 ⟨X, rfl, σ, h, H3⟩; have HRd := hid (fun wz (hf : Fr Nil1 w3 wz) => ((H2.out.row.new H3.out.2.1).new hf).rd (by have := H2.out.len; omega)); have HRs := hid (ref15SelectV ks n (HRd.out w3 (Fr.refl _ _))); have HRfH := hid (ref15Rank_any ks H2.out.set.ss.up (by have := H2.out.len; omega) hi (HRd.out w3 (Fr.refl _ _))); have HRfK := hid (ref15Rank_any ks H2.out.set.ss.up (by have := H2.out.len; omega) key (HRd.out w3 (Fr.refl _ _))))
      | (go_at_call 26; (with_reducible refine HM.out.mono ?_); rintro e w2 ⟨s, vk, rfl, ks, H2⟩))
    have HF3 := hid ((HF.out.trans H2.out.set.ss.fr).trans H3.out.2.1)
    have HRk := hid (H3.out.1.rank key)
    have HBt := hid (fun w' (hf : Fr Nil1 w3 w') => (H3.out.1.new hf).between key hi)
    have HRfG := hid (fun wz (hf : Fr Nil1 w3 wz) => ref15Rank_any ks H2.out.set.ss.up (by have := H2.out.len; omega) key (HRd.out wz hf))
    have hl1 := lessC_le ks key
    have hl2 := lessC_le ks hi
    have hl3 := H2.out.len
    have hbt : btwK ks key hi = if (lessC ks key : Int) ≤ (lessC ks hi : Int) then (lessC ks hi : Int) - (lessC ks key : Int) else 0 := rfl
    rw [hbt] at HBt
    clear hbt HRd
    obtain ⟨p, hp⟩ : ∃ p : Int, ((lessC ks hi : Nat) : Int) = p := ⟨_, rfl⟩
    obtain ⟨q, hq⟩ : ∃ q : Int, ((lessC ks key : Nat) : Int) = q := ⟨_, rfl⟩
    have hp0 : 0 ≤ p ∧ p ≤ 300 := by omega
    have hq0 : 0 ≤ q ∧ q ≤ 300 := by omega
    rw [hp, hq] at HBt
    rw [hq] at HRk HRfG
    rw [hp, hq]
    have hw : wrap64 (p - q) = p - q := IntWalk.wrap64_in _ (by omega)
    clear hp hq hl1 hl2 hl3
    by_cases hlt : q ≤ p
    · rw [if_pos hlt] at HBt
      have hd : decide (p - q < 0) = false := decide_eq_false (by omega)
      clear hlt hp0 hq0
      generalize p - q = r at *
      go_wp2_with (first
        | (go_at_call 27; (with_reducible refine (HAw.out w9 (HF3.out.trans (HF8.out.trans HF9.out))).mono ?_); rintro e w10 ⟨rfl, h10⟩; have HF10 := hid h10; clear h10)
        | (go_at_call 33; (with_reducible refine (HBt.out w8 HF8.out).mono ?_); rintro e w9 ⟨rfl, h9⟩; have HF9 := hid h9; clear h9)
        | (go_at_call 31; (with_reducible refine (HRfG.out w8 HF8.out).mono ?_); rintro e w12 ⟨rfl, rfl⟩)
        | (go_at_call 32; (with_reducible refine HRk.out.mono ?_); rintro e w8 ⟨rfl, h8⟩; have HF8 := hid h8; clear h8))
      go_ret
      exact ⟨by simp, (HF3.out.trans (HF8.out.trans HF9.out)).trans HF10.out⟩
    · rw [if_neg hlt] at HBt
      have hd : decide (p - q < 0) = true := decide_eq_true (by omega)
      clear hlt hp0 hq0
      generalize p - q = r at *
      go_wp2_with (first
        | (go_at_call 27; (with_reducible refine (HAw.out w9 (HF3.out.trans (HF8.out.trans HF9.out))).mono ?_); rintro e w10 ⟨rfl, h10⟩; have HF10 := hid h10; clear h10)
        | (go_at_call 33; (with_reducible refine (HBt.out w8 HF8.out).mono ?_); rintro e w9 ⟨rfl, h9⟩; have HF9 := hid h9; clear h9)
        | (go_at_call 31; (with_reducible refine (HRfG.out w8 HF8.out).mono ?_); rintro e w12 ⟨rfl, rfl⟩)
        | (go_at_call 32; (with_reducible refine HRk.out.mono ?_); rintro e w8 ⟨rfl, h8⟩; have HF8 := hid h8; clear h8))
      go_ret
      exact ⟨by simp, (HF3.out.trans (HF8.out.trans HF9.out)).trans HF10.out⟩
end Go.Proofs.YtmbkmojekpkfhaaGreatDoor
