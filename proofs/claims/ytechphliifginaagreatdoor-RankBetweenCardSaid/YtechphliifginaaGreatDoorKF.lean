/- RankBetween, as it is called: the walk. -/
import Derived.Test.YtechphliifginaaGreatDoorKR
import Derived.Test.YtechphliifginaaGreatDoorBP
import Derived.Test.YtechphliifginaaGreatDoorCY
set_option linter.unusedVariables false
set_option linter.unusedSimpArgs false
namespace Go.Proofs.YtechphliifginaaGreatDoor
open Go.RowKit

set_option maxRecDepth 100000 in
set_option maxHeartbeats 8000000 in
theorem rankBetweenL_any (u v : Value) (l : List Int) (acts : List AcS) (t0 t1 t2 : Int) (w : World) (hu : Rd w u (ints' l)) (hv : RdAm w v acts) (hg : GW w) : Calls Tryz.prog 11 #[.agg #[u, v], .agg #[.int .i64 t0, .int .i64 t1, .int .i64 t2]] w fun e w' => e = .returned (.bool true) ∧ Fr Nil1 w w' := by
  have HAw := hid (fun w' (hf : Fr Nil1 w w') => awake15_any w' (hg.fr hf))
  have HMany := hid (fun (hN : 100 < acts.length) w' (hf : Fr Nil1 w w') => set14_many u acts (hu.new hf) (hv.new hf) hN)
  have HAny := hid (fun (hN : acts.length ≤ 100) w' (hf : Fr Nil1 w w') => set14_any u acts (hu.new hf) (hv.new hf) hN (hg.fr hf))
  obtain ⟨A, c, rfl, _, _⟩ := hu
  obtain ⟨B, d, rfl, _, _⟩ := hv
  rw [ints'_length] at HMany HAny ⊢
  have hb := (Has.new w [.slice A l.length c, .slice B acts.length d] 52).alloc (.cells #[.int .i64 t0, .int .i64 t1, .int .i64 t2] 76)
  have hb2 := Has.new (w.alloc (.cells #[.slice A l.length c, .slice B acts.length d] 52)) [.int .i64 t0, .int .i64 t1, .int .i64 t2] 76
  simp only [World.size_alloc] at hb2
  have HBx := hid hb
  have HB2 := hid hb2
  have c0 := hb.cell 0
  have c1 := hb.cell 1
  have HF := hid (show Fr Nil1 w ((w.alloc (.cells #[.slice A l.length c, .slice B acts.length d] 52)).alloc (.cells #[.int .i64 t0, .int .i64 t1, .int .i64 t2] 76)) from ((Fr.refl _ _).alloc _).alloc _)
  clear hb hb2 hg
  by_cases hN : 100 < acts.length
  · have hI : (100 : Int) < (acts.length : Int) := by omega
    have HM := hid (HMany.out hN _ HF.out)
    clear hN HMany HAny
    go_enter Tryz.func11, Tryz.ntmps11
    go_wp2_with (first
      | (go_at_call 52; (with_reducible refine (HAw.out w1 (HF.out.trans HF1.out)).mono ?_); rintro e w2 ⟨rfl, h2⟩; have HF2 := hid h2; clear h2)
      | (go_at_call 33; (with_reducible refine HM.out.mono ?_); rintro e w1 ⟨rfl, h1⟩; have HF1 := hid h1; have k0 := (HBx.out.fr' h1 id).cell 0; have k1 := (HBx.out.fr' h1 id).cell 1; clear h1))
    go_ret
    exact ⟨rfl, (HF.out.trans HF1.out).trans HF2.out⟩
  · have HM := hid (HAny.out (by omega) _ HF.out)
    clear hN HMany HAny
    go_enter Tryz.func11, Tryz.ntmps11
    go_upto_region 7 with (first
      | (go_at_call 53; (with_reducible refine (rankOf_rk H2.out.set.ss).mono ?_); rintro e w3 ⟨X, rfl, σ, h, H3⟩)
      | (go_at_call 33; (with_reducible refine HM.out.mono ?_); rintro e w2 ⟨s, vk, rfl, ks, H2⟩))
    have HF3 := hid ((HF.out.trans H2.out.set.ss.fr).trans H3.out.2.1)
    have HB3 := hid (HB2.out.fr' (H2.out.set.ss.fr.trans H3.out.2.1) id)
    have HBt := hid (fun w' (hf : Fr Nil1 w3 w') lo hi => (H3.out.1.new hf).between lo hi)
    have HRk := hid (fun w' (hf : Fr Nil1 w3 w') key => (H3.out.1.new hf).rank key)
    have HCt := hid (fun w' (hf : Fr Nil1 w3 w') (lo hi : Int) => show Calls Tryz.prog 48 #[.pointer (some ⟨s, 0, none⟩), .int .i64 lo, .int .i64 hi] w' fun e w'' => e = .returned (.int .i64 (btwK ks lo hi)) ∧ Fr Nil1 w' w'' from by
      have := scanCount_any (H3.out.1.ss.new hf) lo hi
      rwa [btwL_lenK] at this)
    have hln := H2.out.len
    have hA := btwK_bd ks t0 t1
    have hB := btwK_bd ks t1 t2
    have hC := btwK_bd ks t0 t2
    have hR0 := lessC_le ks t0
    have hR1 := lessC_le ks t1
    have e1 : t1 < t0 → btwK ks t0 t1 = 0 := fun h => btwK_none ks (by omega)
    have e2 : t0 ≤ t1 → t1 ≤ t2 → btwK ks t0 t1 + btwK ks t1 t2 = btwK ks t0 t2 := btwK_add ks
    have e3 : t0 ≤ t1 → ((lessC ks t0 : Nat) : Int) + btwK ks t0 t1 = ((lessC ks t1 : Nat) : Int) := btwK_rank ks
    have HB01 := hid (fun w' (hf : Fr Nil1 w3 w') => HBt.out w' hf t0 t1)
    have HB12 := hid (fun w' (hf : Fr Nil1 w3 w') => HBt.out w' hf t1 t2)
    have HB02 := hid (fun w' (hf : Fr Nil1 w3 w') => HBt.out w' hf t0 t2)
    have HC01 := hid (fun w' (hf : Fr Nil1 w3 w') => HCt.out w' hf t0 t1)
    have HK0 := hid (fun w' (hf : Fr Nil1 w3 w') => HRk.out w' hf t0)
    have HK1 := hid (fun w' (hf : Fr Nil1 w3 w') => HRk.out w' hf t1)
    obtain ⟨a, ha⟩ : ∃ a, btwK ks t0 t1 = a := ⟨_, rfl⟩
    obtain ⟨b, hb⟩ : ∃ b, btwK ks t1 t2 = b := ⟨_, rfl⟩
    obtain ⟨cc, hcc⟩ : ∃ cc, btwK ks t0 t2 = cc := ⟨_, rfl⟩
    obtain ⟨p, hp⟩ : ∃ p : Int, ((lessC ks t0 : Nat) : Int) = p := ⟨_, rfl⟩
    obtain ⟨q, hq⟩ : ∃ q : Int, ((lessC ks t1 : Nat) : Int) = q := ⟨_, rfl⟩
    have b1 : 0 ≤ a ∧ a ≤ 300 := by omega
    have b2 : 0 ≤ b ∧ b ≤ 300 := by omega
    have b3 : 0 ≤ cc ∧ cc ≤ 300 := by omega
    have b4 : 0 ≤ p ∧ p ≤ 300 := by omega
    have b5 : 0 ≤ q ∧ q ≤ 300 := by omega
    rw [ha] at HB01 HC01 e1 e2 e3
    rw [hb] at HB12 e2
    rw [hcc] at HB02 e2
    rw [hp] at HK0 e3
    rw [hq] at HK1 e3
    have E1 := hid e1
    have E2 := hid e2
    have E3 := hid e3
    have g0 := HB3.out.cell 0
    have g1 := HB3.out.cell 1
    have g2 := HB3.out.cell 2
    clear ha hb hcc hp hq hA hB hC hR0 hR1 HCt HBt HRk e1 e2 e3 hln H2 H3
    have ha0 : ¬ a < 0 := by omega
    have w1' : wrap64 (a + b) = a + b := IntWalk.wrap64_in _ (by omega)
    have w2' : wrap64 (p + a) = p + a := IntWalk.wrap64_in _ (by omega)
    by_cases h1 : t0 ≤ t1
    · by_cases h2 : t1 ≤ t2
      · have q2 := E2.out h1 h2
        have q3 := E3.out h1
        rw [q2] at w1'
        rw [q3] at w2'
        have w3' : IntKind.i64.wrap (a + b) = cc := by rw [q2]; exact IntWalk.i64_in _ (by omega)
        have w4' : IntKind.i64.wrap (p + a) = q := by rw [q3]; exact IntWalk.i64_in _ (by omega)
        have n1 : ¬ t1 < t0 := by omega
        have n2 : ¬ t2 < t1 := by omega
        clear b1 b2 b3 b4 b5 h1 h2 q2 q3
        go_upto_region 12 with (first
          | (go_at_call 48; (with_reducible refine (HC01.out w4 HF4.out).mono ?_); rintro e w5 ⟨rfl, h5⟩; have HF5 := hid (HF4.out.trans h5); have i0 := (HB3.out.fr' (HF4.out.trans h5) id).cell 0; have i1 := (HB3.out.fr' (HF4.out.trans h5) id).cell 1; have i2 := (HB3.out.fr' (HF4.out.trans h5) id).cell 2; clear h5)
          | (go_at_call 54; (with_reducible refine (HB01.out w3 (Fr.refl _ _)).mono ?_); rintro e w4 ⟨rfl, h4⟩; have HF4 := hid h4; have k0 := (HB3.out.fr' h4 id).cell 0; have k1 := (HB3.out.fr' h4 id).cell 1; have k2 := (HB3.out.fr' h4 id).cell 2; clear h4))
        have thr := hid (show ∀ wz, Fr Nil1 w3 wz → wz.cell? ⟨w.heap.size + 1, 0, none⟩ = some (.int .i64 t0) ∧ wz.cell? ⟨w.heap.size + 1, 1, none⟩ = some (.int .i64 t1) ∧ wz.cell? ⟨w.heap.size + 1, 2, none⟩ = some (.int .i64 t2) from fun wz hf => ⟨(HB3.out.fr' hf id).cell 0, (HB3.out.fr' hf id).cell 1, (HB3.out.fr' hf id).cell 2⟩)
        have s5 := thr.out w5 HF5.out
        clear g0 g1 g2 k0 k1 k2 i0 i1 i2
        go_region_held3 (fun w' => w'.cell? ⟨w.heap.size + 1, 0, none⟩ = some (.int .i64 t0) ∧ w'.cell? ⟨w.heap.size + 1, 1, none⟩ = some (.int .i64 t1) ∧ w'.cell? ⟨w.heap.size + 1, 2, none⟩ = some (.int .i64 t2))
          (first | exact s9 | exact s8 | exact s7 | exact s6 | exact s5 | go_keep)
          (first
          | (go_at_call 52; (with_reducible refine (HAw.out w9 (HF3.out.trans HF9.out)).mono ?_); rintro e w10 ⟨rfl, h10⟩; have HF10 := hid h10; have s10 := thr.out w10 (HF9.out.trans h10); clear h10)
          | (go_at_call 55; (with_reducible refine (HK1.out w8 HF8.out).mono ?_); rintro e w9 ⟨rfl, h9⟩; have HF9 := hid (HF8.out.trans h9); have s9 := thr.out w9 (HF8.out.trans h9); clear h9)
          | (go_at_call 55; (with_reducible refine (HK0.out w7 HF7.out).mono ?_); rintro e w8 ⟨rfl, h8⟩; have HF8 := hid (HF7.out.trans h8); have s8 := thr.out w8 (HF7.out.trans h8); clear h8)
          | (go_at_call 54; (with_reducible refine (HB02.out w6 HF6.out).mono ?_); rintro e w7 ⟨rfl, h7⟩; have HF7 := hid (HF6.out.trans h7); have s7 := thr.out w7 (HF6.out.trans h7); clear h7)
          | (go_at_call 54; refine (HB12.out w5.drew HF5.out.drew).mono ?_; rintro e w6 ⟨rfl, h6⟩; have HF6 := hid (HF5.out.drew.trans h6); have s6 := thr.out w6 (HF5.out.drew.trans h6); clear h6))
        go_wp2_with fail
        go_ret
        exact ⟨by simp, (HF3.out.trans HF9.out).trans HF10.out⟩
      · have n1 : ¬ t1 < t0 := by omega
        have n2 : t2 < t1 := by omega
        clear b1 b2 b3 b4 b5 h2
        go_wp2_with (first
          | (go_at_call 52; (with_reducible refine (HAw.out w5 (HF3.out.trans HF5.out)).mono ?_); rintro e w10 ⟨rfl, h10⟩; have HF10 := hid h10; clear h10)
          | (go_at_call 48; (with_reducible refine (HC01.out w4 HF4.out).mono ?_); rintro e w5 ⟨rfl, h5⟩; have HF5 := hid (HF4.out.trans h5); have i0 := (HB3.out.fr' (HF4.out.trans h5) id).cell 0; have i1 := (HB3.out.fr' (HF4.out.trans h5) id).cell 1; have i2 := (HB3.out.fr' (HF4.out.trans h5) id).cell 2; clear h5)
          | (go_at_call 54; (with_reducible refine (HB01.out w3 (Fr.refl _ _)).mono ?_); rintro e w4 ⟨rfl, h4⟩; have HF4 := hid h4; have k0 := (HB3.out.fr' h4 id).cell 0; have k1 := (HB3.out.fr' h4 id).cell 1; have k2 := (HB3.out.fr' h4 id).cell 2; clear h4))
        go_ret
        exact ⟨by simp, (HF3.out.trans HF5.out).trans HF10.out⟩
    · obtain rfl := E1.out (by omega)
      have n1 : t1 < t0 := by omega
      clear b1 b2 b3 b4 b5
      go_wp2_with (first
          | (go_at_call 52; (with_reducible refine (HAw.out w5 (HF3.out.trans HF5.out)).mono ?_); rintro e w10 ⟨rfl, h10⟩; have HF10 := hid h10; clear h10)
          | (go_at_call 48; (with_reducible refine (HC01.out w4 HF4.out).mono ?_); rintro e w5 ⟨rfl, h5⟩; have HF5 := hid (HF4.out.trans h5); have i0 := (HB3.out.fr' (HF4.out.trans h5) id).cell 0; have i1 := (HB3.out.fr' (HF4.out.trans h5) id).cell 1; have i2 := (HB3.out.fr' (HF4.out.trans h5) id).cell 2; clear h5)
          | (go_at_call 54; (with_reducible refine (HB01.out w3 (Fr.refl _ _)).mono ?_); rintro e w4 ⟨rfl, h4⟩; have HF4 := hid h4; have k0 := (HB3.out.fr' h4 id).cell 0; have k1 := (HB3.out.fr' h4 id).cell 1; have k2 := (HB3.out.fr' h4 id).cell 2; clear h4))
      go_ret
      exact ⟨by simp, (HF3.out.trans HF5.out).trans HF10.out⟩
end Go.Proofs.YtechphliifginaaGreatDoor
