/- ScanParts, as it is called: the walk. -/
import Derived.Test.YtechphliifginaaGreatDoorTF
import Derived.Test.YtechphliifginaaGreatDoorCN
import Derived.BigQuiet
import Derived.Deep.QuietTactic
import Derived.Test.YtechphliifginaaGreatDoorBP
import Derived.Deep.Cut
set_option linter.unusedVariables false
set_option linter.unusedSimpArgs false
namespace Go.Proofs.YtechphliifginaaGreatDoor
open Go.RowKit

theorem rev_getD {xs : List Int} {i : Nat} (hi : i < xs.length) : xs.reverse.getD (xs.length - 1 - i) 0 = xs.getD i 0 := by
  rw [List.getD_eq_getElem?_getD, List.getD_eq_getElem?_getD, List.getElem?_reverse (by omega)]
  congr 2
  omega
set_option maxRecDepth 100000 in
set_option maxHeartbeats 8000000 in
theorem scanParts_any (u v : Value) (l : List Int) (acts : List AcS) (t0 t1 t2 : Int) (w : World) (hu : Rd w u (ints' l)) (hv : RdAm w v acts) (hg : GW w) : Calls Tryz.prog 8 #[.agg #[u, v], .agg #[.int .i64 t0, .int .i64 t1, .int .i64 t2]] w fun e w' => e = .returned (.bool true) ∧ Fr Nil1 w w' := by
  have HAw := hid (fun w' (hf : Fr Nil1 w w') => awake14_any w' (hg.fr hf))
  have HMany := hid (fun (hN : 100 < acts.length) w' (hf : Fr Nil1 w w') => set14_many u acts (hu.new hf) (hv.new hf) hN)
  have HAny := hid (fun (hN : acts.length ≤ 100) w' (hf : Fr Nil1 w w') => set14_any u acts (hu.new hf) (hv.new hf) hN (hg.fr hf))
  have HGw := hid hg
  obtain ⟨A, c, rfl, _, _⟩ := hu
  obtain ⟨B, d, rfl, _, _⟩ := hv
  rw [ints'_length] at HMany HAny ⊢
  have hb := (Has.new w [.slice A l.length c, .slice B acts.length d] 52).alloc (.cells #[.int .i64 t0, .int .i64 t1, .int .i64 t2] 76)
  have hb2 := Has.new (w.alloc (.cells #[.slice A l.length c, .slice B acts.length d] 52)) [.int .i64 t0, .int .i64 t1, .int .i64 t2] 76
  simp only [World.size_alloc] at hb2
  have HBx := hid hb
  have HB2 := hid hb2
  have c0 := hb.cell 0
  have c1 := hb.cell 1
  have HF := hid (show Fr Nil1 w ((w.alloc (.cells #[.slice A l.length c, .slice B acts.length d] 52)).alloc (.cells #[.int .i64 t0, .int .i64 t1, .int .i64 t2] 76)) from ((Fr.refl _ _).alloc _).alloc _)
  clear hb hb2 hg
  by_cases hN : 100 < acts.length
  · have hI : (100 : Int) < (acts.length : Int) := by omega
    have HM := hid (HMany.out hN _ HF.out)
    clear hN HMany HAny
    go_enter Tryz.func8, Tryz.ntmps8
    go_wp2_with (first
      | (go_at_call 34; (with_reducible refine (HAw.out w1 (HF.out.trans HF1.out)).mono ?_); rintro e w2 ⟨rfl, h2⟩; have HF2 := hid h2; clear h2)
      | (go_at_call 33; (with_reducible refine HM.out.mono ?_); rintro e w1 ⟨rfl, h1⟩; have HF1 := hid h1; have k0 := (HBx.out.fr' h1 id).cell 0; have k1 := (HBx.out.fr' h1 id).cell 1; clear h1))
    go_ret
    exact ⟨rfl, (HF.out.trans HF1.out).trans HF2.out⟩
  · have HM := hid (HAny.out (by omega) _ HF.out)
    clear hN HMany HAny
    go_enter Tryz.func8, Tryz.ntmps8
    go_upto_region 4 with (go_at_call 33; (with_reducible refine HM.out.mono ?_); rintro e w2 ⟨s, vk, rfl, ks, H2⟩)
    have HF2 := hid (HF.out.trans H2.out.set.ss.fr)
    have HG2 := hid (HGw.out.fr HF2.out)
    have HB3 := hid (HB2.out.fr' H2.out.set.ss.fr id)
    have HU := hid (fun wz (hf : Fr Nil1 w2 wz) lo hi => up14_any (H2.out.set.ss.new hf) lo hi)
    have HD := hid (fun wz (hf : Fr Nil1 w2 wz) lo hi => down14_any (H2.out.set.ss.new hf) lo hi)
    have HC := hid (fun wz (hf : Fr Nil1 w2 wz) lo hi => scanCount_any (H2.out.set.ss.new hf) lo hi)
    have HUp := hid H2.out.set.ss.up
    have hln := H2.out.len
    have hl1 := btwL_len ks t0 t1
    have hl2 := btwL_len ks t1 t2
    have HMem := hid (fun x (h : x ∈ btwL ks t0 t1) => (mem_btwL HUp.out).1 h)
    have HApp := hid (fun (h1 : t0 ≤ t1) (h2 : t1 ≤ t2) => btwL_app ks h1 h2)
    have HNo := hid (fun (h : t1 ≤ t0) => btwL_none ks h)
    have HU01 := hid (fun wz (hf : Fr Nil1 w2 wz) => HU.out wz hf t0 t1)
    have HU12 := hid (fun wz (hf : Fr Nil1 w2 wz) => HU.out wz hf t1 t2)
    have HU02 := hid (fun wz (hf : Fr Nil1 w2 wz) => HU.out wz hf t0 t2)
    have HD01 := hid (fun wz (hf : Fr Nil1 w2 wz) => HD.out wz hf t0 t1)
    have HC01 := hid (fun wz (hf : Fr Nil1 w2 wz) => HC.out wz hf t0 t1)
    obtain ⟨L, hL⟩ : ∃ L, btwL ks t0 t1 = L := ⟨_, rfl⟩
    obtain ⟨M, hM⟩ : ∃ M, btwL ks t1 t2 = M := ⟨_, rfl⟩
    obtain ⟨N2, hN2⟩ : ∃ N2, btwL ks t0 t2 = N2 := ⟨_, rfl⟩
    have hbL : L.length ≤ 300 := by rw [← hL]; omega
    have hbM : M.length ≤ 300 := by rw [← hM]; omega
    have HBL := hid (And.intro hbL hbM)
    rw [hL] at HU01 HD01 HC01 HMem HApp HNo
    rw [hM] at HU12 HApp
    rw [hN2] at HU02 HApp
    have g0 := HB3.out.cell 0
    have g1 := HB3.out.cell 1
    have g2 := HB3.out.cell 2
    clear H2 HU HD HC HM hln hl1 hl2 hL hM hN2 hbL hbM c0 c1
    go_upto_region 6 with (first
      | (go_at_call 42; (with_reducible refine (HD01.out w3 H3.out.2).mono ?_); rintro e w4 ⟨v4, rfl, H4⟩)
      | (go_at_call 41; (with_reducible refine (HU01.out w2 (Fr.refl _ _)).mono ?_); rintro e w3 ⟨v3, rfl, H3⟩; have i0 := (HB3.out.fr' H3.out.2 id).cell 0; have i1 := (HB3.out.fr' H3.out.2 id).cell 1; have i2 := (HB3.out.fr' H3.out.2 id).cell 2))
    have HF4 := hid (H3.out.2.trans H4.out.2)
    have s4 : w4.cell? ⟨w.heap.size + 1, 0, none⟩ = some (.int .i64 t0) ∧ w4.cell? ⟨w.heap.size + 1, 1, none⟩ = some (.int .i64 t1) ∧ w4.cell? ⟨w.heap.size + 1, 2, none⟩ = some (.int .i64 t2) := ⟨(HB3.out.fr' HF4.out id).cell 0, (HB3.out.fr' HF4.out id).cell 1, (HB3.out.fr' HF4.out id).cell 2⟩
    obtain ⟨A3, c3, rfl⟩ := H3.out.1.slice
    obtain ⟨A4, c4, rfl⟩ := H4.out.1.slice
    have hrl : L.reverse.length = L.length := List.length_reverse ..
    have HR3 := hid (fun wz (hf : Fr Nil1 w4 wz) (hp : 0 < L.length) => rowi_get ((H3.out.1.new H4.out.2).new hf) rfl (by have := HBL.out; omega) hp)
    have HR4 := hid (fun wz (hf : Fr Nil1 w4 wz) (hp : 0 < L.length) => show ∃ ad, A4 = some ad ∧ ∀ j, j < L.length → wz.cell? (ad.add j) = some (.int .i64 (L.reverse.getD j 0)) from by
      have := rowi_get (H4.out.1.new hf) rfl (by have := HBL.out; omega) (by omega)
      rwa [hrl] at this)
    rw [hrl]
    clear i0 i1 i2 g0 g1 g2 hrl
    obtain ⟨s40, s41, s42⟩ := s4
    go_upto_region 8 with (first
      | (go_at_call 48; (with_reducible refine (HC01.out w4 HF4.out).mono ?_); rintro e w5 ⟨rfl, h5⟩; have HF5 := hid h5; clear h5))
    have HT5 := hid (show ∀ wz, Fr Nil1 w5 wz → wz.cell? ⟨w.heap.size + 1, 0, none⟩ = some (.int .i64 t0) ∧ wz.cell? ⟨w.heap.size + 1, 1, none⟩ = some (.int .i64 t1) ∧ wz.cell? ⟨w.heap.size + 1, 2, none⟩ = some (.int .i64 t2) from fun wz hf => by
      have hf' := HF4.out.trans (HF5.out.trans hf)
      exact ⟨(HB3.out.fr' hf' id).cell 0, (HB3.out.fr' hf' id).cell 1, (HB3.out.fr' hf' id).cell 2⟩)
    clear s40 s41 s42
    go_wp2_with fail
    go_loopw [4, 9] (fun r i wr => ∃ j q : Nat, j ≤ L.length ∧ r = .bool false ∧ i = .int .i64 j ∧ w5.drewN q = wr) (fun _ i _ => (L.length - intOf i).toNat)
    case atStart => exact ⟨0, 0, by omega, rfl, rfl, rfl⟩
    case round =>
      obtain ⟨j, q, hj, rfl, rfl, rfl⟩ := hrel
      have hFq : Fr Nil1 w5 (w5.drewN q) := (Fr.refl _ _).drewN q
      have hln := HBL.out.1
      by_cases hlt : j < L.length
      · obtain ⟨ad, rfl, hc⟩ := HR3.out w5 HF5.out (by omega)
        obtain ⟨ae, rfl, he⟩ := HR4.out w5 HF5.out (by omega)
        obtain ⟨p, hp⟩ : ∃ p, L.length - 1 - j = p := ⟨_, rfl⟩
        have d1 := hc j hlt
        have d2 := he p (by omega)
        rw [← hp, rev_getD hlt, hp] at d2
        obtain ⟨s0, s1, s2⟩ := HT5.out w5 (Fr.refl _ _)
        have hm := HMem.out (L.getD j 0) (by rw [List.getD_eq_getElem?_getD, List.getElem?_eq_getElem hlt]; exact List.getElem_mem hlt)
        have b1 : decide (L.getD j 0 < t0) = false := decide_eq_false (by omega)
        have b2 : decide (t1 ≤ L.getD j 0) = false := decide_eq_false (by omega)
        obtain ⟨n1, hn1⟩ : ∃ n1, L.length - 1 = n1 := ⟨_, rfl⟩
        have e1 : IntKind.i64.wrap ((L.length : Int) - 1) = (n1 : Int) := by rw [show (L.length : Int) - 1 = (n1 : Int) by omega]; exact IntWalk.i64_in _ (by omega)
        have e2 : IntKind.i64.wrap ((n1 : Int) - (j : Int)) = (p : Int) := by rw [show (n1 : Int) - (j : Int) = (p : Int) by omega]; exact IntWalk.i64_in _ (by omega)
        have hp0 : (0 : Int) ≤ p := by omega
        have hpl : (p : Int) < L.length := by omega
        have hj0 : (0 : Int) ≤ j := by omega
        have hjl : (j : Int) < L.length := by omega
        have hjb : (j : Int) < 300 := by omega
        have HJ := hid (And.intro hj hlt)
        generalize L.getD j 0 = x at *
        clear hc he hm hp hn1 hj hlt
        go_upto_region 11 with fail
        go_quiet (fail)
        go_wp2_with fail
        exact ⟨⟨j + 1, q + nq, by have := HJ.out; omega, rfl, by go_num, rfl⟩, by have := HJ.out; simp [intOf]; omega⟩
      · have hl0 : ¬ (j : Int) < L.length := by omega
        have hFw := hid (HF2.out.trans (HF4.out.trans (HF5.out.trans hFq)))
        have HFx := hid (HF4.out.trans (HF5.out.trans hFq))
        have HT6 := hid (fun wz (hf : Fr Nil1 (w5.drewN q) wz) => HT5.out wz (hFq.trans hf))
        have HRd3 := hid (fun wz (hf : Fr Nil1 (w5.drewN q) wz) => ((H3.out.1.new H4.out.2).new (HF5.out.trans (hFq.trans hf))).rd (by have := HBL.out; omega))
        have HL3 := hid (show L.length ≤ 300 from hln)
        obtain ⟨s0, s1, s2⟩ := HT6.out _ (Fr.refl _ _)
        generalize w5.drewN q = wx at *
        clear hj hlt hFq hln
        by_cases h1 : t1 < t0
        · have hL0 := congrArg List.length (HNo.out (by omega))
          rw [List.length_nil] at hL0
          have n1 : ¬ t0 < t1 := by omega
          rw [hL0]
          rw [hL0] at hl0
          go_wp2_with (first
            | (go_at_call 34; (with_reducible refine (HAw.out wx hFw.out).mono ?_); rintro e w10 ⟨rfl, h10⟩; have HF10 := hid h10; clear h10))
          go_ret
          exact ⟨rfl, hFw.out.trans HF10.out⟩
        · by_cases h2 : t2 < t1
          · by_cases h3 : t0 < t1
            · go_wp2_with (first
                | (go_at_call 34; (with_reducible refine (HAw.out wx hFw.out).mono ?_); rintro e w10 ⟨rfl, h10⟩; have HF10 := hid h10; clear h10))
              go_ret
              exact ⟨rfl, hFw.out.trans HF10.out⟩
            · have hL0 := congrArg List.length (HNo.out (by omega))
              rw [List.length_nil] at hL0
              rw [hL0]
              rw [hL0] at hl0
              go_wp2_with (first
                | (go_at_call 34; (with_reducible refine (HAw.out wx hFw.out).mono ?_); rintro e w10 ⟨rfl, h10⟩; have HF10 := hid h10; clear h10))
              go_ret
              exact ⟨rfl, hFw.out.trans HF10.out⟩
          · have hap := HApp.out (by omega) (by omega)
            have HAp := hid hap
            have HG6 := hid (HGw.out.fr hFw.out)
            clear hap
            go_upto_region 16 with (first
              | (go_at_call 41; (with_reducible refine (HU12.out wx HFx.out).mono ?_); rintro e w6 ⟨v6, rfl, H6⟩; obtain ⟨r0, r1, r2⟩ := HT6.out w6 H6.out.2))
            obtain ⟨A6, c6, rfl⟩ := H6.out.1.slice
            go_wp2_with (first
              | (go_at_call 34; (with_reducible refine (HAw.out w10 (hFw.out.trans (H6.out.2.trans (H7.out.2.trans H9.out)))).mono ?_); rintro e w11 ⟨rfl, h11⟩; have HF11 := hid h11; clear h11)
              | (go_at_call 40; refine (ints14_eq N2 (L ++ M) v7 v9 w9 ((H7.out.1.new H9a.out.fr).rd (by rw [HAp.out, List.length_append]; have := HBL.out; omega)) (H9a.out.rd (by rw [List.length_append]; have := HBL.out; omega)) HAp.out).mono ?_; rintro e w10 ⟨rfl, h10⟩; have H9 := hid (H9a.out.fr.trans h10); clear h10)
              | (at_builtin; refine append_rd rfl (.tmp 129) (.tmp 130) rfl rfl H8.out.row rfl ((H6.out.1.new (H7.out.2.trans H8.out.fr)).rd (by have := HBL.out; omega)) (by have := HBL.out; omega) H8.out.fr.size ?_; intro v9 w9 h1 h2 h3; have H9a := hid (H8.out.step HG7.out h1 h2); clear h1 h2 h3)
              | (at_builtin; refine append_rd rfl (.tmp 127) (.tmp 128) rfl rfl (ApJ.start w7).row rfl (HRd3.out _ (H6.out.2.trans (H7.out.2.trans ((Fr.refl _ _).alloc _)))) (by have := HBL.out; simp; omega) (by simp) ?_; intro v8 w8 h1 h2 h3; have HG7 := hid (HG6.out.fr (H6.out.2.trans H7.out.2)).size; have H8 := hid ((ApJ.start w7).step HG7.out h1 h2); rw [List.nil_append] at H8; clear h1 h2 h3)
              | (go_at_call 41; (with_reducible refine (HU02.out w6 (HFx.out.trans H6.out.2)).mono ?_); rintro e w7 ⟨v7, rfl, H7⟩))
            go_ret
            exact ⟨rfl, (hFw.out.trans (H6.out.2.trans (H7.out.2.trans H9.out))).trans HF11.out⟩
end Go.Proofs.YtechphliifginaaGreatDoor
