/- BulkThree, as it is called: the walk. -/
import Derived.Test.YtechphliifginaaGreatDoorBA
set_option linter.unusedVariables false
set_option linter.unusedSimpArgs false
namespace Go.Proofs.YtechphliifginaaGreatDoor
open Go.RowKit

theorem uni_assoc {a b c : List Int} (hA : Up a) (hB : Up b) : pickL tkU (pickL tkU a b) c = pickL tkU a (pickL tkU b c) :=
  up_ext (up_pickL _ (up_pickL _ hA _) _) (up_pickL _ hA _) (fun y => by rw [mem_uni, mem_uni, mem_uni, mem_uni, or_assoc])
theorem bot_over {a b c : List Int} (hA : Up a) : pickL tkB a (pickL tkU b c) = pickL tkU (pickL tkB a b) (pickL tkB a c) :=
  up_ext (up_pickL _ hA _) (up_pickL _ (up_pickL _ hA _) _) (fun y => by rw [mem_bot, mem_uni, mem_uni, mem_bot, mem_bot, and_or_left])
theorem SS.apart {w0 w1 w : World} {s Q : Nat} {ks : List Int} (H : SS w1 s ks w) (hf : Fr Nil1 w0 w1) (hQ : Q < w1.heap.size) : SSP w0 s ks (fun b => b = Q) w := by
  obtain ⟨p, F, σ, h, evs, a, e⟩ := H.ex
  exact ⟨⟨p, F, σ, h, evs, a.base hf, e, fun b hb hk => by subst hb; have := a.geB _ hk; omega⟩, fun b hb => by subst hb; have := H.fr.size; omega⟩
/-- The loop's head: so many sets are made. -/
structure ThS (W0 : World) (Q : Nat) (l0 l1 l2 : List Int) (j : Nat) (wr : World) : Prop where
  box : ∃ v0 v1 v2, Has wr Q [v0, v1, v2] 83 ∧ (0 < j → ∃ s, v0 = .pointer (some ⟨s, 0, none⟩) ∧ SSP W0 s (srtL l0) (fun b => b = Q) wr) ∧ (1 < j → ∃ s, v1 = .pointer (some ⟨s, 0, none⟩) ∧ SSP W0 s (srtL l1) (fun b => b = Q) wr) ∧ (2 < j → ∃ s, v2 = .pointer (some ⟨s, 0, none⟩) ∧ SSP W0 s (srtL l2) (fun b => b = Q) wr)
  fr : Fr Nil1 W0 wr
set_option maxRecDepth 100000 in
set_option maxHeartbeats 8000000 in
theorem bulkThree_any (u0 u1 u2 : Value) (l0 l1 l2 : List Int) (w : World) (h0 : Rd w u0 (ints' l0)) (h1 : Rd w u1 (ints' l1)) (h2 : Rd w u2 (ints' l2)) (hg : GW w) : Calls Tryz.prog 12 #[.agg #[u0, u1, u2]] w fun e w' => e = .returned (.bool true) ∧ Fr Nil1 w w' := by
  have HAw := hid (fun w' (hf : Fr Nil1 w w') => awake16_any w' (hg.fr hf))
  have HG := hid (fun w' (hf : Fr Nil1 w w') => hg.fr hf)
  have HM0 := hid (fun (hl : l0.length ≤ 100) w' (hf : Fr Nil1 w w') => bulkMake_any l0 (by omega) (h0.new hf) (hg.fr hf))
  have HM1 := hid (fun (hl : l1.length ≤ 100) w' (hf : Fr Nil1 w w') => bulkMake_any l1 (by omega) (h1.new hf) (hg.fr hf))
  have HM2 := hid (fun (hl : l2.length ≤ 100) w' (hf : Fr Nil1 w w') => bulkMake_any l2 (by omega) (h2.new hf) (hg.fr hf))
  obtain ⟨A0, c0, rfl, _, _⟩ := h0
  obtain ⟨A1, c1, rfl, _, _⟩ := h1
  obtain ⟨A2, c2, rfl, _, _⟩ := h2
  rw [ints'_length] at HM0 HM1 HM2
  rw [ints'_length, ints'_length, ints'_length]
  have hb := Has.new w [.slice A0 l0.length c0, .slice A1 l1.length c1, .slice A2 l2.length c2] 82
  have d0 := hb.cell 0
  have d1 := hb.cell 1
  have d2 := hb.cell 2
  have HBx := hid hb
  have HF := hid (show Fr Nil1 w (w.alloc (.cells #[.slice A0 l0.length c0, .slice A1 l1.length c1, .slice A2 l2.length c2] 82)) from (Fr.refl _ _).alloc _)
  have hG := hg.size
  clear hb hg
  by_cases q0 : 100 < l0.length
  · have i0 : (100 : Int) < (l0.length : Int) := by omega
    go_enter Tryz.func12, Tryz.ntmps12
    go_wp2_with (go_at_call 56; (with_reducible refine (HAw.out _ HF.out).mono ?_); rintro e w2 ⟨rfl, h2⟩; have HF2 := hid h2; clear h2)
    go_ret
    exact ⟨rfl, HF.out.trans HF2.out⟩
  · have i0 : ¬ (100 : Int) < (l0.length : Int) := by omega
    by_cases q1 : 100 < l1.length
    · have i1 : (100 : Int) < (l1.length : Int) := by omega
      go_enter Tryz.func12, Tryz.ntmps12
      go_wp2_with (go_at_call 56; (with_reducible refine (HAw.out _ HF.out).mono ?_); rintro e w2 ⟨rfl, h2⟩; have HF2 := hid h2; clear h2)
      go_ret
      exact ⟨rfl, HF.out.trans HF2.out⟩
    · have i1 : ¬ (100 : Int) < (l1.length : Int) := by omega
      by_cases q2 : 100 < l2.length
      · have i2 : (100 : Int) < (l2.length : Int) := by omega
        go_enter Tryz.func12, Tryz.ntmps12
        go_wp2_with (go_at_call 56; (with_reducible refine (HAw.out _ HF.out).mono ?_); rintro e w2 ⟨rfl, h2⟩; have HF2 := hid h2; clear h2)
        go_ret
        exact ⟨rfl, HF.out.trans HF2.out⟩
      · have i2 : ¬ (100 : Int) < (l2.length : Int) := by omega
        have HLs := hid (show l0.length ≤ 100 ∧ l1.length ≤ 100 ∧ l2.length ≤ 100 by omega)
        clear q0 q1 q2
        go_enter Tryz.func12, Tryz.ntmps12
        go_upto_region 4 with fail
        obtain ⟨W0, hW0⟩ : ∃ W0, w.alloc (.cells #[.slice A0 l0.length c0, .slice A1 l1.length c1, .slice A2 l2.length c2] 82) = W0 := ⟨_, rfl⟩
        have hs0 : W0.heap.size = w.heap.size + 1 := by rw [← hW0]; simp
        rw [hW0] at HBx HF ⊢
        have hQ := Has.new W0 [.pointer none, .pointer none, .pointer none] 83
        have HTh := hid (show ThS W0 W0.heap.size l0 l1 l2 0 (W0.alloc (.cells #[.pointer none, .pointer none, .pointer none] 83)) from ⟨⟨_, _, _, hQ, fun h => by omega, fun h => by omega, fun h => by omega⟩, (Fr.refl _ _).alloc _⟩)
        clear hW0 d0 d1 d2 i0 i1 i2
        rw [hs0] at HTh
        have hG0 : NG ≤ w.heap.size + 1 := by omega
        go_wp2_with fail
        go_loopw [2, 4, 5, 6] (fun r i _ _ wr => ∃ j : Nat, j ≤ 3 ∧ r = .bool false ∧ i = .int .i64 j ∧ Hid (ThS W0 (w.heap.size + 1) l0 l1 l2 j wr)) (fun _ i _ _ _ => (3 - intOf i).toNat)
        case atStart => exact ⟨0, by omega, rfl, rfl, HTh⟩
        case round =>
          obtain ⟨j, hj, rfl, rfl, HW⟩ := hrel
          obtain ⟨v0, v1, v2, hbx, hp0, hp1, hp2⟩ := HW.out.box
          have HBr := hid (HBx.out.fr' HW.out.fr id)
          have HFr := hid (HF.out.trans HW.out.fr)
          have hQl := hbx.lt
          rcases (show j = 0 ∨ j = 1 ∨ j = 2 ∨ j = 3 by omega) with rfl | rfl | rfl | rfl
          · have k0 := HBr.out.cell 0
            have HM := hid (HM0.out HLs.out.1 wr HFr.out)
            have HP := hid (And.intro hbx (And.intro hp0 (And.intro hp1 hp2)))
            have hji : ((0 : Nat) : Int) = 0 := rfl
            rw [hji]
            clear hbx hp0 hp1 hp2 hj hji
            go_wp2_with (go_at_call 57; (with_reducible refine HM.out.mono ?_); rintro e w1 ⟨s, rfl, H1⟩; have hb1 := HP.out.1.fr' H1.out.fr id; obtain ⟨e0, e1, e2, ef⟩ := hb1.three)
            have hfr : Fr (fun k => k = w.heap.size + 1) w1 (w1.setCell ⟨w.heap.size + 1, 0, none⟩ (.pointer (some ⟨s, 0, none⟩))) := (Fr.refl _ w1).setCell ⟨w.heap.size + 1, 0, none⟩ _ hG0 (fun _ => rfl)
            have hsp : ∀ k, k = w.heap.size + 1 → k = w.heap.size + 1 ∧ W0.heap.size ≤ k := fun k hk => ⟨hk, by omega⟩
            have hb2 := (HP.out.1.fr' H1.out.fr id).set 0 (.pointer (some ⟨s, 0, none⟩))
            exact ⟨⟨1, by omega, rfl, by go_num, hid ⟨⟨_, _, _, hb2, (fun _ => ⟨s, rfl, (H1.out.apart HW.out.fr hQl).turn hfr hsp⟩), (fun h => by omega), (fun h => by omega)⟩, (HW.out.fr.trans H1.out.fr).trans' hfr (fun k hk hl e => by omega)⟩⟩, by simp [intOf]⟩
          · have k0 := HBr.out.cell 1
            have HM := hid (HM1.out HLs.out.2.1 wr HFr.out)
            have HP := hid (And.intro hbx (And.intro hp0 (And.intro hp1 hp2)))
            have hji : ((1 : Nat) : Int) = 1 := rfl
            rw [hji]
            clear hbx hp0 hp1 hp2 hj hji
            go_wp2_with (go_at_call 57; (with_reducible refine HM.out.mono ?_); rintro e w1 ⟨s, rfl, H1⟩; have hb1 := HP.out.1.fr' H1.out.fr id; obtain ⟨e0, e1, e2, ef⟩ := hb1.three)
            have hfr : Fr (fun k => k = w.heap.size + 1) w1 (w1.setCell ⟨w.heap.size + 1, 1, none⟩ (.pointer (some ⟨s, 0, none⟩))) := (Fr.refl _ w1).setCell ⟨w.heap.size + 1, 1, none⟩ _ hG0 (fun _ => rfl)
            have hsp : ∀ k, k = w.heap.size + 1 → k = w.heap.size + 1 ∧ W0.heap.size ≤ k := fun k hk => ⟨hk, by omega⟩
            have hb2 := (HP.out.1.fr' H1.out.fr id).set 1 (.pointer (some ⟨s, 0, none⟩))
            exact ⟨⟨2, by omega, rfl, by go_num, hid ⟨⟨_, _, _, hb2, (fun _ => by obtain ⟨s', e, h⟩ := HP.out.2.1 (by omega); exact ⟨s', e, (h.new H1.out.fr).turn hfr hsp⟩), (fun _ => ⟨s, rfl, (H1.out.apart HW.out.fr hQl).turn hfr hsp⟩), (fun h => by omega)⟩, (HW.out.fr.trans H1.out.fr).trans' hfr (fun k hk hl e => by omega)⟩⟩, by simp [intOf]⟩
          · have k0 := HBr.out.cell 2
            have HM := hid (HM2.out HLs.out.2.2 wr HFr.out)
            have HP := hid (And.intro hbx (And.intro hp0 (And.intro hp1 hp2)))
            have hji : ((2 : Nat) : Int) = 2 := rfl
            rw [hji]
            clear hbx hp0 hp1 hp2 hj hji
            go_wp2_with (go_at_call 57; (with_reducible refine HM.out.mono ?_); rintro e w1 ⟨s, rfl, H1⟩; have hb1 := HP.out.1.fr' H1.out.fr id; obtain ⟨e0, e1, e2, ef⟩ := hb1.three)
            have hfr : Fr (fun k => k = w.heap.size + 1) w1 (w1.setCell ⟨w.heap.size + 1, 2, none⟩ (.pointer (some ⟨s, 0, none⟩))) := (Fr.refl _ w1).setCell ⟨w.heap.size + 1, 2, none⟩ _ hG0 (fun _ => rfl)
            have hsp : ∀ k, k = w.heap.size + 1 → k = w.heap.size + 1 ∧ W0.heap.size ≤ k := fun k hk => ⟨hk, by omega⟩
            have hb2 := (HP.out.1.fr' H1.out.fr id).set 2 (.pointer (some ⟨s, 0, none⟩))
            exact ⟨⟨3, by omega, rfl, by go_num, hid ⟨⟨_, _, _, hb2, (fun _ => by obtain ⟨s', e, h⟩ := HP.out.2.1 (by omega); exact ⟨s', e, (h.new H1.out.fr).turn hfr hsp⟩), (fun _ => by obtain ⟨s', e, h⟩ := HP.out.2.2.1 (by omega); exact ⟨s', e, (h.new H1.out.fr).turn hfr hsp⟩), (fun _ => ⟨s, rfl, (H1.out.apart HW.out.fr hQl).turn hfr hsp⟩)⟩, (HW.out.fr.trans H1.out.fr).trans' hfr (fun k hk hl e => by omega)⟩⟩, by simp [intOf]⟩
          · obtain ⟨a, rfl, ha⟩ := hp0 (by omega)
            obtain ⟨b, rfl, hb⟩ := hp1 (by omega)
            obtain ⟨c, rfl, hc⟩ := hp2 (by omega)
            have hji : ((3 : Nat) : Int) = 3 := rfl
            rw [hji]
            have HA := hid ha.ss
            have HB := hid hb.ss
            have HC := hid hc.ss
            have HX := hid hbx
            obtain ⟨la, hla⟩ : ∃ la, srtL l0 = la := ⟨_, rfl⟩
            obtain ⟨lb, hlb⟩ : ∃ lb, srtL l1 = lb := ⟨_, rfl⟩
            obtain ⟨lc, hlc⟩ : ∃ lc, srtL l2 = lc := ⟨_, rfl⟩
            have z0 : la.length ≤ 100 := by rw [← hla]; have := (srt_spec l0).2.2; have := HLs.out.1; omega
            have z1 : lb.length ≤ 100 := by rw [← hlb]; have := (srt_spec l1).2.2; have := HLs.out.2.1; omega
            have z2 : lc.length ≤ 100 := by rw [← hlc]; have := (srt_spec l2).2.2; have := HLs.out.2.2; omega
            rw [hla] at HA
            rw [hlb] at HB
            rw [hlc] at HC
            have HZ := hid (And.intro z0 (And.intro z1 z2))
            have y1 := pickL_len tkU la lb
            have y2 := pickL_len tkU lb lc
            have y3 := pickL_len tkB la lb
            have y4 := pickL_len tkB la lc
            have HY := hid (And.intro y1 (And.intro y2 (And.intro y3 y4)))
            have HAs := hid (uni_assoc (c := lc) HA.out.up HB.out.up)
            have HOv := hid (bot_over (b := lb) (c := lc) HA.out.up)
            have g0 := hbx.cell 0
            have g1 := hbx.cell 1
            have g2 := hbx.cell 2
            clear hp0 hp1 hp2 hbx ha hb hc hla hlb hlc z0 z1 z2 y1 y2 y3 y4 hj hji hQl
            have HCe := hid (show ∀ wz, Fr Nil1 wr wz → wz.cell? ⟨w.heap.size + 1, 0, none⟩ = some (.pointer (some ⟨a, 0, none⟩)) ∧ wz.cell? ⟨w.heap.size + 1, 1, none⟩ = some (.pointer (some ⟨b, 0, none⟩)) ∧ wz.cell? ⟨w.heap.size + 1, 2, none⟩ = some (.pointer (some ⟨c, 0, none⟩)) from fun wz hf => ⟨(HX.out.fr' hf id).cell 0, (HX.out.fr' hf id).cell 1, (HX.out.fr' hf id).cell 2⟩)
            have Fwr := hid (Fr.refl Nil1 wr)
            go_upto_region 15 with (first
              | (go_at_call 59; (with_reducible refine (bulkBoth_any (HA.out.new Fw5.out) (HC.out.new Fw5.out) (by have := HZ.out; omega) (HG.out _ (HFr.out.trans Fw5.out))).mono ?_); rintro e w6 ⟨sw6, rfl, H6⟩; have Fw6 := hid (Fw5.out.trans H6.out.fr); obtain ⟨cw60, cw61, cw62⟩ := HCe.out w6 Fw6.out)
              | (go_at_call 59; (with_reducible refine (bulkBoth_any (HA.out.new Fw4.out) (HB.out.new Fw4.out) (by have := HZ.out; omega) (HG.out _ (HFr.out.trans Fw4.out))).mono ?_); rintro e w5 ⟨sw5, rfl, H5⟩; have Fw5 := hid (Fw4.out.trans H5.out.fr); obtain ⟨cw50, cw51, cw52⟩ := HCe.out w5 Fw5.out)
              | (go_at_call 58; (with_reducible refine (bulkUnion_any (HB.out.new Fw3.out) (HC.out.new Fw3.out) (by have := HZ.out; omega) (HG.out _ (HFr.out.trans Fw3.out))).mono ?_); rintro e w4 ⟨sw4, rfl, H4⟩; have Fw4 := hid (Fw3.out.trans H4.out.fr); obtain ⟨cw40, cw41, cw42⟩ := HCe.out w4 Fw4.out)
              | (go_at_call 58; (with_reducible refine (bulkUnion_any (HA.out.new Fwr.out) (HB.out.new Fwr.out) (by have := HZ.out; omega) (HG.out _ (HFr.out.trans Fwr.out))).mono ?_); rintro e w3 ⟨sw3, rfl, H3⟩; have Fw3 := hid (Fwr.out.trans H3.out.fr); obtain ⟨cw30, cw31, cw32⟩ := HCe.out w3 Fw3.out))
            have T3 := hid (fun wz (hf : Fr Nil1 w6 wz) => H3.out.new (H4.out.fr.trans (H5.out.fr.trans (H6.out.fr.trans hf))))
            have T4 := hid (fun wz (hf : Fr Nil1 w6 wz) => H4.out.new (H5.out.fr.trans (H6.out.fr.trans hf)))
            have T5 := hid (fun wz (hf : Fr Nil1 w6 wz) => H5.out.new (H6.out.fr.trans hf))
            have T6 := hid (fun wz (hf : Fr Nil1 w6 wz) => H6.out.new hf)
            have G6 := hid (Fr.refl Nil1 w6)
            go_upto_region 21 with (first
              | (go_at_call 58; (with_reducible refine (bulkUnion_any (T5.out w9 G9.out) (T6.out w9 G9.out) (by have := HZ.out; have := HY.out; omega) (HG.out _ (HFr.out.trans Fw9.out))).mono ?_); rintro e w10 ⟨sw10, rfl, H10⟩; have Fw10 := hid (Fw9.out.trans H10.out.fr); have G10 := hid (G9.out.trans H10.out.fr); obtain ⟨cw100, cw101, cw102⟩ := HCe.out w10 Fw10.out)
              | (go_at_call 59; (with_reducible refine (bulkBoth_any (HA.out.new Fw8.out) (T4.out w8 G8.out) (by have := HZ.out; have := HY.out; omega) (HG.out _ (HFr.out.trans Fw8.out))).mono ?_); rintro e w9 ⟨sw9, rfl, H9⟩; have Fw9 := hid (Fw8.out.trans H9.out.fr); have G9 := hid (G8.out.trans H9.out.fr); obtain ⟨cw90, cw91, cw92⟩ := HCe.out w9 Fw9.out)
              | (go_at_call 58; (with_reducible refine (bulkUnion_any (HA.out.new Fw7.out) (T4.out w7 G7.out) (by have := HZ.out; have := HY.out; omega) (HG.out _ (HFr.out.trans Fw7.out))).mono ?_); rintro e w8 ⟨sw8, rfl, H8⟩; have Fw8 := hid (Fw7.out.trans H8.out.fr); have G8 := hid (G7.out.trans H8.out.fr); obtain ⟨cw80, cw81, cw82⟩ := HCe.out w8 Fw8.out)
              | (go_at_call 58; (with_reducible refine (bulkUnion_any (T3.out w6 G6.out) (HC.out.new Fw6.out) (by have := HZ.out; have := HY.out; omega) (HG.out _ (HFr.out.trans Fw6.out))).mono ?_); rintro e w7 ⟨sw7, rfl, H7⟩; have Fw7 := hid (Fw6.out.trans H7.out.fr); have G7 := hid (G6.out.trans H7.out.fr); obtain ⟨cw70, cw71, cw72⟩ := HCe.out w7 Fw7.out))
            have n1 := pickL_len tkU (pickL tkU la lb) lc
            have n2 := pickL_len tkB la (pickL tkU lb lc)
            have hz := HZ.out
            have hy := HY.out
            have HKx := hid (H7.out.new (H8.out.fr.trans (H9.out.fr.trans H10.out.fr)))
            have HKy := hid (H8.out.new (H9.out.fr.trans H10.out.fr))
            have HKp := hid (H9.out.new H10.out.fr)
            have HKq := hid H10.out
            rw [HAs.out] at HKx n1
            rw [← HOv.out] at HKq
            obtain ⟨X, hX⟩ : ∃ X, pickL tkU la (pickL tkU lb lc) = X := ⟨_, rfl⟩
            obtain ⟨Y, hY⟩ : ∃ Y, pickL tkB la (pickL tkU lb lc) = Y := ⟨_, rfl⟩
            rw [hX] at HKx HKy n1
            rw [hY] at HKp HKq n2
            have HN := hid (show X.length ≤ 5000 ∧ Y.length ≤ 5000 by omega)
            clear hX hY n1 n2 hz hy
            go_wp2_with (first
            | (go_at_call 60; refine (ints16_eq Y Y _ _ w15 (H14.out.1.new H15.out.2) H15.out.1 rfl).mono ?_; rintro e w16 ⟨rfl, h16⟩; have F16 := hid (F13.out.trans (H14.out.2.trans (H15.out.2.trans h16))); clear h16)
            | (go_at_call 51; (with_reducible refine (HKq.out.new (F13.out.trans H14.out.2)).keys.mono ?_); rintro e w15 ⟨A15, c15, rfl, H15⟩)
            | (go_at_call 51; (with_reducible refine (HKp.out.new F13.out).keys.mono ?_); rintro e w14 ⟨A14, c14, rfl, H14⟩)
            | (go_at_call 60; refine (ints16_eq X X _ _ w12 (H11.out.1.new H12.out.2) H12.out.1 rfl).mono ?_; rintro e w13 ⟨rfl, h13⟩; have F13 := hid (H11.out.2.trans (H12.out.2.trans h13)); clear h13)
            | (go_at_call 51; (with_reducible refine (HKy.out.new H11.out.2).keys.mono ?_); rintro e w12 ⟨A12, c12, rfl, H12⟩)
            | (go_at_call 51; (with_reducible refine HKx.out.keys.mono ?_); rintro e w11 ⟨A11, c11, rfl, H11⟩)
            | (go_at_call 56; (with_reducible refine (HAw.out w16 (HFr.out.trans (Fw10.out.trans F16.out))).mono ?_); rintro e w17 ⟨rfl, h17⟩; have F17 := hid h17; clear h17))
            go_ret
            exact ⟨rfl, (HFr.out.trans (Fw10.out.trans F16.out)).trans F17.out⟩
end Go.Proofs.YtechphliifginaaGreatDoor
