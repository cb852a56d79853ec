/- SetRefuses, as it is called: the walk. (printed by mksr.py) -/
import Derived.Test.YticlkdjiaoflgaaGreatDoorSQ
import Derived.Test.YticlkdjiaoflgaaGreatDoorR9
import Derived.Deep.Cut
set_option linter.unusedVariables false
set_option linter.unusedSimpArgs false
namespace Go.Proofs.YticlkdjiaoflgaaGreatDoor
open Go.RowKit

set_option maxRecDepth 100000 in
set_option maxHeartbeats 16000000 in
theorem setRefuses_any (v : Value) (key : Int) (l : List AcS) (w : World) (hv : RdAs w v l) (hg : GW w) : Calls Tryz.prog 9 #[v, .int .i64 key] w fun e w' => e = .returned (.bool true) ∧ Fr Nil1 w w' := by
  have HAw := hid (fun w' (hf : Fr Nil1 w w') => awake_any w' (hg.fr hf))
  have HPl := hid (fun w' (hf : Fr Nil1 w w') (h : l.length ≤ 200) => played_any _ l w' (hv.new hf) h (hg.fr hf))
  have HPm := hid (fun w' (hf : Fr Nil1 w w') (h : 200 < l.length) => played_many _ l w' (hv.new hf) h)
  obtain ⟨A, c, rfl, _, _⟩ := hv
  clear hg
  go_enter Tryz.func9, Tryz.ntmps9
  go_upto_region 8 with (first
    | (go_at_call 28; refine (noClone _).mono ?_; rintro e wb ⟨rfl, rfl⟩)
    | (go_at_call 34; refine (noRow _).mono ?_; rintro e wb ⟨rfl, rfl⟩)
    | (go_at_call 15; refine (noKeys _).mono ?_; rintro e wb ⟨rfl, rfl⟩)
    | (go_at_call 30; refine (noCap _).mono ?_; rintro e wb ⟨rfl, rfl⟩)
    | (go_at_call 19; refine (noLen _).mono ?_; rintro e wb ⟨rfl, rfl⟩)
    | (go_at_call 14; refine (noHas key _).mono ?_; rintro e wb ⟨rfl, rfl⟩)
    | (go_at_call 13; refine (noCeil key _).mono ?_; rintro e wb ⟨rfl, rfl⟩)
    | (go_at_call 12; refine (noFloor key _).mono ?_; rintro e wb ⟨rfl, rfl⟩)
    | (go_at_call 17; refine (noDelete key _).mono ?_; rintro e w2 ⟨rfl, h2⟩; have GF2 := hid ((GF1.out.trans h2).alloc stepQ); have hb := ((zer5 w1).fr' h2 id).alloc stepQ; have x0 := hb.cell 0; have x1 := hb.cell 1; have x2 := hb.cell 2; have x3 := hb.cell 3; clear h2 hb)
    | (go_at_call 18; refine (noInsert key _).mono ?_; rintro e w1 ⟨rfl, h1⟩; have GF1 := hid (h1.alloc stepQ); clear h1))
  obtain ⟨W2, hW2⟩ : ∃ W, w2.alloc (.cells #[.int .i64 0, .int .i64 0, .int .i64 0, .int .i64 0] 38) = W := ⟨_, rfl⟩
  have GF : Hid (Fr Nil1 w W2) := hW2 ▸ GF2
  rw [hW2]
  clear hW2 GF1 GF2 x0 x1 x2 x3
  by_cases h200 : 200 < l.length
  · have HP := hid (HPm.out W2 GF.out h200)
    have hI : (200 : Int) < (l.length : Int) := by omega
    clear HPl HPm
    go_wp2_with (first
      | (go_at_call 10; refine HP.out.mono ?_; rintro e w3 ⟨rfl, rfl⟩)
      | (go_at_call 11; refine (HAw.out _ GF.out).mono ?_; rintro e w4 ⟨rfl, H4⟩))
    go_ret
    exact ⟨rfl, GF.out.trans H4⟩
  have HP := hid (HPl.out W2 GF.out (by omega))
  clear HPl HPm
  go_upto_region 11 with (go_at_call 10; refine HP.out.mono ?_; rintro e w3 ⟨s, ks, rfl, H3⟩)
  obtain ⟨p, F, σ, h, evs, hS, hks⟩ := H3.out.1.ex
  have HS3 := hid hS
  have HSm := hid (show (its σ).length ≤ 9223372036854775807 by have := hS.row.small.1; omega)
  have HSi := hid (show (idxs (occ σ)).length ≤ 9223372036854775807 by have := hS.row.small; omega)
  have HT := hid (show (its σ).length ≤ 2560 by have := H3.out.2; rw [← hks] at this; omega)
  have HG3 := hid (GF.out.trans hS.row.fr)
  obtain ⟨q, hq⟩ : ∃ q, (idxs (occ σ)).length = q := ⟨_, rfl⟩
  have HQ := hid hq
  clear hS hks H3 HP hq
  go_upto_region 16 with (first
    | (go_at_call 36; refine (RowG.places H6.out.2.1 hearN H6.out.1).mono ?_; rintro e w7 ⟨v7, rfl, H7⟩)
    | (go_at_call 35; refine (RowG.slots H5.out.1 hearN).mono ?_; rintro e w6 ⟨f6, rfl, H6⟩)
    | (go_at_call 34; refine (setRow_any (HS3.out.new H4.out.2)).mono ?_; rintro e w5 ⟨F5, rfl, H5⟩)
    | (go_at_call 15; refine (setKeys_any HS3.out).mono ?_; rintro e w4 ⟨v4, rfl, H4⟩))
  obtain ⟨A4, c4, e4, _⟩ := H4.out.1.rd HSm.out
  subst e4
  obtain ⟨A7, c7, e7, _⟩ := H7.out.1.rd HSi.out
  rw [ints'_length, HQ.out] at e7
  subst e7
  have HS4 := hid (HS3.out.new H4.out.2)
  have HG4 := hid (HG3.out.trans H4.out.2)
  have HK4 := hid (H4.out.1.rd HSm.out)
  have HF57 := hid (H6.out.2.2.trans H7.out.2.2)
  have HF47 := hid (H5.out.2.trans HF57.out)
  have HS7 := hid (HS4.out.new HF47.out)
  have HK7 := hid (HK4.out.new HF47.out)
  have HP7 := hid (H7.out.1.rd HSi.out)
  have HR5 := hid H5.out.1
  clear H4 H5 H6 H7 HS3 HG3
  by_cases hm : key ∈ its σ
  · skip
    have HHa := hid (SS.hasT (show SS W2 s (its σ) w7 from ⟨⟨p, F, σ, h, evs, HS7.out, rfl⟩, HS7.out.up, HS7.out.row.fr⟩) hm)
    have HHb := hid (fun (w' : World) (hf : Fr Nil1 w7 w') => SS.hasT (show SS W2 s (its σ) w' from ⟨⟨p, F, σ, h, evs, HS7.out.new hf, rfl⟩, HS7.out.up, (HS7.out.new hf).row.fr⟩) hm)
    have HRf := hid (fun (w' : World) (hf : Fr Nil1 w7 w') => setInsert_there (HS7.out.new hf) hm)
    clear hm
    go_upto_region 25 with (first
      | (go_at_call 18; refine (HRf.out _ (((Fr.refl Nil1 w7).alloc (.cells #[.int .i64 0, .int .i64 0, .int .i64 0, .int .i64 0] 38)).trans H8.out)).mono ?_; rintro e w9 ⟨rfl, h9⟩; have hb := ((zer5 w7).fr' H8.out id).fr' h9 id; have HB9 := hid hb; have e0 := hb.cell 0; have e1 := hb.cell 1; have e2 := hb.cell 2; have e3 := hb.cell 3; have ef := hb.frozen; have HF9 := hid (((Fr.refl Nil1 w7).alloc (.cells #[.int .i64 0, .int .i64 0, .int .i64 0, .int .i64 0] 38)).trans (H8.out.trans h9)); clear h9 hb)
      | (go_at_call 14; refine (HHb.out _ ((Fr.refl Nil1 w7).alloc (.cells #[.int .i64 0, .int .i64 0, .int .i64 0, .int .i64 0] 38))).mono ?_; rintro e w8 ⟨rfl, h8⟩; have H8 := hid h8; clear h8))
    obtain ⟨W10, hW⟩ : ∃ W, ((((w9.setCell ⟨w7.heap.size, 0, none⟩ (.int .i64 0)).setCell ⟨w7.heap.size, 1, none⟩ (.int .i64 0)).setCell ⟨w7.heap.size, 2, none⟩ (.int .i64 0)).setCell ⟨w7.heap.size, 3, none⟩ (.int .i64 0)) = W := ⟨_, rfl⟩
    have HBx := hid ((((HB9.out.set 0 (.int .i64 0)).set 1 (.int .i64 0)).set 2 (.int .i64 0)).set 3 (.int .i64 0))
    have HFx := hid (HF9.out.trans' (st5_fr w9 w7.heap.size ⟨0, 0, 0, 0⟩ HS7.out.size) (fun j _ hj e => by have e' : j = w7.heap.size := e; omega))
    have HB10 : Hid (Has W10 w7.heap.size [.int .i64 0, .int .i64 0, .int .i64 0, .int .i64 0] 38) := hW ▸ HBx
    have HF10 : Hid (Fr Nil1 w7 W10) := hW ▸ HFx
    rw [hW]
    clear hW HBx HFx HB9 HF9 e0 e1 e2 e3 ef
    go_upto_region 28 with (first
      | (go_at_call 29; (with_reducible refine (ints_eq _ _ _ _ _ H15r.out (HP7.out.new (HF10.out.trans (H11.out.2.trans (H12.out.2.trans (H13.out.trans (H14.out.2.2.trans H15.out.2.2)))))) rfl).mono ?_); rintro e w16 ⟨rfl, h16⟩; have H16 := hid (HF10.out.trans (H11.out.2.trans (H12.out.2.trans (H13.out.trans (H14.out.2.2.trans (H15.out.2.2.trans h16)))))); clear h16)
      | (go_at_call 36; refine (RowG.places H14.out.2.1 hearN H14.out.1).mono ?_; rintro e w15 ⟨v15, rfl, H15⟩; have H15r := hid (H15.out.1.rd HSi.out))
      | (go_at_call 35; refine (RowG.slots (H11.out.1.new hearN (H12.out.2.trans H13.out)) hearN).mono ?_; rintro e w14 ⟨f14, rfl, H14⟩)
      | (go_at_call 29; (with_reducible refine (ints_eq _ _ _ _ _ H12r.out (HK7.out.new (HF10.out.trans (H11.out.2.trans H12.out.2))) rfl).mono ?_); rintro e w13 ⟨rfl, h13⟩; have H13 := hid h13; clear h13)
      | (go_at_call 15; refine (setKeys_any (HS7.out.new (HF10.out.trans H11.out.2))).mono ?_; rintro e w12 ⟨v12, rfl, H12⟩; have H12r := hid (H12.out.1.rd HSm.out))
      | (go_at_call 34; refine (setRow_any (HS7.out.new HF10.out)).mono ?_; rintro e w11 ⟨F11, rfl, H11⟩; have hb := HB10.out.fr' H11.out.2 id; have x0 := hb.cell 0; have x1 := hb.cell 1; have x2 := hb.cell 2; have x3 := hb.cell 3; clear hb))
    by_cases hq : 0 < q
    · have hqI : (0 : Int) < (q : Int) := by omega
      obtain ⟨A', c', e', _, hA'⟩ := HP7.out.new H16.out
      injection e' with e1 e2 e3
      subst e1
      obtain ⟨ad, had, hcc⟩ := hA' (by rw [ints'_length, HQ.out]; omega)
      subst had
      obtain ⟨B0, O0, rfl⟩ : ∃ B O, ad = (⟨B, O, none⟩ : Addr) := ⟨_, _, flat_of_cell (hcc 0 _ (ints'_get _ 0 (by rw [HQ.out]; omega)))⟩
      have hcell := hcc 0 _ (ints'_get _ 0 (by rw [HQ.out]; omega))
      rw [add_flat, Nat.add_zero] at hcell
      obtain ⟨z0, hz0⟩ : ∃ z0, (idxs (occ σ)).getD 0 0 = z0 := ⟨_, rfl⟩
      rw [hz0] at hcell
      have HDl := hid (RowG.delAny (HR5.out.new hearN ((HF57.out).trans H16.out)) hearN HT.out z0)
      clear hcc hA' e2 e3 hz0 x0 x1 x2 x3
      go_upto_region 30 with (go_at_call 37; refine HDl.out.mono ?_; rintro e w17 ⟨x, S, er, rfl, H17⟩)
      have HF17 : Hid (Fr Nil1 w4 w17) := by
        obtain ⟨F2, σ2, h2, ev, hR, _⟩ := H17.out.ex
        exact hid hR.fr
      clear H17 HDl
      go_wp2_with (first
        | (go_at_call 11; refine (HAw.out _ (HG4.out.trans (HF17.out.trans (Hy.out.2.trans Hz.out)))).mono ?_; rintro e wz2 ⟨rfl, H9⟩)
        | (go_at_call 29; refine (ints_eq _ _ _ _ _ Hyr.out (HK4.out.new (HF17.out.trans Hy.out.2)) rfl).mono ?_; rintro e wz ⟨rfl, hz⟩; have Hz := hid hz; clear hz)
        | (go_at_call 15; refine (setKeys_any (HS4.out.new HF17.out)).mono ?_; rintro e wy ⟨vy, rfl, Hy⟩; have Hyr := hid (Hy.out.1.rd HSm.out)))
      go_ret
      exact ⟨rfl, HG4.out.trans (HF17.out.trans (Hy.out.2.trans (Hz.out.trans H9)))⟩
    · have hqI : ¬ (0 : Int) < (q : Int) := by omega
      have HF16 := hid (HF47.out.trans H16.out)
      go_wp2_with (first
        | (go_at_call 11; refine (HAw.out _ (HG4.out.trans (HF16.out.trans (Hy.out.2.trans Hz.out)))).mono ?_; rintro e wz2 ⟨rfl, H9⟩)
        | (go_at_call 29; refine (ints_eq _ _ _ _ _ Hyr.out (HK4.out.new (HF16.out.trans Hy.out.2)) rfl).mono ?_; rintro e wz ⟨rfl, hz⟩; have Hz := hid hz; clear hz)
        | (go_at_call 15; refine (setKeys_any (HS4.out.new HF16.out)).mono ?_; rintro e wy ⟨vy, rfl, Hy⟩; have Hyr := hid (Hy.out.1.rd HSm.out)))
      go_ret
      exact ⟨rfl, HG4.out.trans (HF16.out.trans (Hy.out.2.trans (Hz.out.trans H9)))⟩
  · skip
    have HHa := hid (SS.hasF (show SS W2 s (its σ) w7 from ⟨⟨p, F, σ, h, evs, HS7.out, rfl⟩, HS7.out.up, HS7.out.row.fr⟩) hm)
    have HHb := hid (fun (w' : World) (hf : Fr Nil1 w7 w') => SS.hasF (show SS W2 s (its σ) w' from ⟨⟨p, F, σ, h, evs, HS7.out.new hf, rfl⟩, HS7.out.up, (HS7.out.new hf).row.fr⟩) hm)
    have HRf := hid (fun (w' : World) (hf : Fr Nil1 w7 w') => setDelete_none (HS7.out.new hf) hm)
    clear hm
    go_upto_region 25 with (first
      | (go_at_call 17; refine (HRf.out _ (((Fr.refl Nil1 w7).alloc (.cells #[.int .i64 0, .int .i64 0, .int .i64 0, .int .i64 0] 38)).trans H8.out)).mono ?_; rintro e w9 ⟨rfl, h9⟩; have hb := ((zer5 w7).fr' H8.out id).fr' h9 id; have HB9 := hid hb; have e0 := hb.cell 0; have e1 := hb.cell 1; have e2 := hb.cell 2; have e3 := hb.cell 3; have ef := hb.frozen; have HF9 := hid (((Fr.refl Nil1 w7).alloc (.cells #[.int .i64 0, .int .i64 0, .int .i64 0, .int .i64 0] 38)).trans (H8.out.trans h9)); clear h9 hb)
      | (go_at_call 14; refine (HHb.out _ ((Fr.refl Nil1 w7).alloc (.cells #[.int .i64 0, .int .i64 0, .int .i64 0, .int .i64 0] 38))).mono ?_; rintro e w8 ⟨rfl, h8⟩; have H8 := hid h8; clear h8))
    obtain ⟨W10, hW⟩ : ∃ W, ((((w9.setCell ⟨w7.heap.size, 0, none⟩ (.int .i64 0)).setCell ⟨w7.heap.size, 1, none⟩ (.int .i64 0)).setCell ⟨w7.heap.size, 2, none⟩ (.int .i64 0)).setCell ⟨w7.heap.size, 3, none⟩ (.int .i64 0)) = W := ⟨_, rfl⟩
    have HBx := hid ((((HB9.out.set 0 (.int .i64 0)).set 1 (.int .i64 0)).set 2 (.int .i64 0)).set 3 (.int .i64 0))
    have HFx := hid (HF9.out.trans' (st5_fr w9 w7.heap.size ⟨0, 0, 0, 0⟩ HS7.out.size) (fun j _ hj e => by have e' : j = w7.heap.size := e; omega))
    have HB10 : Hid (Has W10 w7.heap.size [.int .i64 0, .int .i64 0, .int .i64 0, .int .i64 0] 38) := hW ▸ HBx
    have HF10 : Hid (Fr Nil1 w7 W10) := hW ▸ HFx
    rw [hW]
    clear hW HBx HFx HB9 HF9 e0 e1 e2 e3 ef
    go_upto_region 28 with (first
      | (go_at_call 29; (with_reducible refine (ints_eq _ _ _ _ _ H15r.out (HP7.out.new (HF10.out.trans (H11.out.2.trans (H12.out.2.trans (H13.out.trans (H14.out.2.2.trans H15.out.2.2)))))) rfl).mono ?_); rintro e w16 ⟨rfl, h16⟩; have H16 := hid (HF10.out.trans (H11.out.2.trans (H12.out.2.trans (H13.out.trans (H14.out.2.2.trans (H15.out.2.2.trans h16)))))); clear h16)
      | (go_at_call 36; refine (RowG.places H14.out.2.1 hearN H14.out.1).mono ?_; rintro e w15 ⟨v15, rfl, H15⟩; have H15r := hid (H15.out.1.rd HSi.out))
      | (go_at_call 35; refine (RowG.slots (H11.out.1.new hearN (H12.out.2.trans H13.out)) hearN).mono ?_; rintro e w14 ⟨f14, rfl, H14⟩)
      | (go_at_call 29; (with_reducible refine (ints_eq _ _ _ _ _ H12r.out (HK7.out.new (HF10.out.trans (H11.out.2.trans H12.out.2))) rfl).mono ?_); rintro e w13 ⟨rfl, h13⟩; have H13 := hid h13; clear h13)
      | (go_at_call 15; refine (setKeys_any (HS7.out.new (HF10.out.trans H11.out.2))).mono ?_; rintro e w12 ⟨v12, rfl, H12⟩; have H12r := hid (H12.out.1.rd HSm.out))
      | (go_at_call 34; refine (setRow_any (HS7.out.new HF10.out)).mono ?_; rintro e w11 ⟨F11, rfl, H11⟩; have hb := HB10.out.fr' H11.out.2 id; have x0 := hb.cell 0; have x1 := hb.cell 1; have x2 := hb.cell 2; have x3 := hb.cell 3; clear hb))
    by_cases hq : 0 < q
    · have hqI : (0 : Int) < (q : Int) := by omega
      obtain ⟨A', c', e', _, hA'⟩ := HP7.out.new H16.out
      injection e' with e1 e2 e3
      subst e1
      obtain ⟨ad, had, hcc⟩ := hA' (by rw [ints'_length, HQ.out]; omega)
      subst had
      obtain ⟨B0, O0, rfl⟩ : ∃ B O, ad = (⟨B, O, none⟩ : Addr) := ⟨_, _, flat_of_cell (hcc 0 _ (ints'_get _ 0 (by rw [HQ.out]; omega)))⟩
      have hcell := hcc 0 _ (ints'_get _ 0 (by rw [HQ.out]; omega))
      rw [add_flat, Nat.add_zero] at hcell
      obtain ⟨z0, hz0⟩ : ∃ z0, (idxs (occ σ)).getD 0 0 = z0 := ⟨_, rfl⟩
      rw [hz0] at hcell
      have HDl := hid (RowG.delAny (HR5.out.new hearN ((HF57.out).trans H16.out)) hearN HT.out z0)
      clear hcc hA' e2 e3 hz0 x0 x1 x2 x3
      go_upto_region 30 with (go_at_call 37; refine HDl.out.mono ?_; rintro e w17 ⟨x, S, er, rfl, H17⟩)
      have HF17 : Hid (Fr Nil1 w4 w17) := by
        obtain ⟨F2, σ2, h2, ev, hR, _⟩ := H17.out.ex
        exact hid hR.fr
      clear H17 HDl
      go_wp2_with (first
        | (go_at_call 11; refine (HAw.out _ (HG4.out.trans (HF17.out.trans (Hy.out.2.trans Hz.out)))).mono ?_; rintro e wz2 ⟨rfl, H9⟩)
        | (go_at_call 29; refine (ints_eq _ _ _ _ _ Hyr.out (HK4.out.new (HF17.out.trans Hy.out.2)) rfl).mono ?_; rintro e wz ⟨rfl, hz⟩; have Hz := hid hz; clear hz)
        | (go_at_call 15; refine (setKeys_any (HS4.out.new HF17.out)).mono ?_; rintro e wy ⟨vy, rfl, Hy⟩; have Hyr := hid (Hy.out.1.rd HSm.out)))
      go_ret
      exact ⟨rfl, HG4.out.trans (HF17.out.trans (Hy.out.2.trans (Hz.out.trans H9)))⟩
    · have hqI : ¬ (0 : Int) < (q : Int) := by omega
      have HF16 := hid (HF47.out.trans H16.out)
      go_wp2_with (first
        | (go_at_call 11; refine (HAw.out _ (HG4.out.trans (HF16.out.trans (Hy.out.2.trans Hz.out)))).mono ?_; rintro e wz2 ⟨rfl, H9⟩)
        | (go_at_call 29; refine (ints_eq _ _ _ _ _ Hyr.out (HK4.out.new (HF16.out.trans Hy.out.2)) rfl).mono ?_; rintro e wz ⟨rfl, hz⟩; have Hz := hid hz; clear hz)
        | (go_at_call 15; refine (setKeys_any (HS4.out.new HF16.out)).mono ?_; rintro e wy ⟨vy, rfl, Hy⟩; have Hyr := hid (Hy.out.1.rd HSm.out)))
      go_ret
      exact ⟨rfl, HG4.out.trans (HF16.out.trans (Hy.out.2.trans (Hz.out.trans H9)))⟩
end Go.Proofs.YticlkdjiaoflgaaGreatDoor
