/- PmaList, as it is called: the walk. -/
import Derived.Test.YtanefeeneladnaaDoorYK
import Derived.Deep.RegionHeld3
import Derived.Deep.Cut
import Derived.Deep.CutRange
set_option linter.unusedVariables false
set_option linter.unusedSimpArgs false
namespace Go.Proofs.YtanefeeneladnaaDoor
open Go.RowKit

set_option maxRecDepth 100000 in
set_option maxHeartbeats 16000000 in
theorem pmaList_any (v : Value) (l : List AcT) (w : World) (hv : RdAc w v l) (hg : GW w) : Calls Tryd.prog 5 #[v] w fun e w' => e = .returned (.bool true) ∧ Fr Nil1 w w' := by
  have HAw := hid (fun w' (hf : Fr Nil1 w w') => awake_any w' (hg.fr hf))
  have HNew := hid (RowG.made (w0 := w) (B := Bn) (J := Jn) Value.nilFunc (.inl rfl) w hg hearN trivial (Fr.refl _ _) (fun k h => h.elim))
  obtain ⟨A, c, rfl, hb, hA⟩ := hv
  have HA := hid (And.intro hb hA)
  clear hb hA hg
  by_cases h200 : 200 < l.length
  · have HA0 := hid (HAw.out w (Fr.refl _ _))
    have hI : (200 : Int) < (l.length : Int) := by omega
    clear HAw HA HNew
    go_enter Tryd.func5, Tryd.ntmps5
    go_wp2_with (go_at_call 7; refine HA0.out.mono ?_; rintro e w1 ⟨rfl, H1⟩)
    go_ret
    exact ⟨rfl, H1⟩
  · have hN : l.length ≤ 200 := by omega
    have hNI : ¬ (200 : Int) < (l.length : Int) := by omega
    go_enter Tryd.func5, Tryd.ntmps5
    go_wp2_with (go_at_call 8; refine HNew.out.mono ?_; rintro e w1 ⟨p, F0, rfl, H1⟩)
    have HR0 := hid H1.out.1
    clear H1 HNew
    have HCl0 := hid (pmaClone_any HR0.out.r)
    rw [HR0.out.p] at HCl0
    refine HCl0.out.mono ?_
    rintro e w2 ⟨Fc, rfl, hc1, hc2, hc3⟩
    have H2 := hid (show LiW w p F0 (List.replicate 32 none) 2 [] Fc (List.replicate 32 none) 2 (.slice none 0 0) (.slice none 0 0) w2 from
      ⟨RowN.new' HR0.out hc2, hc1, RowI.nil _ _, RowI.nil _ _, (fun k hk hF => by have := hc3 k hk; have := HR0.out.r.lt k hF; omega), (fun g h => by cases h), (fun g h => by cases h), (fun k hk => by have := hc3 k hk; have := HR0.out.fr.size; omega), (fun _ => rfl), dn_new⟩)
    clear hc1 hc2 hc3 HCl0
    go_wp2_with fail
    go_loopw [2, 4, 5, 6, 7, 9, 10, 11, 12, 14, 15, 16, 17, 19, 20, 21, 22] (fun _ v4 v5 v6 i _ _ _ _ _ _ _ _ _ _ _ _ wr => ∃ (k : Nat) (F : PF) (σ : List (Option Int)) (h : Nat) (evs : List Ev) (Fh : PF) (σh : List (Option Int)) (hh : Nat), k ≤ l.length ∧ i = .int .i64 k ∧ v5 = .pointer (some ⟨Fh.p, 0, none⟩) ∧ Hid (LiW w p F σ h evs Fh σh hh v4 v6 wr ∧ (its σ).length ≤ k ∧ (k ≤ l.length / 2 → v6 = .slice none 0 0 ∧ its σh = []))) (fun _ _ _ _ i _ _ _ _ _ _ _ _ _ _ _ _ _ => l.length - (intOf i).toNat)
    case atStart => exact ⟨0, F0, _, 2, [], Fc, _, 2, by omega, rfl, rfl, hid ⟨H2.out, by decide, fun _ => ⟨rfl, by decide⟩⟩⟩
    case round =>
      obtain ⟨k, F, σ, h, evs, Fh, σh, hh, hk, rfl, rfl, HW⟩ := hrel
      by_cases hlt : k < l.length
      · have hltI : (k : Int) < l.length := by omega
        obtain ⟨b, o, rfl, hc⟩ := HA.out.2 (by omega)
        obtain ⟨a, ha⟩ : ∃ a, l[k]? = some a := ⟨_, List.getElem?_eq_getElem hlt⟩
        obtain ⟨q0, q1, q2, q3⟩ := hc k a ha
        obtain ⟨goes, raw, z, x⟩ := a
        have c0 := HW.out.1.r.fr.cell q0 id
        have c1 := HW.out.1.r.fr.cell q1 id
        have c2 := HW.out.1.r.fr.cell q2 id
        have c3 := HW.out.1.r.fr.cell q3 id
        have HZb := hid (HA.out.1 _ (List.mem_of_getElem? ha))
        obtain ⟨n, hn⟩ : ∃ n, (its σ).length = n := ⟨_, rfl⟩
        have HNn := hid hn
        have hnk := HW.out.2.1
        rw [hn] at hnk
        obtain ⟨A4, c4, e4, _⟩ := HW.out.1.l.rd (by omega)
        rw [ints'_length, hn] at e4
        subst e4
        have fa : Fr Nil1 wr (wr.alloc (.cells #[.bool goes, .bool false, .int .i64 z, .int .i64 x] 30)) := (Fr.refl _ _).alloc _
        have HFa := hid fa
        have HBx := hid (Has.new wr [.bool goes, .bool false, .int .i64 z, .int .i64 x] 30)
        have HWa := hid (HW.out.1.new fa)
        clear q0 q1 q2 q3 hc ha hn fa
        go_upto_if 53 with (first
          | (go_at_call 12; refine (RowG.placesL H3.out.2.1 hearN H3.out.1 HNn.out).mono ?_; rintro e w4 ⟨A10, c10, rfl, H4⟩; have hb := (HBx.out.fr' H3.out.2.2 id).fr' H4.out.2.2 id; have b0 := hb.cell 0; have b1 := hb.cell 1; have b2 := hb.cell 2; have b3 := hb.cell 3; have HB4 := hid hb; clear hb)
          | (go_at_call 11; refine (RowG.slots HWa.out.r hearN).mono ?_; rintro e w3 ⟨f3, rfl, H3⟩))
        have HW4 := hid (HW.out.1.new (HFa.out.trans (H3.out.2.2.trans H4.out.2.2)))
        have HP4 := hid H4.out.1
        have HF4 := hid (HFa.out.trans (H3.out.2.2.trans H4.out.2.2))
        clear H3 H4 HWa HBx c0 c1 c2 c3
        go_cut [4] from 32 to 176 (fun s4 wx => ∃ (F' : PF) (σ' : List (Option Int)) (h' : Nat) (evs' : List Ev), Hid (LiW w p F' σ' h' evs' Fh σh hh s4 u6 wx ∧ (its σ').length ≤ k + 1))
        case first =>
          cases goes with
          | true =>
            by_cases hn0 : n = 0
            · have hb0 : ((n : Int) == 0) = true := by rw [beq_iff_eq]; omega
              have hbI : (n : Int) = 0 := by omega
              go_wp2_with fail
              exact ⟨⟨k + 1, F, σ, h, evs, Fh, σh, hh, by omega, by go_num, rfl, hid ⟨HW4.out, by have := HNn.out; omega, fun h => HW.out.2.2 (by omega)⟩⟩, by simp [intOf]; omega⟩
            · have hb0 : ((n : Int) == 0) = false := beq_eq_false_iff_ne.2 (by omega)
              obtain ⟨t1, t2, t3⟩ := tmod_fix z n (by omega)
              have m0 := Int.emod_nonneg z (show (n : Int) ≠ 0 by omega)
              have m1 := Int.emod_lt_of_pos z (show 0 < (n : Int) by omega)
              obtain ⟨K, hK⟩ : ∃ K : Nat, z % (n : Int) = K := ⟨(z % (n : Int)).toNat, by omega⟩
              rw [hK] at t1 m0 m1
              have v1 : IntKind.i64.wrap (z.tmod n + n) = z.tmod n + n := IntWalk.i64_in _ (by omega)
              have hKn : K < n := by omega
              obtain ⟨q, hq1, hq2, hq3⟩ := idxs_get (σ := σ) (k := K) (by rw [HW.out.1.r.small.2, HNn.out]; exact hKn)
              obtain ⟨A', c', e', _, h10⟩ := HP4.out
              injection e' with e1 e2 e3
              subst e1
              obtain ⟨ad, had, h11⟩ := h10 (by rw [ints'_length, HW.out.1.r.small.2, HNn.out]; omega)
              subst had
              have hcell := h11 K _ (ints'_get _ K (by rw [HW.out.1.r.small.2, HNn.out]; exact hKn))
              rw [hq1] at hcell
              obtain ⟨g, cap, eg, hgc, _⟩ := HW4.out.l.shape (by rw [HNn.out]; omega)
              injection eg with e4 e5 e6
              subst e4 e6
              rw [HNn.out] at hgc
              have HDel := hid (HW4.out.del (by rw [HNn.out]; omega) hq2 hq3)
              have HY := hid (show ((its σ).getD K 0) = (its σ).getD K 0 from rfl)
              clear h10 h11 hq1 hq2 hq3 e2 e3 e5 hK
              obtain ⟨y, hy⟩ : ∃ y, (its σ).getD K 0 = y := ⟨_, rfl⟩
              rw [hy] at HDel
              have HYy := hid hy
              clear hy HY
              go_upto_region 24 with (first
                | (go_at_call 13; refine HDel.out.mono ?_; rintro e w5 ⟨a1, a2, a3, a4, F5, σ5, h5, evs5, rfl, H5⟩; have hl5 := H5.out.1.l.new ((Fr.refl Nil1 w5).alloc (.cells #[.int .i64 a1, .int .i64 a2, .int .i64 a3, .int .i64 a4] 35)); have HL5 := hid hl5; have hcK := hl5.cells (g := g) rfl K _ (ints'_get _ K (by rw [HNn.out]; exact hKn)); rw [add_flat, Nat.zero_add, HYy.out] at hcK; clear hl5))
              obtain ⟨W5, hW5⟩ : ∃ W, w5.alloc (.cells #[.int .i64 a1, .int .i64 a2, .int .i64 a3, .int .i64 a4] 35) = W := ⟨_, rfl⟩
              have HF5 := hid (show Fr Nil1 w5 W5 from hW5 ▸ (Fr.refl _ _).alloc _)
              rw [hW5] at HL5 hcK ⊢
              have HRd5 := hid (HL5.out.rd (by rw [HNn.out]; omega))
              have HG5 := hid (show NG ≤ W5.heap.size by have := H5.out.1.r.r.sl.g.size; have := HF5.out.size; omega)
              clear hW5
              have hlt1 : (its σ).take K = (its σ).take K := rfl
              have hK1 : (K : Int) + 1 ≤ n := by omega
              have fin : ∀ (v7 : Value) (w6 w7 : World) (v6' : Value), Hid (RowI w6 W5.heap.size v6' ([] ++ (its σ).take K) ∧ W5.grownBy w6 none ∧ (v6' = .slice none 0 0 ↔ (Value.slice none 0 0 = Value.slice none 0 0) ∧ ((its σ).take K).length = 0)) →
                  RowI w7 W5.heap.size v7 (([] ++ (its σ).take K) ++ (its σ).drop (K + 1)) → w6.grownBy w7 v6'.ownBlock → (v7 = .slice none 0 0 ↔ v6' = .slice none 0 0 ∧ ((its σ).drop (K + 1)).length = 0) →
                  Hid (LiW w p F5 σ5 h5 evs5 Fh σh hh v7 u6 w7 ∧ (its σ5).length ≤ k + 1) := by
                intro v7 w6 w7 v6' hA hB hC hD
                have f1 : Fr Nil1 W5 w6 := (Fr.refl _ _).grown hA.out.2.1 (fun k e => by cases e) (fun k e => by cases e)
                have f2 : Fr Nil1 W5 w7 := f1.grown hC (fun k e => by have := (own_lt hA.out.1 k e).1; have := HG5.out; omega) (fun k e hk => by have := (own_lt hA.out.1 k e).1; omega)
                have e1 : its σ5 = ([] ++ (its σ).take K) ++ (its σ).drop (K + 1) := by rw [List.nil_append]; exact H5.out.2
                refine hid ⟨H5.out.1.done (HF5.out.trans f2) ?_ (fun h0 => ?_), ?_⟩
                · rw [e1]; exact hB.mono HF5.out.size
                · rw [e1, List.nil_append, List.append_eq_nil_iff] at h0
                  refine hD.2 ⟨hA.out.2.2.2 ⟨rfl, by rw [h0.1]; rfl⟩, by rw [h0.2]; rfl⟩
                · rw [H5.out.2, List.length_append, List.length_take, List.length_drop, HNn.out]; omega
              have HFin := hid fin
              clear fin
              by_cases hcap : c4 = K + 1
              · subst hcap
                go_wp2_with (first
                  | (at_builtin; refine append_rd rfl (.tmp 89) (.tmp 93) rfl rfl H6.out.1 rfl (rd_zero (some ⟨g, 0, none⟩) 0 (List.drop_eq_nil_of_le (show (its σ).length ≤ K + 1 by rw [HNn.out]; omega))) (by rw [List.nil_append, List.length_take, List.length_drop, HNn.out]; omega) (by have := H6.out.2.1.size; omega) ?_; intro v7 w7 hr hg hnil; have H7 := HFin.out v7 _ w7 _ H6 hr hg hnil; clear hr hg hnil)
                  | (at_builtin; refine append_rd rfl (.tmp 84) (.tmp 87) rfl rfl (RowI.nil W5 W5.heap.size) rfl (rd_take HRd5.out K (by rw [HNn.out]; omega)) (by rw [List.length_take, HNn.out, List.length_nil]; omega) (Nat.le_refl _) ?_; intro v6' w6 hr hg hnil; have H6 := hid (And.intro hr (And.intro hg hnil)); clear hr hg hnil))
                go_meet
                exact ⟨F5, σ5, h5, evs5, H7⟩
              · have hcI : ¬ (c4 : Int) = (K : Int) + 1 := by omega
                go_wp2_with (first
                  | (at_builtin; refine append_rd rfl (.tmp 89) (.tmp 93) rfl rfl H6.out.1 rfl ((rd_drop HRd5.out (K + 1) (by rw [HNn.out]; omega) HNn.out.symm (some ⟨g, K + 1, none⟩) (fun _ => rfl) _).new ((Fr.refl _ _).grown H6.out.2.1 (fun k e => by cases e) (fun k e => by cases e))) (by rw [List.nil_append, List.length_take, List.length_drop, HNn.out]; omega) (by have := H6.out.2.1.size; omega) ?_; intro v7 w7 hr hg hnil; have H7 := HFin.out v7 _ w7 _ H6 hr hg hnil; clear hr hg hnil)
                  | (at_builtin; refine append_rd rfl (.tmp 84) (.tmp 87) rfl rfl (RowI.nil W5 W5.heap.size) rfl (rd_take HRd5.out K (by rw [HNn.out]; omega)) (by rw [List.length_take, HNn.out, List.length_nil]; omega) (Nat.le_refl _) ?_; intro v6' w6 hr hg hnil; have H6 := hid (And.intro hr (And.intro hg hnil)); clear hr hg hnil))
                go_meet
                exact ⟨F5, σ5, h5, evs5, H7⟩
          | false =>
            have e1 : ((n + 1 : Nat) : Int) = (n : Int) + 1 := by omega
            obtain ⟨t1, t2, t3⟩ := tmod_fix z (n + 1) (by omega)
            have m0 := Int.emod_nonneg z (show (n : Int) + 1 ≠ 0 by omega)
            have m1 := Int.emod_lt_of_pos z (show 0 < (n : Int) + 1 by omega)
            rw [show z.tmod ((n : Int) + 1) + ((n : Int) + 1) = z.tmod ((n : Int) + 1) + n + 1 by omega] at t1
            obtain ⟨K, hK⟩ : ∃ K : Nat, z % ((n : Int) + 1) = K := ⟨(z % ((n : Int) + 1)).toNat, by omega⟩
            have HKz := hid (show (z % (((its σ).length + 1 : Nat) : Int)).toNat = K by rw [HNn.out, e1, hK]; rfl)
            rw [hK] at t1 m0 m1
            have v0 : IntKind.i64.wrap ((n : Int) + 1) = (n : Int) + 1 := IntWalk.i64_in _ (by omega)
            have v1 : IntKind.i64.wrap (z.tmod ((n : Int) + 1) + n) = z.tmod ((n : Int) + 1) + n := IntWalk.i64_in _ (by omega)
            have v2 : IntKind.i64.wrap (z.tmod ((n : Int) + 1) + n + 1) = z.tmod ((n : Int) + 1) + n + 1 := IntWalk.i64_in _ (by omega)
            have hb0 : ((n : Int) + 1 == 0) = false := beq_eq_false_iff_ne.2 (by omega)
            have hKn : K ≤ n := by omega
            have HnB := hid (fun hk : F.mem wr.heap.size => show False by have := HW.out.1.r.r.lt _ hk; omega)
            clear hK e1
            have HBaN := hid (And.intro (fun hk : Fh.mem wr.heap.size => show False by have := HW.out.1.c.lt _ hk; omega) (And.intro (fun hk : (Value.slice A4 n c4).ownBlock = some wr.heap.size => show False by have := (own_lt HW.out.1.l _ hk).2; omega) (fun hk : u6.ownBlock = some wr.heap.size => show False by have := (own_lt HW.out.1.t _ hk).2; omega)))
            have HFw := hid HW.out.1.r.fr.size
            have HBx0 := hid HB4.out.lt
            have HBS := hid (fun (BS : Nat) (h : wr.heap.size ≤ BS) => And.intro (fun hk : F.mem BS => show False by have := HW.out.1.r.r.lt _ hk; omega) (And.intro (fun hk : Fh.mem BS => show False by have := HW.out.1.c.lt _ hk; omega) (And.intro (fun hk : (Value.slice A4 n c4).ownBlock = some BS => show False by have := (own_lt HW.out.1.l _ hk).2; omega) (And.intro (fun hk : u6.ownBlock = some BS => show False by have := (own_lt HW.out.1.t _ hk).2; omega) (And.intro (show w.heap.size ≤ BS by have := HFw.out; omega) (show NG ≤ BS by have := HW.out.1.r.r.sl.g.size; omega))))))
            go_upto_region 28 with (fail)
            go_cut [17, 19] from 32 to 176 (fun s17 s19 wx => ∃ (q : Nat) (F6 : PF) (σ6 : List (Option Int)) (h6 : Nat) (evs6 : List Ev), s17 = .int .i64 q ∧ s19 = .int .i64 0 ∧ Hid (LiA w p F6 σ6 h6 evs6 Fh σh hh (.slice A4 n c4) u6 (its σ) wx ∧ its σ6 = (its σ).take K ++ x :: (its σ).drop K ∧ σ6.getD q none = some x ∧ cntOn (onOf σ6) q = K ∧ Has wx wr.heap.size [.bool false, .bool false, .int .i64 z, .int .i64 x] 30))
            case first =>
              go_region_held3 (fun w' => w'.cell? ⟨wr.heap.size, 0, none⟩ = some (.bool false) ∧ w'.cell? ⟨wr.heap.size, 1, none⟩ = some (.bool false) ∧ w'.cell? ⟨wr.heap.size, 2, none⟩ = some (.int .i64 z) ∧ w'.cell? ⟨wr.heap.size, 3, none⟩ = some (.int .i64 x)) (first | exact ⟨k0, k1, k2, k3⟩ | exact ⟨b0, b1, b2, b3⟩ | exact (fun hb : Has _ wr.heap.size [.bool false, .bool false, .int .i64 z, .int .i64 x] 30 => ⟨hb.cell 0, hb.cell 1, hb.cell 2, hb.cell 3⟩) ((((HB6.out.other _ hne5).other _ hne5).other _ hne5).other _ hne5) | go_keep) (first
                | (go_at_call 10; refine (RowG.place (HW4.out.r.new' (Fr.refl Nil1 w4).drew) hearN ⟨false, false, z, x⟩ _ (HP4.out.new (Fr.refl Nil1 w4).drew) HZb.out.1 HZb.out.2).mono ?_; rintro e w5 ⟨rfl, H5⟩; have hb5 := (HB4.out.drew).fr' H5.out.2 id; have HB5 := hid hb5; have k0 := hb5.cell 0; have k1 := hb5.cell 1; have k2 := hb5.cell 2; have k3 := hb5.cell 3; clear hb5)
                | (go_at_call 10; refine (RowG.place (HW4.out.r.new' ((Fr.refl Nil1 w4).alloc (.cells #[.int .i64 0, .int .i64 0, .int .i64 0, .int .i64 0] 35)).drew) hearN ⟨false, false, z, x⟩ _ (HP4.out.new ((Fr.refl Nil1 w4).alloc (.cells #[.int .i64 0, .int .i64 0, .int .i64 0, .int .i64 0] 35)).drew) HZb.out.1 HZb.out.2).mono ?_; rintro e w5 ⟨rfl, H5⟩; have hb5 := ((HB4.out.alloc (.cells #[.int .i64 0, .int .i64 0, .int .i64 0, .int .i64 0] 35)).drew).fr' H5.out.2 id; have HB5 := hid hb5; have k0 := hb5.cell 0; have k1 := hb5.cell 1; have k2 := hb5.cell 2; have k3 := hb5.cell 3; have HS5 := hid (((Has.new w4 [.int .i64 0, .int .i64 0, .int .i64 0, .int .i64 0] 35).drew).fr' H5.out.2 id); clear hb5)
                | (go_at_call 14; refine (LiW.ins (HW4.out.new (((Fr.refl Nil1 w4).alloc (.cells #[.int .i64 0, .int .i64 0, .int .i64 0, .int .i64 0] 35)).drew.trans H5.out.2)) (by rw [HNn.out]; omega) z x HKz.out).mono ?_; rintro e w6 ⟨q, a1, a2, a3, a4, F6, σ6, h6, evs6, rfl, H6⟩; have hb6 := HB5.out.fr' H6.out.2.2.2.2 (fun hk => hk.elim (fun h => HnB.out h) id); have HB6 := hid hb6; have k0 := hb6.cell 0; have k1 := hb6.cell 1; have k2 := hb6.cell 2; have k3 := hb6.cell 3; have hs6 := HS5.out.fr' H6.out.2.2.2.2 (fun hk => hk.elim (fun h => by have := HW.out.1.r.r.lt _ h; have := HF4.out.size; omega) id); have HS6 := hid hs6; have s0 := hs6.cell 0; have s1 := hs6.cell 1; have s2 := hs6.cell 2; have s3 := hs6.cell 3; have sf := hs6.frozen; have hne5 : wr.heap.size ≠ w4.heap.size := (by have h9 := HBx0.out; omega); clear hb6 hs6)
                | (go_at_call 14; refine (LiW.ins (HW4.out.new (((Fr.refl Nil1 w4).drew.trans H5.out.2).alloc (.cells #[.int .i64 0, .int .i64 0, .int .i64 0, .int .i64 0] 35))) (by rw [HNn.out]; omega) z x HKz.out).mono ?_; rintro e w6 ⟨q, a1, a2, a3, a4, F6, σ6, h6, evs6, rfl, H6⟩; have hb6 := (HB5.out.alloc (.cells #[.int .i64 0, .int .i64 0, .int .i64 0, .int .i64 0] 35)).fr' H6.out.2.2.2.2 (fun hk => hk.elim (fun h => HnB.out h) id); have HB6 := hid hb6; have k0 := hb6.cell 0; have k1 := hb6.cell 1; have k2 := hb6.cell 2; have k3 := hb6.cell 3; have hs6 := (Has.new w5 [.int .i64 0, .int .i64 0, .int .i64 0, .int .i64 0] 35).fr' H6.out.2.2.2.2 (fun hk => hk.elim (fun h => by have := HW.out.1.r.r.lt _ h; have := HF4.out.size; have := H5.out.2.size; simp at this; omega) id); have HS6 := hid hs6; have s0 := hs6.cell 0; have s1 := hs6.cell 1; have s2 := hs6.cell 2; have s3 := hs6.cell 3; have sf := hs6.frozen; have hne5 : wr.heap.size ≠ w5.heap.size := (by have := HF4.out.size; have := H5.out.2.size; simp at this ⊢; have h9 := HBx0.out; omega); clear hb6 hs6)
                | (go_at_call 14; refine (LiW.ins (HW4.out.new ((Fr.refl Nil1 w4).drew.trans H5.out.2)) (by rw [HNn.out]; omega) z x HKz.out).mono ?_; rintro e w6 ⟨q, a1, a2, a3, a4, F6, σ6, h6, evs6, rfl, H6⟩; have hb6 := HB5.out.fr' H6.out.2.2.2.2 (fun hk => hk.elim (fun h => HnB.out h) id); have HB6 := hid hb6; have k0 := hb6.cell 0; have k1 := hb6.cell 1; have k2 := hb6.cell 2; have k3 := hb6.cell 3; clear hb6))
              all_goals (try go_wp2_with fail)
              all_goals go_meet
              · exact ⟨q, F6, σ6, h6, evs6, rfl, rfl, hid ⟨H6.out.1 wr.heap.size _ HnB.out HBaN.out.1 HBaN.out.2.1 HBaN.out.2.2 (by have := HBx0.out; have := H5.out.2.size; simp at this; omega) HFw.out ((Fr.refl _ _).alloc _), H6.out.2.1, H6.out.2.2.1, H6.out.2.2.2.1, HB6.out.alloc _⟩⟩
              · exact ⟨q, F6, σ6, h6, evs6, rfl, rfl, hid ⟨H6.out.1 w5.heap.size _ (HBS.out w5.heap.size (by have := HBx0.out; have := H5.out.2.size; simp at this; omega)).1 (HBS.out w5.heap.size (by have := HBx0.out; have := H5.out.2.size; simp at this; omega)).2.1 (HBS.out w5.heap.size (by have := HBx0.out; have := H5.out.2.size; simp at this; omega)).2.2.1 (HBS.out w5.heap.size (by have := HBx0.out; have := H5.out.2.size; simp at this; omega)).2.2.2.1 (by rw [World.size_alloc]; omega) (HBS.out w5.heap.size (by have := HBx0.out; have := H5.out.2.size; simp at this; omega)).2.2.2.2.1
                    (((((Fr.refl (fun k => k = w5.heap.size) w6).setCell ⟨w5.heap.size, 0, none⟩ _ (HBS.out w5.heap.size (by have := HBx0.out; have := H5.out.2.size; simp at this; omega)).2.2.2.2.2 (fun _ => rfl)).setCell ⟨w5.heap.size, 1, none⟩ _ (HBS.out w5.heap.size (by have := HBx0.out; have := H5.out.2.size; simp at this; omega)).2.2.2.2.2 (fun _ => rfl)).setCell ⟨w5.heap.size, 2, none⟩ _ (HBS.out w5.heap.size (by have := HBx0.out; have := H5.out.2.size; simp at this; omega)).2.2.2.2.2 (fun _ => rfl)).setCell ⟨w5.heap.size, 3, none⟩ _ (HBS.out w5.heap.size (by have := HBx0.out; have := H5.out.2.size; simp at this; omega)).2.2.2.2.2 (fun _ => rfl)), H6.out.2.1, H6.out.2.2.1, H6.out.2.2.2.1, (((HB6.out.other _ hne5).other _ hne5).other _ hne5).other _ hne5⟩⟩
              · exact ⟨q, F6, σ6, h6, evs6, rfl, rfl, hid ⟨H6.out.1 w4.heap.size _ (HBS.out w4.heap.size (by have := HBx0.out; omega)).1 (HBS.out w4.heap.size (by have := HBx0.out; omega)).2.1 (HBS.out w4.heap.size (by have := HBx0.out; omega)).2.2.1 (HBS.out w4.heap.size (by have := HBx0.out; omega)).2.2.2.1 (by have := H5.out.2.size; simp at this; omega) (HBS.out w4.heap.size (by have := HBx0.out; omega)).2.2.2.2.1
                    (((((Fr.refl (fun k => k = w4.heap.size) w6).setCell ⟨w4.heap.size, 0, none⟩ _ (HBS.out w4.heap.size (by have := HBx0.out; omega)).2.2.2.2.2 (fun _ => rfl)).setCell ⟨w4.heap.size, 1, none⟩ _ (HBS.out w4.heap.size (by have := HBx0.out; omega)).2.2.2.2.2 (fun _ => rfl)).setCell ⟨w4.heap.size, 2, none⟩ _ (HBS.out w4.heap.size (by have := HBx0.out; omega)).2.2.2.2.2 (fun _ => rfl)).setCell ⟨w4.heap.size, 3, none⟩ _ (HBS.out w4.heap.size (by have := HBx0.out; omega)).2.2.2.2.2 (fun _ => rfl)), H6.out.2.1, H6.out.2.2.1, H6.out.2.2.2.1, (((HB6.out.other _ hne5).other _ hne5).other _ hne5).other _ hne5⟩⟩
            case rest =>
              obtain ⟨q, F6, σ6, h6, evs6, rfl, rfl, H6⟩ := hcut
              obtain ⟨W7, hW7⟩ : ∃ W, W = wc := ⟨_, rfl⟩
              subst hW7
              have HB7 := hid H6.out.2.2.2.2
              have b3 := HB7.out.cell 3
              have HG7 := hid (show NG ≤ W7.heap.size from H6.out.1.r.r.sl.g.size)
              have HRd7 := hid (H6.out.1.l.rd (by rw [HNn.out]; omega))
              clear b0 b1 b2
              by_cases hn0 : n = 0
              · have hnil := HW.out.1.n4 (List.eq_nil_of_length_eq_zero (by rw [HNn.out]; exact hn0))
                injection hnil with e4 e5 e6
                subst e4 e6
                subst hn0
                obtain rfl : K = 0 := by omega
                go_upto_region 35 with (first
                  | (at_builtin; refine append_rd rfl (.tmp 129) (.tmp 132) rfl rfl H9.out.row rfl (((rd_zero none 0 (List.drop_eq_nil_of_le (show (its σ).length ≤ 0 by rw [HNn.out]; omega))))) (by rw [List.nil_append, List.length_append, List.length_take, List.length_drop, HNn.out, List.length_singleton]; omega) (by have := H9.out.fr.size; omega) ?_; intro v10 w10 hr hg hnil; have H10 := hid (H9.out.step HG7.out hr hg hnil); clear hr hg hnil)
                  | (at_builtin; refine append_rd rfl (.tmp 124) (.tmp 127) rfl rfl (H8.out.new ((Fr.refl _ _).alloc _)).row rfl (rd_one w8 x) (by rw [List.nil_append, List.length_take, HNn.out, List.length_singleton]; omega) (by have := H8.out.fr.size; simp; omega) ?_; intro v9 w9 hr hg hnil; have H9 := hid ((H8.out.new ((Fr.refl _ _).alloc _)).step HG7.out hr hg hnil); have b3 := (HB7.out.fr' H9.out.fr id).cell 3; clear hr hg hnil)
                  | (at_builtin; refine append_rd rfl (.tmp 119) (.tmp 122) rfl rfl (ApI.start W7).row rfl ((rd_take HRd7.out 0 (Nat.zero_le _))) (by rw [List.length_take, HNn.out, List.length_nil]; omega) (Nat.le_refl _) ?_; intro v8 w8 hr hg hnil; have H8 := hid ((ApI.start W7).step HG7.out hr hg hnil); have b3 := (HB7.out.fr' H8.out.fr id).cell 3; clear hr hg hnil))
                have b3' := (HB7.out.fr' H10.out.fr id).cell 3
                have HDn := hid (H6.out.1.done H10.out.fr (by rw [H6.out.2.1]; have := H10.out.row; rw [List.nil_append, List.append_assoc] at this; exact this) (fun h0 => H10.out.nil (by rw [List.nil_append, List.append_assoc]; rw [H6.out.2.1] at h0; exact h0)))
                go_wp2_with (first
                  | (go_at_call 17; refine (RowG.nthQ HDn.out.r (onOf_some H6.out.2.2.1) H6.out.2.2.2.1).mono ?_; rintro e w11 ⟨rfl, rfl⟩)
                  | (go_at_call 15; refine (RowG.atQ HDn.out.r H6.out.2.2.1).mono ?_; rintro e w11 ⟨rfl, rfl⟩))
                go_meet
                exact ⟨F6, σ6, h6, evs6, hid ⟨HDn.out, by rw [H6.out.2.1, List.length_append, List.length_cons, List.length_take, List.length_drop, HNn.out]; omega⟩⟩
              · obtain ⟨g, cap, eg, hgc, _⟩ := HW4.out.l.shape (by rw [HNn.out]; omega)
                injection eg with e4 e5 e6
                subst e4 e6
                rw [HNn.out] at hgc
                clear e5
                by_cases hcap : c4 = K
                · subst hcap
                  go_upto_region 35 with (first
                    | (at_builtin; refine append_rd rfl (.tmp 129) (.tmp 132) rfl rfl H9.out.row rfl ((rd_zero (some ⟨g, 0, none⟩) 0 (List.drop_eq_nil_of_le (show (its σ).length ≤ c4 by rw [HNn.out]; omega)))) (by rw [List.nil_append, List.length_append, List.length_take, List.length_drop, HNn.out, List.length_singleton]; omega) (by have := H9.out.fr.size; omega) ?_; intro v10 w10 hr hg hnil; have H10 := hid (H9.out.step HG7.out hr hg hnil); clear hr hg hnil)
                    | (at_builtin; refine append_rd rfl (.tmp 124) (.tmp 127) rfl rfl (H8.out.new ((Fr.refl _ _).alloc _)).row rfl (rd_one w8 x) (by rw [List.nil_append, List.length_take, HNn.out, List.length_singleton]; omega) (by have := H8.out.fr.size; simp; omega) ?_; intro v9 w9 hr hg hnil; have H9 := hid ((H8.out.new ((Fr.refl _ _).alloc _)).step HG7.out hr hg hnil); have b3 := (HB7.out.fr' H9.out.fr id).cell 3; clear hr hg hnil)
                    | (at_builtin; refine append_rd rfl (.tmp 119) (.tmp 122) rfl rfl (ApI.start W7).row rfl ((rd_take HRd7.out c4 (by rw [HNn.out]; omega))) (by rw [List.length_take, HNn.out, List.length_nil]; omega) (Nat.le_refl _) ?_; intro v8 w8 hr hg hnil; have H8 := hid ((ApI.start W7).step HG7.out hr hg hnil); have b3 := (HB7.out.fr' H8.out.fr id).cell 3; clear hr hg hnil))
                  have b3' := (HB7.out.fr' H10.out.fr id).cell 3
                  have HDn := hid (H6.out.1.done H10.out.fr (by rw [H6.out.2.1]; have := H10.out.row; rw [List.nil_append, List.append_assoc] at this; exact this) (fun h0 => H10.out.nil (by rw [List.nil_append, List.append_assoc]; rw [H6.out.2.1] at h0; exact h0)))
                  go_wp2_with (first
                    | (go_at_call 17; refine (RowG.nthQ HDn.out.r (onOf_some H6.out.2.2.1) H6.out.2.2.2.1).mono ?_; rintro e w11 ⟨rfl, rfl⟩)
                    | (go_at_call 15; refine (RowG.atQ HDn.out.r H6.out.2.2.1).mono ?_; rintro e w11 ⟨rfl, rfl⟩))
                  go_meet
                  exact ⟨F6, σ6, h6, evs6, hid ⟨HDn.out, by rw [H6.out.2.1, List.length_append, List.length_cons, List.length_take, List.length_drop, HNn.out]; omega⟩⟩
                · have hcI : ¬ (c4 : Int) = (K : Int) := by omega
                  go_upto_region 35 with (first
                    | (at_builtin; refine append_rd rfl (.tmp 129) (.tmp 132) rfl rfl H9.out.row rfl (((rd_drop HRd7.out K (by rw [HNn.out]; omega) HNn.out.symm (some ⟨g, K, none⟩) (fun _ => rfl) _).new H9.out.fr)) (by rw [List.nil_append, List.length_append, List.length_take, List.length_drop, HNn.out, List.length_singleton]; omega) (by have := H9.out.fr.size; omega) ?_; intro v10 w10 hr hg hnil; have H10 := hid (H9.out.step HG7.out hr hg hnil); clear hr hg hnil)
                    | (at_builtin; refine append_rd rfl (.tmp 124) (.tmp 127) rfl rfl (H8.out.new ((Fr.refl _ _).alloc _)).row rfl (rd_one w8 x) (by rw [List.nil_append, List.length_take, HNn.out, List.length_singleton]; omega) (by have := H8.out.fr.size; simp; omega) ?_; intro v9 w9 hr hg hnil; have H9 := hid ((H8.out.new ((Fr.refl _ _).alloc _)).step HG7.out hr hg hnil); have b3 := (HB7.out.fr' H9.out.fr id).cell 3; clear hr hg hnil)
                    | (at_builtin; refine append_rd rfl (.tmp 119) (.tmp 122) rfl rfl (ApI.start W7).row rfl ((rd_take HRd7.out K (by rw [HNn.out]; omega))) (by rw [List.length_take, HNn.out, List.length_nil]; omega) (Nat.le_refl _) ?_; intro v8 w8 hr hg hnil; have H8 := hid ((ApI.start W7).step HG7.out hr hg hnil); have b3 := (HB7.out.fr' H8.out.fr id).cell 3; clear hr hg hnil))
                  have b3' := (HB7.out.fr' H10.out.fr id).cell 3
                  have HDn := hid (H6.out.1.done H10.out.fr (by rw [H6.out.2.1]; have := H10.out.row; rw [List.nil_append, List.append_assoc] at this; exact this) (fun h0 => H10.out.nil (by rw [List.nil_append, List.append_assoc]; rw [H6.out.2.1] at h0; exact h0)))
                  go_wp2_with (first
                    | (go_at_call 17; refine (RowG.nthQ HDn.out.r (onOf_some H6.out.2.2.1) H6.out.2.2.2.1).mono ?_; rintro e w11 ⟨rfl, rfl⟩)
                    | (go_at_call 15; refine (RowG.atQ HDn.out.r H6.out.2.2.1).mono ?_; rintro e w11 ⟨rfl, rfl⟩))
                  go_meet
                  exact ⟨F6, σ6, h6, evs6, hid ⟨HDn.out, by rw [H6.out.2.1, List.length_append, List.length_cons, List.length_take, List.length_drop, HNn.out]; omega⟩⟩
        case rest =>
          obtain ⟨F2, σ2, h2, evs2, HL⟩ := hcut
          obtain ⟨n2, hn2⟩ : ∃ n2, (its σ2).length = n2 := ⟨_, rfl⟩
          have HN2 := hid hn2
          have hn2k := HL.out.2
          rw [hn2] at hn2k
          obtain ⟨A5, c5, e5, _⟩ := HL.out.1.l.rd (by omega)
          rw [ints'_length, hn2] at e5
          subst e5
          have HRd := hid (HL.out.1.l.rd (by omega))
          have HLen := hid (RowG.len HL.out.1.r)
          rw [hn2] at HLen
          clear hn2
          go_upto_region 40 with (first
            | (go_at_call 16; refine (RowN.lenN HL.out.1.r HN2.out w4 (H3.out.2.2.trans H4.out)).mono ?_; rintro e w5 ⟨rfl, rfl⟩)
            | (go_at_call 19; refine (ints_eq _ _ v3 _ w3 H3.out.1 (HRd.out.new H3.out.2.2) rfl).mono ?_; rintro e w4 ⟨rfl, hf4⟩; have H4 := hid hf4; clear hf4)
            | (go_at_call 18; refine (RowG.itemsR HL.out.1.r hearN).mono ?_; rintro e w3 ⟨v3, rfl, H3⟩))
          have HL4 := hid (HL.out.1.new (H3.out.2.2.trans H4.out))
          have hdiv : (0 : Int) ≤ l.length := by omega
          by_cases hk2 : k = l.length / 2
          · have hbk : ((k : Int) == (l.length : Int) / 2) = true := by rw [beq_iff_eq]; omega
            have hbk' : (k : Int) = (l.length : Int) / 2 := by omega
            have HK2 := hid hk2
            obtain ⟨hu6, hs6⟩ := HW.out.2.2 (by omega)
            subst hu6
            clear hk2 hs6 hbk'
            have HCl := hid (pmaClone_any HL4.out.r.r)
            rw [HL4.out.r.p] at HCl
            have HG4 := hid (show NG ≤ w4.heap.size from HL4.out.r.r.sl.g.size)
            go_wp2_with (first
              | (at_builtin; refine append_rd rfl (.tmp 174) (.tmp 175) rfl rfl (ApI.start w6).row rfl (HRd.out.new ((H3.out.2.2.trans H4.out).trans H6.out.2.1)) (by rw [HN2.out, List.length_nil]; omega) (Nat.le_refl _) ?_; intro v7 w7 hr hg hnil; have H7 := hid ((ApI.start w6).step (by have := HG4.out; have := H6.out.2.1.size; omega) hr hg hnil); clear hr hg hnil)
              | (go_at_call 21; refine HCl.out.mono ?_; rintro e w6 ⟨Fd, rfl, hc1, hc2, hc3⟩; have H6 := hid (And.intro hc1 (And.intro hc2 hc3)); clear hc1 hc2 hc3))
            have fz := hid (H6.out.2.1.trans H7.out.fr)
            refine ⟨⟨k + 1, F2, σ2, h2, evs2, Fd, σ2, h2, by omega, by go_num, rfl, hid ⟨⟨HL4.out.r.new' fz.out, H6.out.1.new H7.out.fr, HL4.out.l.new fz.out, H7.out.row.mono (by have := HL4.out.r.fr.size; have := H6.out.2.1.size; omega), (fun j hj hF => by have := H6.out.2.2 j hj; have := HL4.out.r.r.lt j hF; omega), HL4.out.d4, (fun g hg hF => by have := (own_lt H7.out.row g hg).1; have := HL4.out.r.r.lt g hF; have := H6.out.2.1.size; omega), (fun j hj => by have := H6.out.2.2 j hj; have := HL4.out.r.fr.size; omega), HL4.out.n4, HL4.out.r.d⟩, HL.out.2, fun h => by have := HK2.out; omega⟩⟩, by simp [intOf]; omega⟩
          · have hbk : ((k : Int) == (l.length : Int) / 2) = false := beq_eq_false_iff_ne.2 (by omega)
            go_wp2_with fail
            exact ⟨⟨k + 1, F2, σ2, h2, evs2, Fh, σh, hh, by omega, by go_num, rfl, hid ⟨HL4.out, HL.out.2, fun h => HW.out.2.2 (by omega)⟩⟩, by simp [intOf]; omega⟩
      · have hltI : ¬ (k : Int) < l.length := by omega
        have HFr := hid HW.out.1.r.fr
        have HIt := hid (pmaItems_any HW.out.1.c)
        have hsm := its_length σh
        have hsm2 := cntOn_le (onOf σh) σh.length
        have hsm3 := HW.out.1.dh.len
        have hsm4 := p2_le HW.out.1.c.h9
        have HSm := hid (show (its σh).length ≤ 4096 by omega)
        clear hsm hsm2 hsm3 hsm4
        go_wp2_with (first
          | (go_at_call 7; refine (HAw.out _ (HFr.out.trans (H3.out.2.trans H4.out))).mono ?_; rintro e w9 ⟨rfl, H9⟩)
          | (go_at_call 19; refine (ints_eq _ _ v3 _ w3 (H3.out.1.rd (by have := HSm.out; omega)) ((HW.out.1.t.new H3.out.2).rd (by have := HSm.out; omega)) rfl).mono ?_; rintro e w4 ⟨rfl, hf4⟩; have H4 := hid hf4; clear hf4)
          | (go_at_call 18; refine HIt.out.mono ?_; rintro e w3 ⟨v3, rfl, h31, h32⟩; have H3 := hid (And.intro h31 h32); clear h31 h32))
        go_ret
        exact ⟨rfl, HFr.out.trans (H3.out.2.trans (H4.out.trans H9))⟩
end Go.Proofs.YtanefeeneladnaaDoor
