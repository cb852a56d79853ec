/- OrderOwn, as it is called: the walk. -/
import Derived.Test.YtogjfaiidciedaaGreatDoorVT
import Derived.Test.YtogjfaiidciedaaGreatDoorC1
import Derived.Deep.RegionHeld3
import Derived.Deep.Cut
import Derived.Deep.CutRange
set_option linter.unusedVariables false
set_option linter.unusedSimpArgs false
namespace Go.Proofs.YtogjfaiidciedaaGreatDoor
open Go.RowKit Go.Maps

abbrev stepZ : Obj := .cells #[.int .i64 0, .int .i64 0, .int .i64 0, .int .i64 0] 36
theorem stepZ_new (w : World) : Has (w.alloc stepZ) w.heap.size [.int .i64 0, .int .i64 0, .int .i64 0, .int .i64 0] 36 := Has.new w _ _
set_option maxRecDepth 100000 in
set_option maxHeartbeats 16000000 in
theorem orderOwn_any (v u : Value) (l m : List AcO) (w : World) (hv : RdAo w v l) (hu : RdAo w u m) (hg : GW w) :
    Calls Tryz.prog 8 #[v, u] w fun e w' => e = .returned (.bool true) ∧ Fr Nil1 w w' := by
  have HAw := hid (fun w' (hf : Fr Nil1 w w') => awake_any w' (hg.fr hf))
  have HPl := hid (fun w' (hf : Fr Nil1 w w') (h : l.length ≤ 200) => played_any _ l w' (hv.new hf) h (hg.fr hf))
  have HG := hid hg.size
  obtain ⟨A, c, rfl, _, _⟩ := hv
  obtain ⟨A', c', rfl, hb, hA⟩ := hu
  have HA := hid (And.intro hb hA)
  clear hb hA hg
  go_enter Tryz.func8, Tryz.ntmps8
  go_upto_region 10 with (first
    | (go_at_call 33; refine (nilClone _).mono ?_; rintro e wb ⟨rfl, rfl⟩)
    | (go_at_call 23; refine (nilTable _).mono ?_; rintro e wb ⟨rfl, rfl⟩)
    | (go_at_call 24; refine (nilRow _).mono ?_; rintro e wb ⟨rfl, rfl⟩)
    | (go_at_call 11; refine (nilHandles _).mono ?_; rintro e wb ⟨rfl, rfl⟩)
    | (go_at_call 32; refine (nilCap _).mono ?_; rintro e wb ⟨rfl, rfl⟩)
    | (go_at_call 21; refine (nilLen _).mono ?_; rintro e wb ⟨rfl, rfl⟩)
    | (go_at_call 12; refine (nilBefore _).mono ?_; rintro e wb ⟨rfl, rfl⟩)
    | (go_at_call 13; refine (nilLabel _).mono ?_; rintro e wb ⟨rfl, rfl⟩)
    | (go_at_call 14; refine (nilDelete _).mono ?_; rintro e w4 ⟨rfl, hf4⟩; have GF4 := hid ((GF3.out.trans hf4).alloc stepZ); have ha := (HB3a.out.fr' hf4 id).alloc stepZ; have hb := (HB3b.out.fr' hf4 id).alloc stepZ; have hc := (HB3c.out.fr' hf4 id).alloc stepZ; have x0 := ha.cell 0; have x1 := ha.cell 1; have x2 := ha.cell 2; have x3 := ha.cell 3; have y0 := hb.cell 0; have y1 := hb.cell 1; have y2 := hb.cell 2; have y3 := hb.cell 3; have z0 := hc.cell 0; have z1 := hc.cell 1; have z2 := hc.cell 2; have z3 := hc.cell 3; clear hf4 ha hb hc)
    | (go_at_call 16; refine (nilAhead _ (Nat.le_trans HG.out GF2.out.size)).mono ?_; rintro e w3 ⟨rfl, hf3⟩; have GF3 := hid ((GF2.out.trans hf3).alloc stepZ); have HB3a := hid ((HB2a.out.fr' hf3 id).alloc stepZ); have HB3b := hid ((HB2b.out.fr' hf3 id).alloc stepZ); have HB3c := hid (stepZ_new w3); clear hf3)
    | (go_at_call 15; refine (nilAfter _ (Nat.le_trans HG.out GF1.out.size)).mono ?_; rintro e w2 ⟨rfl, hf2⟩; have GF2 := hid ((GF1.out.trans hf2).alloc stepZ); have HB2a := hid (((stepZ_new w1).fr' hf2 id).alloc stepZ); have HB2b := hid (stepZ_new w2); clear hf2)
    | (go_at_call 22; refine (nilFirst _).mono ?_; rintro e w1 ⟨rfl, hf1⟩; have GF1 := hid (hf1.alloc stepZ); clear hf1))
  obtain ⟨W4, hW4⟩ : ∃ W, w4.alloc (.cells #[.int .i64 0, .int .i64 0, .int .i64 0, .int .i64 0] 36) = W := ⟨_, rfl⟩
  have GF : Hid (Fr Nil1 w W4) := hW4 ▸ GF4
  rw [hW4]
  clear hW4 GF1 GF2 GF3 GF4 HB2a HB2b HB3a HB3b HB3c x0 x1 x2 x3 y0 y1 y2 y3 z0 z1 z2 z3
  by_cases h1 : 100 < l.length
  · have HA0 := hid (HAw.out W4 GF.out)
    have hI : decide ((100 : Int) < (l.length : Int)) = true := decide_eq_true (by omega)
    clear HAw HPl
    go_wp2_with (go_at_call 9; refine HA0.out.mono ?_; rintro e w5 ⟨rfl, H1⟩)
    go_ret
    exact ⟨rfl, GF.out.trans H1⟩
  have hI : decide ((100 : Int) < (l.length : Int)) = false := decide_eq_false (by omega)
  by_cases h2 : 100 < m.length
  · have HA0 := hid (HAw.out W4 GF.out)
    have hJ : decide ((100 : Int) < (m.length : Int)) = true := decide_eq_true (by omega)
    clear HAw HPl
    go_wp2_with (go_at_call 9; refine HA0.out.mono ?_; rintro e w5 ⟨rfl, H1⟩)
    go_ret
    exact ⟨rfl, GF.out.trans H1⟩
  have hJ : decide ((100 : Int) < (m.length : Int)) = false := decide_eq_false (by omega)
  have HP1 := hid (HPl.out W4 GF.out (by omega))
  clear HPl
  go_upto_region 15 with (go_at_call 10; refine HP1.out.mono ?_; rintro e w5 ⟨L, n, xs, rfl, hn, H5⟩)
  obtain ⟨bl, p, tf, F, σ, h, τ, HO, hxs, hτ⟩ := H5.out.o.ex
  have HO5 := hid HO
  have HX := hid hxs
  have HTn := hid hτ
  have HMem := hid (And.intro H5.out.mem H5.out.len)
  have GF5 := hid (GF.out.trans HO.row.fr)
  obtain ⟨q, hq⟩ : ∃ q, xs.length = q := ⟨_, rfl⟩
  have HQn := hid hq
  have hqn : q ≤ n := by have := H5.out.len; omega
  clear HO hxs hτ hq H5 HP1
  go_upto_region 21 with (first
    | (go_at_call 11; refine (ordHandles_any (HO5.out.new (H6.out.2.trans H7.out.2))).mono ?_; rintro e w8 ⟨v8, rfl, H8⟩)
    | (go_at_call 33; with_reducible refine (ordClone_any (HO5.out.new H6.out.2)).mono ?_; rintro e w7 ⟨T, rfl, H7⟩)
    | (go_at_call 33; refine (ordClone_any HO5.out).mono ?_; rintro e w6 ⟨K, rfl, H6⟩))
  obtain ⟨A8, c8, e8, hA8⟩ := H8.out.1.rd (by rw [HX.out, HQn.out]; omega)
  rw [ints'_length, HX.out, HQn.out] at e8
  subst e8
  have HO8 := hid H8.out.2.1
  have HR8 := hid (show RowI w8 w7.heap.size (.slice A8 q c8) xs by have := H8.out.1; rwa [HX.out] at this)
  have HG8 := hid (show NG ≤ w8.heap.size from HO8.out.row.r.sl.g.size)
  clear hA8
  go_wp2_with fail
  go_loopw [4, 26, 27, 28, 29] (fun _ v26 i _ _ wr => ∃ k : Nat, k ≤ q ∧ i = .int .i64 k ∧ Hid (ApI w8 ((xs.take k).map (slotV τ)) v26 wr)) (fun _ _ i _ _ _ => q - (intOf i).toNat)
  case atStart => exact ⟨0, by omega, rfl, hid (by rw [List.take_zero]; exact ApI.start w8)⟩
  case round =>
    obtain ⟨k, hk, rfl, HW⟩ := hrel
    by_cases hlt : k < q
    · have hltI : (k : Int) < q := by omega
      obtain ⟨x, hx⟩ : ∃ x, xs[k]? = some x := ⟨_, List.getElem?_eq_getElem (by rw [HQn.out]; exact hlt)⟩
      have hxb := HMem.out.1 x (List.mem_of_getElem? hx)
      obtain ⟨A', c', e', _, hA'⟩ := (HR8.out.rd (by rw [HQn.out]; omega)).new HW.out.fr
      injection e' with e1 e2 e3
      subst e1
      obtain ⟨ad, had, hcc⟩ := hA' (by rw [ints'_length, HQn.out]; omega)
      subst had
      have hcell := hcc k _ (ints'_get xs k (by rw [HQn.out]; exact hlt))
      rw [List.getD_eq_getElem?_getD, hx, Option.getD_some] at hcell
      have hls := (HO8.out.live x).2 (by rw [HX.out]; exact List.mem_of_getElem? hx)
      have HLab := hid (ordLabel_any (HO8.out.new HW.out.fr) x (by omega) (by omega))
      rw [show staleE τ x = 0 by unfold staleE; rw [if_pos hls]] at HLab
      have HT1 := hid (show (xs.take k).map (slotV τ) ++ [slotV τ x] = (xs.take (k + 1)).map (slotV τ) by rw [List.take_add_one, hx]; simp)
      have HLn := hid (show ((xs.take k).map (slotV τ)).length = k by rw [List.length_map, List.length_take, HQn.out]; omega)
      clear hcc hA' e2 e3 hx hls hxb
      generalize slotV τ x = y at HLab HT1
      go_wp2_with (first
        | (at_builtin; refine append_rd rfl (.tmp 212) (.tmp 214) rfl rfl (HW.out.new ((Fr.refl _ _).alloc _)).row rfl (rd_one wr y) (by rw [HLn.out, List.length_singleton]; omega) (by have := HW.out.fr.size; simp; omega) ?_; intro v9 w9 hr hg hnil; have H9 := hid ((HW.out.new ((Fr.refl _ _).alloc _)).step HG8.out hr hg hnil); clear hr hg hnil)
        | (go_at_call 13; refine HLab.out.mono ?_; rintro e wb ⟨rfl, rfl⟩))
      exact ⟨⟨k + 1, by omega, by go_num, hid (by rw [← HT1.out]; exact H9.out)⟩, by simp [intOf]; omega⟩
    · have hltI : ¬ (k : Int) < q := by omega
      obtain rfl : q = k := by omega
      have HL0 := hid (show ApI w8 (xs.map (slotV τ)) u26 wr by have := HW.out; rwa [List.take_of_length_le (by rw [HQn.out]; exact Nat.le_refl _)] at this)
      have HLn := hid (show (xs.map (slotV τ)).length = q by rw [List.length_map, HQn.out])
      obtain ⟨Al, cl, el, _⟩ := HL0.out.row.rd (by rw [HLn.out]; omega)
      rw [ints'_length, HLn.out] at el
      subst el
      obtain ⟨bk, pk, tk, Fk, ha6⟩ := H6.out.1
      obtain ⟨bt, pt, tt, Ft, hb7⟩ := H7.out.1
      have gk := ha6.ge
      have gt := hb7.ge
      have gl := own_lt HR8.out
      have gm := own_lt HL0.out.row
      have s7 := H7.out.2.size
      have s8 := H8.out.2.2.size
      have s9 := HL0.out.fr.size
      have HT0 := hid (show Tw w5 wr (fun j => (Value.slice A8 q c8).ownBlock = some j ∨ (Value.slice Al q cl).ownBlock = some j) K T xs n wr from
        ⟨⟨bk, pk, tk, Fk, h, τ, bt, pt, tt, Ft, h, τ, σ, ha6.new (H7.out.2.trans (H8.out.2.2.trans HL0.out.fr)), (hb7.base H6.out.2).new (H8.out.2.2.trans HL0.out.fr), HX.out, HTn.out, HTn.out,
          fun j hj => ⟨fun g => by have := gk j hj; have := gt j g; omega, fun g => by have := gk j hj; rcases g with g | g; (have := gl j g; omega); (have := gm j g; omega)⟩,
          fun j hj g => by have := gt j hj; rcases g with g | g; (have := gl j g; omega); (have := gm j g; omega)⟩,
         fun j g => by rcases g with g | g; (have := gl j g; omega); (have := gm j g; omega), Fr.refl _ _⟩)
      have HP0 := hid (show Pl w5 K xs n wr from ⟨HT0.out.osK, HMem.out.2, HMem.out.1⟩)
      obtain ⟨Q, hQ⟩ : ∃ Q : Nat → Prop, (fun j => (Value.slice A8 q c8).ownBlock = some j ∨ (Value.slice Al q cl).ownBlock = some j) = Q := ⟨_, rfl⟩
      have HQ8 := hid (show ∀ g, (Value.slice A8 q c8).ownBlock = some g → Q g by rw [← hQ]; exact fun g h => .inl h)
      have HQl := hid (show ∀ g, (Value.slice Al q cl).ownBlock = some g → Q g by rw [← hQ]; exact fun g h => .inr h)
      have HRl := hid HL0.out.row
      have HRq := hid (show RowI wr w7.heap.size (.slice A8 q c8) xs from HR8.out.new HL0.out.fr)
      rw [hQ] at HT0
      clear hQ ha6 hb7 gk gt gl gm s7 s8 s9 HW H6 H7 H8 HL0 HR8 HO8
      go_wp2_with fail
      obtain ⟨wl, hwl⟩ : ∃ W, W = wr := ⟨_, rfl⟩
      subst hwl
      go_loopw [4, 30, 31, 32, 34, 35, 37] (fun _ i _ _ _ _ _ wx => ∃ (k n' : Nat) (l' : List Int), k ≤ m.length ∧ n' ≤ n + k ∧ i = .int .i64 k ∧ Hid (Tw w5 wl Q K T l' n' wx ∧ Pl w5 K l' n' wx)) (fun _ i _ _ _ _ _ _ => m.length - (intOf i).toNat)
      case atStart => exact ⟨0, n, xs, by omega, by omega, rfl, hid ⟨HT0.out, HP0.out⟩⟩
      case round =>
        obtain ⟨k, n', l', hk, hn', rfl, HW⟩ := hrel
        have HFw := hid (show Fr Nil1 w wr from GF5.out.trans HW.out.1.osK.fr)
        by_cases hlt : k < m.length
        · have hltI : (k : Int) < m.length := by omega
          obtain ⟨b, o, rfl, hc⟩ := HA.out.2 (by omega)
          obtain ⟨a, ha⟩ : ∃ a, m[k]? = some a := ⟨_, List.getElem?_eq_getElem hlt⟩
          obtain ⟨q0, q1, q2⟩ := hc k a ha
          obtain ⟨d, raw, za⟩ := a
          have c0 := HFw.out.cell q0 id
          have c1 := HFw.out.cell q1 id
          have c2 := HFw.out.cell q2 id
          have HQ0 := hid q0
          have HZb := hid (HA.out.1 _ (List.mem_of_getElem? ha))
          have HYb := hid (AcO.of_in ⟨d, raw, za⟩ l' HZb.out.1 HZb.out.2 (fun y hy => by have := HW.out.2.mem y hy; omega))
          have HSm := hid (show l'.length ≤ 65536 by have := HW.out.2.len; omega)
          have HTb := hid (show l'.length ≤ 2560 by have := HW.out.2.len; omega)
          have HNb := hid (show n' < 100000000 by omega)
          have HHo := hid (fun (v : Value) (w' : World) (hx : Rd w' v (ints' l')) => handleOf_any ⟨d, raw, za⟩ l' v w' hx HSm.out HZb.out.1 HZb.out.2)
          obtain ⟨y, hy⟩ : ∃ y, AcO.of ⟨d, raw, za⟩ l' = y := ⟨_, rfl⟩
          rw [hy] at HYb HHo
          clear q0 q1 q2 hc ha hy
          go_wp2_with fail
          go_region_held3 (fun w' => w'.cell? ⟨b, o + k * 3, none⟩ = some (.int .i64 d) ∧ w'.cell? ⟨b, o + k * 3 + 1, none⟩ = some (.bool raw) ∧ w'.cell? ⟨b, o + k * 3 + 2, none⟩ = some (.int .i64 za)) (first | exact ⟨k0, k1, k2⟩ | exact ⟨c0, c1, c2⟩ | go_keep) (first
            | (go_at_call 19; refine (HHo.out _ w6 H6.out.1).mono ?_; rintro e w7 ⟨rfl, hf7⟩; have HF7 := hid (HF6.out.trans hf7); have k0 := HF7.out.cell c0 id; have k1 := HF7.out.cell c1 id; have k2 := HF7.out.cell c2 id; clear hf7)
            | (go_at_call 11; refine (OS.handles (OS.new HW.out.1.osK (Fr.refl Nil1 wr).drew)).mono ?_; rintro e w6 ⟨A2, c2', rfl, H6⟩; have HF6 := hid ((Fr.refl Nil1 wr).drew.trans H6.out.2.2); have k0 := HF6.out.cell c0 id; have k1 := HF6.out.cell c1 id; have k2 := HF6.out.cell c2 id))
          have HT7 := hid (HW.out.1.new HF7.out)
          have HDK := hid (HT7.out.doesK HNb.out HTb.out d y HYb.out.1 HYb.out.2)
          clear c0 c1 c2 k1 k2 H6 HF6 HHo HSm
          go_upto_region 34 with (first
            | (go_at_call 18; with_reducible refine (TwM.doesT (H4.out.1.new ((Fr.refl Nil1 w8).alloc (.cells #[.int .i64 S.k, .int .i64 S.f, .int .i64 S.s, .int .i64 S.c] 36))) HNb.out HTb.out HYb.out.1 HYb.out.2).mono ?_; rintro e w9 ⟨rfl, H5⟩)
            | (go_at_call 18; refine HDK.out.mono ?_; rintro e w8 ⟨x, S, er, l2, n2, rfl, H4⟩; have k0 := (H4.out.1.frw.cell (GF5.out.cell HQ0.out id) id); have j0 := ((H4.out.1.frw.alloc (.cells #[.int .i64 S.k, .int .i64 S.f, .int .i64 S.s, .int .i64 S.c] 36)).cell (GF5.out.cell HQ0.out id) id)))
          have hbd := H4.out.2.1.bound
          have hxI : ¬ (n : Int) + (m.length : Int) < x := by omega
          have hn2 : n2 ≤ n + (k + 1) := by omega
          have HS9 := hid ((H5.out.2 _ _ _ H4.out.2.2 (Has.new w8 [.int .i64 S.k, .int .i64 S.f, .int .i64 S.s, .int .i64 S.c] 36)).alloc (.cells #[.int .i64 S.k, .int .i64 S.f, .int .i64 S.s, .int .i64 S.c] 36))
          have x0 := HS9.out.cell 0
          have x1 := HS9.out.cell 1
          have x2 := HS9.out.cell 2
          have x3 := HS9.out.cell 3
          have HTn9 := hid (H5.out.1.new ((Fr.refl _ w9).alloc (.cells #[.int .i64 S.k, .int .i64 S.f, .int .i64 S.s, .int .i64 S.c] 36)))
          have HPn9 := hid (HW.out.2.act H4.out.2.1 HTn9.out.osK)
          clear hbd k0 j0
          go_wp2_with fail
          exact ⟨⟨k + 1, n2, l2, by omega, hn2, by go_num, hid ⟨HTn9.out, HPn9.out⟩⟩, by simp [intOf]; omega⟩
        · have hltI : ¬ (k : Int) < m.length := by omega
          obtain rfl : m.length = k := by omega
          have HOr := hid (HO5.out.new HW.out.1.osK.fr)
          have HRw := hid (ordRow_any HOr.out)
          have HRlr := hid (HRl.out.keep (by rw [HLn.out]; omega) HW.out.1.fr (fun g hg hs => hs.2 (HQl.out g hg)))
          have HRqr := hid (HRq.out.keep (by rw [HQn.out]; omega) HW.out.1.fr (fun g hg hs => hs.2 (HQ8.out g hg)))
          go_upto_if 280 with (go_at_call 24; refine HRw.out.mono ?_; rintro e w6 ⟨F', rfl, H6⟩)
          by_cases hq0 : 0 < q
          · have hqI : (0 : Int) < (q : Int) := by omega
            obtain ⟨g, cap, eg, _, hgx⟩ := HRl.out.shape (by rw [HLn.out]; exact hq0)
            injection eg with e1 e2 e3
            subst e1 e3
            clear e2 hgx
            have HR6 := hid (HRlr.out.new H6.out.2.1)
            obtain ⟨A', c', e', _, hA'⟩ := HR6.out
            injection e' with e1 e2 e3
            subst e1
            obtain ⟨ad, had, hcc⟩ := hA' (by rw [ints'_length, HLn.out]; omega)
            injection had with had
            subst had
            have hcell := hcc 0 _ (ints'_get _ 0 (by rw [HLn.out]; exact hq0))
            rw [add_flat, Nat.zero_add] at hcell
            obtain ⟨z0, hz0⟩ : ∃ z0, (xs.map (slotV τ)).getD 0 0 = z0 := ⟨_, rfl⟩
            rw [hz0] at hcell
            have HRN := hid (show RowN wr F'.p F' σ h [] w6 from ⟨rfl, H6.out.1, HOr.out.row.d, trivial, H6.out.2.1, H6.out.2.2, fun k hk => hk.elim⟩)
            have HDl := hid (RowG.delAny HRN.out hearN (by rw [HX.out, HQn.out]; omega) z0)
            clear hcc hA' e2 e3 hz0 HR6 HRN
            go_upto_region 41 with (go_at_call 34; refine HDl.out.mono ?_; rintro e w9 ⟨x, S, er, rfl, H9⟩)
            have HF9 : Hid (Fr Nil1 wr w9) := by
              obtain ⟨F2, σ2, h2, ev, hR, _⟩ := H9.out.ex
              exact hid hR.fr
            clear H9 hcell HDl
            have HO9 := hid (HOr.out.new HF9.out)
            have HOS9 := hid (show OS W4 L xs n w9 from ⟨⟨bl, p, tf, F, σ, h, τ, HO9.out, HX.out, HTn.out⟩, HO9.out.row.fr⟩)
            have HRl9 := hid (HRlr.out.new HF9.out)
            have HRq9 := hid (HRqr.out.new HF9.out)
            have HT9 := hid (HW.out.1.new HF9.out)
            have HG9 := hid (HFw.out.trans HF9.out)
            clear HOr HRw HRlr HRqr
            go_wp2_with fail
            go_loopw [4, 39, 40, 41] (fun _ i _ _ wx => ∃ k : Nat, k ≤ q ∧ i = .int .i64 k ∧ w9 = wx) (fun _ i _ _ _ => q - (intOf i).toNat)
            case atStart => exact ⟨0, by omega, rfl, rfl⟩
            case round =>
              obtain ⟨k, hk, rfl, rfl⟩ := hrel
              by_cases hlt : k < q
              · have hltI : (k : Int) < q := by omega
                obtain ⟨x, hx⟩ : ∃ x, xs[k]? = some x := ⟨_, List.getElem?_eq_getElem (by rw [HQn.out]; exact hlt)⟩
                have hxb := HMem.out.1 x (List.mem_of_getElem? hx)
                obtain ⟨A', c', e', _, hA'⟩ := HRq9.out
                injection e' with e1 e2 e3
                subst e1
                obtain ⟨ad, had, hcc⟩ := hA' (by rw [ints'_length, HQn.out]; omega)
                subst had
                have hcell := hcc k _ (ints'_get xs k (by rw [HQn.out]; exact hlt))
                rw [List.getD_eq_getElem?_getD, hx, Option.getD_some] at hcell
                obtain ⟨A2, c2, e', _, hA2⟩ := HRl9.out
                injection e' with e1 e4 e5
                subst e1
                obtain ⟨ad2, had2, hcc2⟩ := hA2 (by rw [ints'_length, HLn.out]; omega)
                injection had2 with had2
                subst had2
                have hcell2 := hcc2 k _ (ints'_get _ k (by rw [HLn.out]; exact hlt))
                rw [List.getD_eq_getElem?_getD, List.getElem?_map, hx, Option.map_some, Option.getD_some, add_flat, Nat.zero_add] at hcell2
                have hls := (HO9.out.live x).2 (by rw [HX.out]; exact List.mem_of_getElem? hx)
                have HLab := hid (ordLabel_any HO9.out x (by omega) (by omega))
                rw [show staleE τ x = 0 by unfold staleE; rw [if_pos hls]] at HLab
                clear hcc hcc2 hA' hA2 e2 e3 e4 e5 hx hls hxb
                generalize slotV τ x = y at HLab hcell2
                go_wp2_with (go_at_call 13; refine HLab.out.mono ?_; rintro e wb ⟨rfl, rfl⟩)
                exact ⟨⟨k + 1, by omega, by go_num, trivial⟩, by simp [intOf]; omega⟩
              · have hltI : ¬ (k : Int) < q := by omega
                go_wp2_with (first
                  | (go_at_call 9; refine (HAw.out _ (HG9.out.trans (H11.out.trans (H12.out.2.2.trans (H13.out.2.2.trans H14.out))))).mono ?_; rintro e w15 ⟨rfl, H15⟩)
                  | (go_at_call 17; with_reducible refine (ints_eq _ _ _ _ _ (H12.out.1.new H13.out.2.2) H13.out.1 rfl).mono ?_; rintro e w14 ⟨rfl, hf14⟩; have H14 := hid hf14; clear hf14)
                  | (go_at_call 11; with_reducible refine (OS.handles (OS.new HT9.out.osT (H11.out.trans H12.out.2.2))).mono ?_; rintro e w13 ⟨A13, c13, rfl, H13⟩)
                  | (go_at_call 11; with_reducible refine (OS.handles (OS.new HT9.out.osK H11.out)).mono ?_; rintro e w12 ⟨A12, c12, rfl, H12⟩)
                  | (go_at_call 17; with_reducible refine (ints_eq _ _ _ _ _ H10.out.1 (HRq9.out.new H10.out.2.2) rfl).mono ?_; rintro e w11 ⟨rfl, hf11⟩; have H11 := hid (H10.out.2.2.trans hf11); clear hf11)
                  | (go_at_call 11; refine (OS.handles HOS9.out).mono ?_; rintro e w10 ⟨A10, c10, rfl, H10⟩))
                go_ret
                exact ⟨rfl, HG9.out.trans (H11.out.trans (H12.out.2.2.trans (H13.out.2.2.trans (H14.out.trans H15))))⟩
          · have hqI : ¬ (0 : Int) < (q : Int) := by omega
            have HF9 := hid H6.out.2.1
            go_upto_region 41 with fail
            have HO9 := hid (HOr.out.new HF9.out)
            have HOS9 := hid (show OS W4 L xs n w6 from ⟨⟨bl, p, tf, F, σ, h, τ, HO9.out, HX.out, HTn.out⟩, HO9.out.row.fr⟩)
            have HRl9 := hid (HRlr.out.new HF9.out)
            have HRq9 := hid (HRqr.out.new HF9.out)
            have HT9 := hid (HW.out.1.new HF9.out)
            have HG9 := hid (HFw.out.trans HF9.out)
            clear HOr HRw HRlr HRqr
            go_wp2_with fail
            go_loopw [4, 39, 40, 41] (fun _ i _ _ wx => ∃ k : Nat, k ≤ q ∧ i = .int .i64 k ∧ w6 = wx) (fun _ i _ _ _ => q - (intOf i).toNat)
            case atStart => exact ⟨0, by omega, rfl, rfl⟩
            case round =>
              obtain ⟨k, hk, rfl, rfl⟩ := hrel
              by_cases hlt : k < q
              · have hltI : (k : Int) < q := by omega
                obtain ⟨x, hx⟩ : ∃ x, xs[k]? = some x := ⟨_, List.getElem?_eq_getElem (by rw [HQn.out]; exact hlt)⟩
                have hxb := HMem.out.1 x (List.mem_of_getElem? hx)
                obtain ⟨A', c', e', _, hA'⟩ := HRq9.out
                injection e' with e1 e2 e3
                subst e1
                obtain ⟨ad, had, hcc⟩ := hA' (by rw [ints'_length, HQn.out]; omega)
                subst had
                have hcell := hcc k _ (ints'_get xs k (by rw [HQn.out]; exact hlt))
                rw [List.getD_eq_getElem?_getD, hx, Option.getD_some] at hcell
                obtain ⟨A2, c2, e', _, hA2⟩ := HRl9.out
                injection e' with e1 e4 e5
                subst e1
                obtain ⟨ad2, had2, hcc2⟩ := hA2 (by rw [ints'_length, HLn.out]; omega)
                subst had2
                have hcell2 := hcc2 k _ (ints'_get _ k (by rw [HLn.out]; exact hlt))
                rw [List.getD_eq_getElem?_getD, List.getElem?_map, hx, Option.map_some, Option.getD_some] at hcell2
                have hls := (HO9.out.live x).2 (by rw [HX.out]; exact List.mem_of_getElem? hx)
                have HLab := hid (ordLabel_any HO9.out x (by omega) (by omega))
                rw [show staleE τ x = 0 by unfold staleE; rw [if_pos hls]] at HLab
                clear hcc hcc2 hA' hA2 e2 e3 e4 e5 hx hls hxb
                generalize slotV τ x = y at HLab hcell2
                go_wp2_with (go_at_call 13; refine HLab.out.mono ?_; rintro e wb ⟨rfl, rfl⟩)
                exact ⟨⟨k + 1, by omega, by go_num, trivial⟩, by simp [intOf]; omega⟩
              · have hltI : ¬ (k : Int) < q := by omega
                go_wp2_with (first
                  | (go_at_call 9; refine (HAw.out _ (HG9.out.trans (H11.out.trans (H12.out.2.2.trans (H13.out.2.2.trans H14.out))))).mono ?_; rintro e w15 ⟨rfl, H15⟩)
                  | (go_at_call 17; with_reducible refine (ints_eq _ _ _ _ _ (H12.out.1.new H13.out.2.2) H13.out.1 rfl).mono ?_; rintro e w14 ⟨rfl, hf14⟩; have H14 := hid hf14; clear hf14)
                  | (go_at_call 11; with_reducible refine (OS.handles (OS.new HT9.out.osT (H11.out.trans H12.out.2.2))).mono ?_; rintro e w13 ⟨A13, c13, rfl, H13⟩)
                  | (go_at_call 11; with_reducible refine (OS.handles (OS.new HT9.out.osK H11.out)).mono ?_; rintro e w12 ⟨A12, c12, rfl, H12⟩)
                  | (go_at_call 17; with_reducible refine (ints_eq _ _ _ _ _ H10.out.1 (HRq9.out.new H10.out.2.2) rfl).mono ?_; rintro e w11 ⟨rfl, hf11⟩; have H11 := hid (H10.out.2.2.trans hf11); clear hf11)
                  | (go_at_call 11; refine (OS.handles HOS9.out).mono ?_; rintro e w10 ⟨A10, c10, rfl, H10⟩))
                go_ret
                exact ⟨rfl, HG9.out.trans (H11.out.trans (H12.out.2.2.trans (H13.out.2.2.trans (H14.out.trans H15))))⟩
end Go.Proofs.YtogjfaiidciedaaGreatDoor
