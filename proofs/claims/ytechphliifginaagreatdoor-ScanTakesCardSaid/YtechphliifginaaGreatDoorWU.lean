/- ScanTakes, as it is called: the walk. -/
import Derived.Test.YtechphliifginaaGreatDoorWT
set_option linter.unusedVariables false
set_option linter.unusedSimpArgs false
namespace Go.Proofs.YtechphliifginaaGreatDoor
open Go.RowKit

/-- What Most tells, of any two numbers. -/
theorem mostCases (n sl : Int) : ∃ a1 e1 : Int, Hid ((∀ w, Calls Tryz.prog 31 #[.int .i64 n, .int .i64 sl] w fun e w' => e = .returned (.tuple #[.int .i64 a1, .int .i64 e1]) ∧ w = w') ∧
    ((n < 0 ∨ mayB sl = false) ∧ a1 = 0 ∧ e1 = 10 ∨ ∃ Y : Int, 0 ≤ n ∧ mayB sl = true ∧ sl = 8 * Y ∧ 4 ≤ Y ∧ Y ≤ 512 ∧ e1 = 0 ∧ a1 = if n = 0 then 0 else if Y = 4 then 4 else min n Y)) := by
  by_cases hbad : n < 0 ∨ mayB sl = false
  · exact ⟨0, 10, hid ⟨fun w => scanMost_bad n sl hbad w, .inl ⟨hbad, rfl, rfl⟩⟩⟩
  · have hn : ¬ n < 0 := fun h => hbad (.inl h)
    have hmy : mayB sl = true := by cases h : mayB sl with
      | true => rfl
      | false => exact absurd (.inr h) hbad
    obtain ⟨k, h2, h9, rfl⟩ := mayB_is hmy
    have hz2 : (2 ^ k : Nat) = 4 ↔ k = 2 := by
      have : k = 2 ∨ k = 3 ∨ k = 4 ∨ k = 5 ∨ k = 6 ∨ k = 7 ∨ k = 8 ∨ k = 9 := by omega
      rcases this with rfl | rfl | rfl | rfl | rfl | rfl | rfl | rfl <;> simp
    have hz := p2_le h9
    have hz4 : 4 ≤ 2 ^ k := Nat.pow_le_pow_right (n := 2) (by omega) h2
    refine ⟨mostN n k, 0, hid ⟨fun w => scanMost_ok n k (by omega) h2 h9 w, .inr ⟨((2 ^ k : Nat) : Int), by omega, hmy, by omega, by omega, by omega, rfl, ?_⟩⟩⟩
    unfold mostN
    have e : k = 2 ↔ ((2 ^ k : Nat) : Int) = 4 := by omega
    simp only [e]
set_option maxRecDepth 100000 in
set_option maxHeartbeats 8000000 in
theorem scanTakes_any (u v : Value) (l : List Int) (acts : List AcS) (lo n sl : Int) (w : World) (hu : Rd w u (ints' l)) (hv : RdAm w v acts) (hg : GW w) : Calls Tryz.prog 5 #[.agg #[u, v], .int .i64 lo, .agg #[.int .i64 n, .int .i64 sl]] w fun e w' => e = .returned (.bool true) ∧ Fr Nil1 w w' := by
  have HAw := hid (fun w' (hf : Fr Nil1 w w') => awake14_any w' (hg.fr hf))
  have HMany := hid (fun (hN : 100 < acts.length) w' (hf : Fr Nil1 w w') => set14_many u acts (hu.new hf) (hv.new hf) hN)
  have HAny := hid (fun (hN : acts.length ≤ 100) w' (hf : Fr Nil1 w w') => set14_any u acts (hu.new hf) (hv.new hf) hN (hg.fr hf))
  have HGw := hid hg
  obtain ⟨A, c, rfl, _, _⟩ := hu
  obtain ⟨B, d, rfl, _, _⟩ := hv
  rw [ints'_length] at HMany HAny ⊢
  have hb := (Has.new w [.slice A l.length c, .slice B acts.length d] 52).alloc (.cells #[.int .i64 n, .int .i64 sl] 54)
  have hb2 := Has.new (w.alloc (.cells #[.slice A l.length c, .slice B acts.length d] 52)) [.int .i64 n, .int .i64 sl] 54
  simp only [World.size_alloc] at hb2
  have HBx := hid hb
  have c0 := hb.cell 0
  have c1 := hb.cell 1
  have c2 := hb2.cell 0
  have c3 := hb2.cell 1
  have HF := hid (show Fr Nil1 w ((w.alloc (.cells #[.slice A l.length c, .slice B acts.length d] 52)).alloc (.cells #[.int .i64 n, .int .i64 sl] 54)) from ((Fr.refl _ _).alloc _).alloc _)
  have HMay := hid (ref8May_any sl)
  clear hb hb2 hg
  go_enter Tryz.func5, Tryz.ntmps5
  go_upto_region 3 with fail
  obtain ⟨W0, hW0⟩ : ∃ W0, ((w.alloc (.cells #[.slice A l.length c, .slice B acts.length d] 52)).alloc (.cells #[.int .i64 n, .int .i64 sl] 54)) = W0 := ⟨_, rfl⟩
  rw [hW0] at HBx c0 c1 c2 c3 HF ⊢
  clear hW0
  obtain ⟨a1, e1, HMo⟩ := mostCases n sl
  have HCalls := hid HMo.out.1
  obtain ⟨bb, hbb⟩ : ∃ bb, (decide (n < 0) || !mayB sl) = bb := ⟨_, rfl⟩
  have HBB := hid hbb
  clear hbb
  go_upto_region 4 with (first | (go_at_call 31; (with_reducible refine (HCalls.out _).mono ?_); rintro e w2 ⟨rfl, rfl⟩))
  go_cut [42] from 36 to 42 (fun s42 wx => s42 = .bool bb ∧ W0 = wx)
  case first =>
    by_cases hn : n < 0
    · go_wp2_with fail
      go_meet
      exact ⟨by rw [← HBB.out, decide_eq_true hn]; simp, rfl⟩
    · go_wp2_with (first
        | (go_at_call 32; (with_reducible refine (HMay.out _).mono ?_); rintro e w2 ⟨rfl, rfl⟩))
      go_meet
      exact ⟨by rw [← HBB.out, decide_eq_false (show ¬ n < 0 by omega)]; simp, rfl⟩
  case rest =>
  obtain ⟨rfl, rfl⟩ := hcut
  go_upto_if 42 with fail
  go_cut [11] from 43 to 70 (fun _ wx => W0 = wx)
  case first =>
    rcases HMo.out.2 with ⟨hbad, rfl, rfl⟩ | ⟨Y, hn, hmy, hCY, hy1, hy2, rfl, ha⟩
    · have hb : (decide (n < 0) || !mayB sl) = true := by
        rcases hbad with h | h
        · rw [decide_eq_true h]; rfl
        · rw [h]; simp
      obtain rfl : true = bb := hb.symm.trans HBB.out
      clear hb
      go_wp2_with fail
      go_meet
      exact rfl
    · have hb : (decide (n < 0) || !mayB sl) = false := by rw [decide_eq_false (by omega), hmy]; rfl
      obtain rfl : false = bb := hb.symm.trans HBB.out
      have hZ8 : Int.tdiv sl 8 = Y := by rw [Int.tdiv_eq_ediv_of_nonneg (by omega)]; omega
      have hZ8' : sl / 8 = Y := by omega
      have hC0 : 0 ≤ sl := by omega
      clear hb hmy
      by_cases n0 : n = 0
      · subst n0
        rw [if_pos rfl] at ha
        subst ha
        have q1 : ¬ Y < 0 := by omega
        clear hCY
        go_wp2_with fail
        go_meet
        exact rfl
      · rw [if_neg n0] at ha
        have n1 : 0 < n := by omega
        by_cases y4 : Y = 4
        · rw [if_pos y4] at ha
          have hc32 : sl = 32 := by omega
          subst y4
          subst hc32
          subst ha
          clear hCY
          by_cases hgt : 4 < n
          · go_wp2_with fail
            go_meet
            exact rfl
          · go_wp2_with fail
            go_meet
            exact rfl
        · rw [if_neg y4] at ha
          have hc32 : ¬ sl = 32 := by omega
          have hc32' : (sl == 32) = false := by rw [beq_eq_false_iff_ne]; exact hc32
          clear hCY
          by_cases hgt : Y < n
          · rw [show min n Y = Y by omega] at ha
            subst ha
            go_wp2_with fail
            go_meet
            exact rfl
          · rw [show min n Y = n by omega] at ha
            subst ha
            go_wp2_with fail
            go_meet
            exact rfl
  case rest =>
    obtain rfl := hcut
    by_cases hN : 100 < acts.length
    · have hI : (100 : Int) < (acts.length : Int) := by omega
      have HM := hid (HMany.out hN _ HF.out)
      clear hN HMany HAny
      go_wp2_with (first
        | (go_at_call 34; (with_reducible refine (HAw.out w1 (HF.out.trans HF1.out)).mono ?_); rintro e w2 ⟨rfl, h2⟩; have HF2 := hid h2; clear h2)
        | (go_at_call 33; (with_reducible refine HM.out.mono ?_); rintro e w1 ⟨rfl, h1⟩; have HF1 := hid h1; have k0 := (HBx.out.fr' h1 id).cell 0; have k1 := (HBx.out.fr' h1 id).cell 1; clear h1))
      go_ret
      exact ⟨rfl, (HF.out.trans HF1.out).trans HF2.out⟩
    · have HM := hid (HAny.out (by omega) _ HF.out)
      clear hN HMany HAny c2 c3
      go_upto_region 15 with (go_at_call 33; (with_reducible refine HM.out.mono ?_); rintro e w2 ⟨s, vk, rfl, ks, H2⟩)
      have HF2 := hid (HF.out.trans H2.out.set.ss.fr)
      have HG2 := hid (HGw.out.fr HF2.out)
      clear c0 c1
      by_cases hn : n < 0
      · have HT := hid (scanTake_neg s lo n hn HG2.out.size)
        go_wp2_with (first
          | (go_at_call 34; (with_reducible refine (HAw.out w3 (HF2.out.trans HF3.out)).mono ?_); rintro e w4 ⟨rfl, h4⟩; have HF4 := hid h4; clear h4)
          | (go_at_call 35; (with_reducible refine HT.out.mono ?_); rintro e w3 ⟨rfl, h3⟩; have HF3 := hid h3; clear h3))
        go_ret
        exact ⟨rfl, (HF2.out.trans HF3.out).trans HF4.out⟩
      · obtain ⟨p, F, σ, h, evs, a, hks, _⟩ := H2.out.set.ex
        have HT := hid (scanTake_at a lo n (by omega))
        have HLn := hid H2.out.len
        have HRow2 := hid H2.out.row
        have HA := hid (And.intro a hks)
        clear H2 a hks
        go_upto_region 18 with (go_at_call 35; (with_reducible refine HT.out.mono ?_); rintro e w3 ⟨v3, ys, rfl, H3⟩)
        have HF3 := hid (HF2.out.trans H3.out.2.2)
        have HG3 := hid (HG2.out.fr H3.out.2.2)
        have hU := HA.out.1.up
        have hks := HA.out.2
        have hRef := refTake14_any ks (by have := HLn.out; omega) lo n (by omega) ((HRow2.out.new H3.out.2.2).rd (by have := HLn.out; omega)) HG3.out
        rw [filter_from (hks ▸ hU), ← hks, ← H3.out.2.1.1] at hRef
        have HRef := hid hRef
        have hFew := H3.out.2.1.few hU HA.out.1.row.d
        have hlen : ys.length ≤ 300 := by
          have h1 := HLn.out
          have h3 := congrArg List.length H3.out.2.1.1
          rw [List.length_map, List.length_take, List.length_drop, hks] at h3
          omega
        have hmap : (ys.map (·.2)).length = ys.length := List.length_map ..
        have HSet := hid (HA.out.1.new H3.out.2.2)
        -- what is touched
        have hseg : ∀ hp : 0 < ys.length, ∃ pF pL : Nat, pF < σ.length ∧ pL < σ.length ∧ σ.getD pF none = some ((ys.map (·.2)).getD 0 0) ∧ σ.getD pL none = some ((ys.map (·.2)).getD (ys.length - 1) 0) ∧ segL ys - segF ys + 1 = (pL : Int) / 8 - (pF : Int) / 8 + 1 := by
          intro hp
          obtain ⟨q0, hq0⟩ : ∃ q, ys[0]? = some q := ⟨_, List.getElem?_eq_getElem hp⟩
          obtain ⟨q1, hq1⟩ : ∃ q, ys[ys.length - 1]? = some q := ⟨_, List.getElem?_eq_getElem (by omega)⟩
          have e0 : (ys.map (·.2)).getD 0 0 = q0.2 := by rw [List.getD_eq_getElem?_getD, List.getElem?_map, hq0]; rfl
          have e1 : (ys.map (·.2)).getD (ys.length - 1) 0 = q1.2 := by rw [List.getD_eq_getElem?_getD, List.getElem?_map, hq1]; rfl
          obtain ⟨r0, _⟩ := H3.out.2.1.rank hU hq0
          obtain ⟨r1, _⟩ := H3.out.2.1.rank hU hq1
          exact ⟨q0.1, q1.1, getD_lt r0, getD_lt r1, by rw [e0]; exact r0, by rw [e1]; exact r1, by rw [segF_get hq0, segL_get hq1]⟩
        have HSg := hid hseg
        have hnone := hFew.none
        have HX3 := hid (fun wz (hf : Fr Nil1 w3 wz) => (show RowI wz w2.heap.size v3 (ys.map (·.2)) from H3.out.1.new hf).rd (by omega))
        obtain ⟨A3, c3, rfl⟩ := H3.out.1.slice
        obtain ⟨xs, hxs⟩ : ∃ xs, ys.map (·.2) = xs := ⟨_, rfl⟩
        obtain ⟨k, hk⟩ : ∃ k, segL ys - segF ys + 1 = k := ⟨_, rfl⟩
        obtain ⟨m, hm⟩ : ∃ m, ys.length = m := ⟨_, rfl⟩
        rw [hmap] at HX3 ⊢
        rw [hxs] at HX3 HRef HSg hmap
        rw [hm] at HX3 HSg hlen hnone hmap ⊢
        rw [hk] at HSg hnone ⊢
        have HNo := hid hnone
        have HUp := hid hU
        clear hRef hFew hseg hnone hU hks H3 hm hk hxs
        go_upto_region 24 with (first
          | (go_at_call 19; (with_reducible refine (H5.out.1.slots hearN).mono ?_); rintro e w6 ⟨f', rfl, H6⟩)
          | (go_at_call 37; (with_reducible refine (setRow_any (HSet.out.new H4.out.fr)).mono ?_); rintro e w5 ⟨F', rfl, H5⟩)
          | (go_at_call 36; (with_reducible refine HRef.out.mono ?_); rintro e w4 ⟨v4, rfl, H4⟩))
        have HF6 := hid (H4.out.fr.trans (H5.out.2.trans H6.out.2.2))
        obtain ⟨A4, c4, rfl⟩ := H4.out.row.slice
        have HX4 := hid (fun wz (hf : Fr Nil1 w6 wz) => (H4.out.row.new ((H5.out.2.trans H6.out.2.2).trans hf)).rd (by omega))
        have HX3' := hid (fun wz (hf : Fr Nil1 w6 wz) => HX3.out wz (HF6.out.trans hf))
        rw [hmap] at HX4 ⊢
        have HRw := hid (fun (hp : 0 < m) => show ∃ ad, A4 = some ad ∧ ∀ j, j < m → w6.cell? (ad.add j) = some (.int .i64 (xs.getD j 0)) from by
          have := rowi_get (H4.out.row.new (H5.out.2.trans H6.out.2.2)) rfl (by omega) (by omega)
          rwa [hmap] at this)
        by_cases m0 : m = 0
        · obtain rfl := HNo.out m0
          subst m0
          go_wp2_with (first
            | (go_at_call 34; (with_reducible refine (HAw.out w8 (HF3.out.trans HF8.out)).mono ?_); rintro e w9 ⟨rfl, h9⟩; have HF9 := hid h9; clear h9)
            | (go_at_call 40; refine (ints14_eq xs xs _ _ w6 (HX3.out w6 HF6.out) (HX4.out w6 (Fr.refl _ _)) rfl).mono ?_; rintro e w8 ⟨rfl, h8⟩; have HF8 := hid (HF6.out.trans h8); clear h8))
          go_ret
          exact ⟨rfl, (HF3.out.trans HF8.out).trans HF9.out⟩
        · have hmi : (0 : Int) < m := by omega
          have hmi' : decide (0 < m) = true := decide_eq_true (by omega)
          obtain ⟨pF, pL, l1, l2, g1, g2, hkk⟩ := HSg.out (by omega)
          obtain ⟨ad, rfl, hc⟩ := HRw.out (by omega)
          have d0 := hc 0 (by omega)
          rw [show ad.add 0 = ad by unfold Addr.add; simp] at d0
          obtain ⟨m1, hm1⟩ : ∃ m1, m - 1 = m1 := ⟨_, rfl⟩
          have d1 := hc m1 (by omega)
          rw [hm1] at g2
          have e1 : IntKind.i64.wrap ((m : Int) - 1) = (m1 : Int) := by rw [show (m : Int) - 1 = (m1 : Int) by omega]; exact IntWalk.i64_in _ (by omega)
          have hm1a : (0 : Int) ≤ m1 := by omega
          have hm1b : (m1 : Int) < m := by omega
          have HG := hid (And.intro g1 (And.intro g2 hkk))
          have HCap := hid (gapsCap_any H6.out.1)
          have HAt := hid (fun j => gapsAt_any H6.out.1 j)
          have HSl := hid (show σ.length ≤ 4096 from by have := HA.out.1.row.d.len; have := p2_le HA.out.1.row.d.h9; omega)
          have HLt := hid (And.intro l1 l2)
          obtain ⟨y0, hy0⟩ : ∃ y, xs.getD 0 0 = y := ⟨_, rfl⟩
          obtain ⟨y1, hy1⟩ : ∃ y, xs.getD m1 0 = y := ⟨_, rfl⟩
          rw [hy0] at d0 HG
          rw [hy1] at d1 HG
          clear g1 g2 hkk hc hy0 hy1 hm1 l1 l2
          go_wp2_with fail
          go_loopw [21, 22, 23, 24, 25] (fun a b i _ _ wx => ∃ j : Nat, j ≤ σ.length ∧ a = .int .i64 (segI pF j) ∧ b = .int .i64 (segI pL j) ∧ i = .int .i64 j ∧ w6 = wx) (fun _ _ i _ _ _ => (σ.length - intOf i).toNat)
          case atStart => exact ⟨0, by omega, by rw [segI_zero], by rw [segI_zero], rfl, rfl⟩
          case round =>
            obtain ⟨j, hj, rfl, rfl, rfl, rfl⟩ := hrel
            have HJ := hid hj
            by_cases hlt : j < σ.length
            · have hltI : (j : Int) < (σ.length : Nat) := by omega
              have hj0 : (0 : Int) ≤ j := by omega
              have hjb : (j : Int) < 4096 := by have := HSl.out; omega
              have hat := HAt.out (j : Int)
              have HLj := hid hlt
              obtain ⟨fF, hfF⟩ : ∃ f : Int, segI pF j = f := ⟨_, rfl⟩
              obtain ⟨fL, hfL⟩ : ∃ f : Int, segI pL j = f := ⟨_, rfl⟩
              have HfF := hid hfF
              have HfL := hid hfL
              rw [hfF, hfL]
              clear hfF hfL hj hlt
              cases hx : σ.getD j none with
              | none =>
                have hon : atB σ (j : Int) = false := by rw [atB_nat]; unfold onOf; rw [hx]; rfl
                rw [hon] at hat
                have n1 : j ≠ pF := fun e => by subst e; rw [HG.out.1] at hx; cases hx
                have n2 : j ≠ pL := fun e => by subst e; rw [HG.out.2.1] at hx; cases hx
                have HA' := hid hat
                have HN := hid (And.intro n1 n2)
                clear hat hon hx n1 n2
                generalize atV σ (j : Int) = z at *
                go_wp2_with (first
                  | (go_at_call 38; (with_reducible refine HCap.out.mono ?_); rintro e w7 ⟨rfl, rfl⟩)
                  | (go_at_call 39; (with_reducible refine HA'.out.mono ?_); rintro e w7 ⟨rfl, rfl⟩))
                exact ⟨⟨j + 1, by have := HLj.out; omega, by rw [segI_miss HN.out.1, HfF.out], by rw [segI_miss HN.out.2, HfL.out], by go_num, trivial⟩, by have := HLj.out; simp [intOf]; omega⟩
              | some x =>
                rw [(at_some hx).1, (at_some hx).2] at hat
                have HA' := hid hat
                have HX := hid hx
                clear hat hx
                by_cases h1 : j = pF
                · have q1 : x = y0 := by have := HX.out; rw [h1, HG.out.1] at this; exact (Option.some.inj this).symm
                  have q1' : (x == y0) = true := by rw [q1, beq_self_eq_true]
                  have HH1 := hid h1
                  by_cases h2 : j = pL
                  · have q2 : x = y1 := by have := HX.out; rw [h2, HG.out.2.1] at this; exact (Option.some.inj this).symm
                    have q2' : (x == y1) = true := by rw [q2, beq_self_eq_true]
                    have HH2 := hid h2
                    clear h1 h2 q1 q2
                    go_wp2_with (first
                  | (go_at_call 38; (with_reducible refine HCap.out.mono ?_); rintro e w7 ⟨rfl, rfl⟩)
                  | (go_at_call 39; (with_reducible refine HA'.out.mono ?_); rintro e w7 ⟨rfl, rfl⟩))
                    exact ⟨⟨j + 1, by have := HLj.out; omega, by rw [← HH1.out, segI_hit], by rw [← HH2.out, segI_hit], by go_num, trivial⟩, by have := HLj.out; simp [intOf]; omega⟩
                  · have q2 : x ≠ y1 := fun e => h2 (on_inj HUp.out (by rw [HX.out, e]) HG.out.2.1)
                    have q2' : (x == y1) = false := by rw [beq_eq_false_iff_ne]; exact q2
                    have HH2 := hid h2
                    clear h1 h2 q1 q2
                    go_wp2_with (first
                  | (go_at_call 38; (with_reducible refine HCap.out.mono ?_); rintro e w7 ⟨rfl, rfl⟩)
                  | (go_at_call 39; (with_reducible refine HA'.out.mono ?_); rintro e w7 ⟨rfl, rfl⟩))
                    exact ⟨⟨j + 1, by have := HLj.out; omega, by rw [← HH1.out, segI_hit], by rw [segI_miss HH2.out, HfL.out], by go_num, trivial⟩, by have := HLj.out; simp [intOf]; omega⟩
                · have q1 : x ≠ y0 := fun e => h1 (on_inj HUp.out (by rw [HX.out, e]) HG.out.1)
                  have q1' : (x == y0) = false := by rw [beq_eq_false_iff_ne]; exact q1
                  have HH1 := hid h1
                  by_cases h2 : j = pL
                  · have q2 : x = y1 := by have := HX.out; rw [h2, HG.out.2.1] at this; exact (Option.some.inj this).symm
                    have q2' : (x == y1) = true := by rw [q2, beq_self_eq_true]
                    have HH2 := hid h2
                    clear h1 h2 q1 q2
                    go_wp2_with (first
                  | (go_at_call 38; (with_reducible refine HCap.out.mono ?_); rintro e w7 ⟨rfl, rfl⟩)
                  | (go_at_call 39; (with_reducible refine HA'.out.mono ?_); rintro e w7 ⟨rfl, rfl⟩))
                    exact ⟨⟨j + 1, by have := HLj.out; omega, by rw [segI_miss HH1.out, HfF.out], by rw [← HH2.out, segI_hit], by go_num, trivial⟩, by have := HLj.out; simp [intOf]; omega⟩
                  · have q2 : x ≠ y1 := fun e => h2 (on_inj HUp.out (by rw [HX.out, e]) HG.out.2.1)
                    have q2' : (x == y1) = false := by rw [beq_eq_false_iff_ne]; exact q2
                    have HH2 := hid h2
                    clear h1 h2 q1 q2
                    go_wp2_with (first
                  | (go_at_call 38; (with_reducible refine HCap.out.mono ?_); rintro e w7 ⟨rfl, rfl⟩)
                  | (go_at_call 39; (with_reducible refine HA'.out.mono ?_); rintro e w7 ⟨rfl, rfl⟩))
                    exact ⟨⟨j + 1, by have := HLj.out; omega, by rw [segI_miss HH1.out, HfF.out], by rw [segI_miss HH2.out, HfL.out], by go_num, trivial⟩, by have := HLj.out; simp [intOf]; omega⟩
            · have hj' : j = σ.length := by omega
              rw [hj', segI_end HLt.out.1, segI_end HLt.out.2]
              have hkk := HG.out.2.2
              have hb1 : (0 : Int) ≤ (pF : Int) / 8 ∧ (pF : Int) / 8 ≤ 511 := by have := HLt.out.1; have := HSl.out; omega
              have hb2 : (0 : Int) ≤ (pL : Int) / 8 ∧ (pL : Int) / 8 ≤ 511 := by have := HLt.out.2; have := HSl.out; omega
              have hlI : ¬ ((σ.length : Nat) : Int) < ((σ.length : Nat) : Int) := by omega
              clear hj' hlt hj HJ
              obtain ⟨a, ha⟩ : ∃ a : Int, (pF : Int) / 8 = a := ⟨_, rfl⟩
              obtain ⟨b, hb⟩ : ∃ b : Int, (pL : Int) / 8 = b := ⟨_, rfl⟩
              rw [ha] at hkk hb1 ⊢
              rw [hb] at hkk hb2 ⊢
              clear ha hb HG
              subst hkk
              go_upto_region 35 with (go_at_call 38; (with_reducible refine HCap.out.mono ?_); rintro e w7 ⟨rfl, rfl⟩)
              go_wp2_with (first
                | (go_at_call 34; (with_reducible refine (HAw.out w8 (HF3.out.trans HF8.out)).mono ?_); rintro e w9 ⟨rfl, h9⟩; have HF9 := hid h9; clear h9)
                | (go_at_call 40; refine (ints14_eq xs xs _ _ w6 (HX3.out w6 HF6.out) (HX4.out w6 (Fr.refl _ _)) rfl).mono ?_; rintro e w8 ⟨rfl, h8⟩; have HF8 := hid (HF6.out.trans h8); clear h8))
              go_ret
              exact ⟨rfl, (HF3.out.trans HF8.out).trans HF9.out⟩
end Go.Proofs.YtechphliifginaaGreatDoor
