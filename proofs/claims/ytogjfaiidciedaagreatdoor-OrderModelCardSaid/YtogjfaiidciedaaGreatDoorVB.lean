/- OrderModel, as it is called: the walk. (printed by mkvb.py) -/
import Derived.Test.YtogjfaiidciedaaGreatDoorVA
import Derived.Test.YtogjfaiidciedaaGreatDoorC1
set_option linter.unusedVariables false
set_option linter.unusedSimpArgs false
namespace Go.Proofs.YtogjfaiidciedaaGreatDoor
open Go.RowKit Go.Maps

/-- The place of a number in a list, as one looks for it as far as the j-th. -/
def AtL (xs : List Int) (y : Int) (j : Nat) (a : Int) : Prop := (a = -1 ∧ y ∉ xs.take j) ∨ ∃ i : Nat, a = i ∧ i < j ∧ xs[i]? = some y
theorem AtL.start (xs : List Int) (y : Int) : AtL xs y 0 (-1) := .inl ⟨rfl, by simp⟩
theorem AtL.hit {xs : List Int} {y a : Int} {j : Nat} (h : xs[j]? = some y) : AtL xs y (j + 1) j := .inr ⟨j, rfl, by omega, h⟩
theorem AtL.miss {xs : List Int} {y z a : Int} {j : Nat} (H : AtL xs y j a) (h : xs[j]? = some z) (hz : z ≠ y) : AtL xs y (j + 1) a := by
  rcases H with ⟨e, hm⟩ | ⟨i, e, hi, hx⟩
  · refine .inl ⟨e, fun hh => ?_⟩
    rw [List.take_add_one, h] at hh
    rcases List.mem_append.1 hh with g | g
    · exact hm g
    · simp at g; exact hz g.symm
  · exact .inr ⟨i, e, by omega, hx⟩
theorem AtL.none {xs : List Int} {y a : Int} {j : Nat} (H : AtL xs y j a) (hj : xs.length ≤ j) (hy : y ∉ xs) : a = -1 := by
  rcases H with ⟨e, _⟩ | ⟨i, _, _, hx⟩
  · exact e
  · exact absurd (List.mem_of_getElem? hx) hy
theorem AtL.some {w0 w : World} {L n : Nat} {xs : List Int} {y a : Int} {j r : Nat} (H : AtL xs y j a) (hj : xs.length ≤ j) (O : OS w0 L xs n w) (hr : xs[r]? = some y) : a = r := by
  rcases H with ⟨_, hm⟩ | ⟨i, e, _, hx⟩
  · rw [List.take_of_length_le hj] at hm
    exact absurd (List.mem_of_getElem? hr) hm
  · obtain ⟨bl, p, tf, F, σ, h, τ, q, rfl, rfl⟩ := O.ex
    have h1 := q.lt hx hr
    have h2 := q.lt hr hx
    omega

set_option maxRecDepth 100000 in
set_option maxHeartbeats 16000000 in
theorem orderModel_any (v : Value) (l : List AcO) (w : World) (hv : RdAo w v l) (hg : GW w) : Calls Tryz.prog 5 #[v] w fun e w' => e = .returned (.bool true) ∧ Fr Nil1 w w' := by
  have HAw := hid (fun w' (hf : Fr Nil1 w w') => awake_any w' (hg.fr hf))
  have HNew := hid (OS.start w hg)
  have HG := hid hg.size
  obtain ⟨A, c, rfl, hb, hA⟩ := hv
  have HA := hid (And.intro hb hA)
  clear hb hA hg
  by_cases h200 : 200 < l.length
  · have HA0 := hid (HAw.out w (Fr.refl _ _))
    have hI : (200 : Int) < (l.length : Int) := by omega
    clear HAw HA HNew
    go_enter Tryz.func5, Tryz.ntmps5
    go_wp2_with (go_at_call 9; refine HA0.out.mono ?_; rintro e w1 ⟨rfl, H1⟩)
    go_ret
    exact ⟨rfl, H1⟩
  have hNI : ¬ (200 : Int) < (l.length : Int) := by omega
  go_enter Tryz.func5, Tryz.ntmps5
  go_wp2_with (go_at_call 20; refine HNew.out.mono ?_; rintro e w1 ⟨L, rfl, H1⟩)
  have HM1 : Hid (Mo w L [] 0 (.slice none 0 0) [] w1) := by
    obtain ⟨bl, p, tf, F, σ, h, τ, a, b', c'⟩ := H1.out.ex
    exact hid ⟨⟨bl, p, tf, F, σ, h, τ, a, b', c', fun g hg => by cases hg⟩, H1.out.fr, RowI.nil _ _⟩
  have HP1 := hid (show Pl w L [] 0 w1 from ⟨HM1.out.os, by decide, fun y hy => by cases hy⟩)
  go_loopw [2, 4, 5, 6, 7, 8, 9, 10, 12, 13, 14, 15] (fun _ v4 t i _ _ _ _ _ _ _ _ wr => ∃ (N k : Nat) (xs : List Int), k ≤ l.length ∧ N ≤ k ∧ xs.length ≤ N ∧ t = .int .i64 N ∧ i = .int .i64 k ∧ (xs = [] → v4 = .slice none 0 0) ∧ Hid (Mo w L xs N v4 xs wr ∧ Pl w L xs N wr)) (fun _ _ _ i _ _ _ _ _ _ _ _ _ => (l.length - intOf i).toNat)
  case atStart => exact ⟨0, 0, [], by omega, by omega, by decide, rfl, rfl, fun _ => rfl, hid ⟨HM1.out, HP1.out⟩⟩
  case round =>
    clear H1 HM1 HP1
    obtain ⟨N, k, xs, hk, hNk, hxN, rfl, rfl, hnil, HW⟩ := hrel
    have HNil := hid hnil
    clear hnil
    by_cases hlt : k < l.length
    · have hltI : (k : Int) < l.length := by omega
      obtain ⟨b, o, rfl, hc⟩ := HA.out.2 (by omega)
      obtain ⟨a, ha⟩ : ∃ a, l[k]? = some a := ⟨_, List.getElem?_eq_getElem hlt⟩
      obtain ⟨q0, q1, q2⟩ := hc k a ha
      obtain ⟨d, raw, z⟩ := a
      have HZb := hid (HA.out.1 _ (List.mem_of_getElem? ha))
      have c0 := HW.out.1.fr.cell q0 id
      have c1 := HW.out.1.fr.cell q1 id
      have c2 := HW.out.1.fr.cell q2 id
      have HQ := hid (And.intro q0 (And.intro q1 q2))
      have HHo := hid (handleOf_any ⟨d, raw, z⟩ xs _ _ (HW.out.1.row.rd (by omega)) (by omega) HZb.out.1 HZb.out.2)
      have HYb := hid (AcO.of_in ⟨d, raw, z⟩ xs HZb.out.1 HZb.out.2 (fun y hy => by have := HW.out.2.mem y hy; omega))
      obtain ⟨y, hy⟩ : ∃ y, AcO.of ⟨d, raw, z⟩ xs = y := ⟨_, rfl⟩
      rw [hy] at HHo HYb
      obtain ⟨n, hn⟩ : ∃ n, xs.length = n := ⟨_, rfl⟩
      have HNn := hid hn
      obtain ⟨A4, c4, e4, hA4⟩ := HW.out.1.row.rd (by omega)
      rw [ints'_length, hn] at e4
      subst e4
      rw [hn] at hxN
      have HA4 := hid hA4
      have hN2 : N ≤ 200 := by omega
      clear q0 q1 q2 hc ha hy hA4 hn
      go_wp2_with (go_at_call 19; refine HHo.out.mono ?_; rintro e w2 ⟨rfl, hf2⟩; have HW2 := hid (And.intro (HW.out.1.new hf2) (HW.out.2.new hf2)); have HF2 := hid hf2; clear hf2)
      go_loopw [8, 9] (fun s8 s9 wx => ∃ (a : Int) (j : Nat), s8 = .int .i64 a ∧ s9 = .int .i64 j ∧ j ≤ n ∧ Hid (AtL xs y j a) ∧ w2 = wx) (fun _ s9 _ => n - (intOf s9).toNat)
      case atStart => exact ⟨-1, 0, rfl, rfl, by omega, hid (AtL.start xs y), rfl⟩
      case round =>
        obtain ⟨a, j, rfl, rfl, hj, HAt, rfl⟩ := hrel
        by_cases hjn : j < n
        · have hjI : (j : Int) < n := by omega
          obtain ⟨ad, had, hcc⟩ := HA4.out.2 (by rw [ints'_length, HNn.out]; omega)
          subst had
          have HC := hid (HF2.out.cell (hcc j _ (ints'_get xs j (by rw [HNn.out]; exact hjn))) id)
          obtain ⟨z', hz'⟩ : ∃ z', xs[j]? = some z' := ⟨_, List.getElem?_eq_getElem (by rw [HNn.out]; exact hjn)⟩
          have hcell := HC.out
          rw [List.getD_eq_getElem?_getD, hz', Option.getD_some] at hcell
          have HZ' := hid hz'
          clear hcc hz' HC
          by_cases he : z' = y
          · have hb : (z' == y) = true := by rw [beq_iff_eq]; exact he
            have HE := hid he
            clear he
            go_wp2_with fail
            exact ⟨⟨j, j + 1, by go_num, by go_num, by omega, hid (AtL.hit (a := 0) (by rw [← HE.out]; exact HZ'.out)), trivial⟩, by simp [intOf]; omega⟩
          · have hb : (z' == y) = false := beq_eq_false_iff_ne.2 he
            have HE := hid he
            clear he
            go_wp2_with fail
            exact ⟨⟨a, j + 1, by go_num, by go_num, by omega, hid (HAt.out.miss HZ'.out HE.out), trivial⟩, by simp [intOf]; omega⟩
        have hjI : ¬ (j : Int) < n := by omega
        obtain rfl : n = j := by omega
        clear hj hjn
        have HD := hid (Mo.does HW2.out.1 (by omega) (by rw [HNn.out]; omega) d y HYb.out.1 HYb.out.2)
        have c0' := HW2.out.1.fr.cell HQ.out.1 id
        go_upto_region 19 with (go_at_call 18; refine HD.out.mono ?_; rintro e w3 ⟨x, s1, s2, s3, s4, er, l', n', rfl, H3⟩)
        have HB3 := hid (Has.new w3 [.int .i64 s1, .int .i64 s2, .int .i64 s3, .int .i64 s4] 36)
        obtain ⟨W3, hW3⟩ : ∃ W, w3.alloc (.cells #[.int .i64 s1, .int .i64 s2, .int .i64 s3, .int .i64 s4] 36) = W := ⟨_, rfl⟩
        have HF3 := hid (show Fr Nil1 w3 W3 from hW3 ▸ (Fr.refl _ _).alloc _)
        have HB3' : Hid (Has W3 w3.heap.size [.int .i64 s1, .int .i64 s2, .int .i64 s3, .int .i64 s4] 36) := hW3 ▸ HB3
        rw [hW3]
        have HM3 := hid (H3.out.1.new HF3.out)
        have HP3 := hid HW2.out.2
        have b0 := HB3'.out.cell 0
        have b1 := HB3'.out.cell 1
        have b2 := HB3'.out.cell 2
        have b3 := HB3'.out.cell 3
        have bf := HB3'.out.frozen
        have HC0 := hid (HM3.out.fr.cell HQ.out.1 id)
        have HG3 := hid (show NG ≤ W3.heap.size by have := HG.out; have := HM3.out.fr.size; omega)
        have HRd3 := hid (HM3.out.row.rd (by rw [HNn.out]; omega))
        have HAct := hid H3.out.2.1
        have HZero := hid H3.out.2.2
        have HOS := hid HW2.out.1.os
        have hA := H3.out.2.1
        clear c0 c1 c2 c0' HHo HYb HB3 hW3 HD H3 HW2
        have c0 := HC0.out
        cases hA with
        | full hd hT _ _ _ _ => have := HNn.out; omega
        | stale hd hy hx he hl hn' =>
          replace hn' := hn'.symm
          subst hx he hl hn'
          obtain ⟨rfl, rfl, rfl, rfl⟩ := HZero.out (by decide)
          obtain rfl := HAt.out.none (by rw [HNn.out]; omega) hy
          have d1 : (d != 0) = true := by rw [bne_iff_ne]; exact hd
          clear hd hy
          go_wp2_with (first
            | (go_at_call 21; refine (OS.len HM3e.out.os).mono ?_; rintro e w8 ⟨rfl, rfl⟩; rw [HNn.out])
            | (go_at_call 17; refine (ints_eq _ _ _ _ _ H4.out.1 (HRd3.out.new H4.out.2.2) rfl).mono ?_; rintro e w8 ⟨rfl, hf8⟩; have H8e := hid (H4.out.2.2.trans hf8); clear hf8; have HM3e := hid (HM3.out.new H8e.out))
            | (go_at_call 11; refine (OS.handles HM3.out.os).mono ?_; rintro e w4 ⟨A9, c9, rfl, H4⟩))
          exact ⟨⟨_, k + 1, _, by omega, by omega, by rw [HNn.out]; omega, by go_num, by go_num, HNil.out, hid ⟨HM3e.out, Pl.act HP3.out HAct.out HM3e.out.os⟩⟩, by simp [intOf]; omega⟩
        | del K hd hi hx hk1 he hl hn' =>
          replace hn' := hn'.symm
          subst hx he hl hn'
          have hKn : K < n := by have := HNn.out; have := (List.getElem?_eq_some_iff.1 hi).1; omega
          obtain rfl := HAt.out.some (by rw [HNn.out]; omega) HOS.out hi
          have d1 : (d != 0) = true := by rw [bne_iff_ne]; exact hd.1
          have d2 : (s1 == 0) = false := beq_eq_false_iff_ne.2 hk1
          have hK0 : ¬ (K : Int) < 0 := by omega
          have hK1 : (K : Int) + 1 ≤ n := by omega
          obtain ⟨g, cap, eg, hgc, hgx⟩ := HM3.out.row.shape (by rw [HNn.out]; omega)
          injection eg with e4 e5 e6
          subst e4 e6
          rw [HNn.out] at hgc
          clear e5 hi hgx
          have d3 : d < 0 ∨ (¬ d < 0 ∧ 2 < d) := by omega
          clear hd hk1
          by_cases hcap : c4 = K + 1
          · subst hcap
            rcases d3 with d3 | ⟨d4, d3⟩
            all_goals
              go_upto_region 40 with (first
                | (at_builtin; refine append_rd rfl (.tmp 107) (.tmp 111) rfl rfl H9.out.row rfl ((rd_zero (some ⟨g, 0, none⟩) 0 (List.drop_eq_nil_of_le (show xs.length ≤ (K + 1) by have := HNn.out; omega))).new H9.out.fr) (by rw [List.nil_append, List.length_take, List.length_drop, HNn.out]; omega) (by have := H9.out.fr.size; omega) ?_; intro v10 w10 hr hg hnil; have H10 := hid (H9.out.step HG3.out hr hg hnil); clear hr hg hnil)
                | (at_builtin; refine append_rd rfl (.tmp 102) (.tmp 105) rfl rfl (ApI.start W3).row rfl (rd_take HRd3.out K (by have := HNn.out; omega)) (by rw [List.length_take, HNn.out, List.length_nil]; omega) (Nat.le_refl _) ?_; intro v9 w9 hr hg hnil; have H9 := hid ((ApI.start W3).step HG3.out hr hg hnil); have c0 := H9.out.fr.cell HC0.out id; clear hr hg hnil))
              obtain ⟨ys, hys⟩ : ∃ ys, xs.take K ++ xs.drop (K + 1) = ys := ⟨_, rfl⟩
              rw [hys] at HM3 HAct
              have HM10 := hid (HM3.out.built H10.out.fr (ys := ys) (by rw [← hys]; have := H10.out.row; rw [List.nil_append] at this; exact this))
              have HLn := hid (show ys.length = n - 1 by rw [← hys]; rw [List.length_append, List.length_take, List.length_drop, HNn.out]; omega)
              have HNl := hid (fun h0 : ys = [] => H10.out.nil (by rw [← hys] at h0; rw [List.nil_append]; exact h0))
              obtain ⟨A5, c5, e5, hA5⟩ := HM10.out.row.rd (by rw [HLn.out]; omega)
              rw [ints'_length, HLn.out] at e5
              subst e5
              have HRd5 := hid (HM10.out.row.rd (by rw [HLn.out]; omega))
              have hl10 : ys.length ≤ N := by rw [HLn.out]; omega
              have HL10 := hid hl10
              clear hA5 hys H10 hl10 HM3
              go_wp2_with (first
  | (go_at_call 21; refine (OS.len HM10e.out.os).mono ?_; rintro e w8 ⟨rfl, rfl⟩; rw [HLn.out])
  | (go_at_call 17; refine (ints_eq _ _ _ _ _ H4.out.1 (HRd5.out.new H4.out.2.2) rfl).mono ?_; rintro e w8 ⟨rfl, hf8⟩; have H8e := hid (H4.out.2.2.trans hf8); clear hf8; have HM10e := hid (HM10.out.new H8e.out))
  | (go_at_call 11; refine (OS.handles HM10.out.os).mono ?_; rintro e w4 ⟨A9, c9, rfl, H4⟩))
              have HPl10 := hid (Pl.act HP3.out HAct.out HM10e.out.os)
              exact ⟨⟨N, k + 1, ys, by omega, by omega, HL10.out, by go_num, by go_num, HNl.out, hid ⟨HM10e.out, HPl10.out⟩⟩, by simp [intOf]; omega⟩
          · have hcI : ¬ (c4 : Int) = (K : Int) + 1 := by omega
            rcases d3 with d3 | ⟨d4, d3⟩
            all_goals
              go_upto_region 40 with (first
                | (at_builtin; refine append_rd rfl (.tmp 107) (.tmp 111) rfl rfl H9.out.row rfl ((rd_drop HRd3.out (K + 1) (by have := HNn.out; omega) HNn.out.symm (some ⟨g, K + 1, none⟩) (fun _ => rfl) _).new H9.out.fr) (by rw [List.nil_append, List.length_take, List.length_drop, HNn.out]; omega) (by have := H9.out.fr.size; omega) ?_; intro v10 w10 hr hg hnil; have H10 := hid (H9.out.step HG3.out hr hg hnil); clear hr hg hnil)
                | (at_builtin; refine append_rd rfl (.tmp 102) (.tmp 105) rfl rfl (ApI.start W3).row rfl (rd_take HRd3.out K (by have := HNn.out; omega)) (by rw [List.length_take, HNn.out, List.length_nil]; omega) (Nat.le_refl _) ?_; intro v9 w9 hr hg hnil; have H9 := hid ((ApI.start W3).step HG3.out hr hg hnil); have c0 := H9.out.fr.cell HC0.out id; clear hr hg hnil))
              obtain ⟨ys, hys⟩ : ∃ ys, xs.take K ++ xs.drop (K + 1) = ys := ⟨_, rfl⟩
              rw [hys] at HM3 HAct
              have HM10 := hid (HM3.out.built H10.out.fr (ys := ys) (by rw [← hys]; have := H10.out.row; rw [List.nil_append] at this; exact this))
              have HLn := hid (show ys.length = n - 1 by rw [← hys]; rw [List.length_append, List.length_take, List.length_drop, HNn.out]; omega)
              have HNl := hid (fun h0 : ys = [] => H10.out.nil (by rw [← hys] at h0; rw [List.nil_append]; exact h0))
              obtain ⟨A5, c5, e5, hA5⟩ := HM10.out.row.rd (by rw [HLn.out]; omega)
              rw [ints'_length, HLn.out] at e5
              subst e5
              have HRd5 := hid (HM10.out.row.rd (by rw [HLn.out]; omega))
              have hl10 : ys.length ≤ N := by rw [HLn.out]; omega
              have HL10 := hid hl10
              clear hA5 hys H10 hl10 HM3
              go_wp2_with (first
  | (go_at_call 21; refine (OS.len HM10e.out.os).mono ?_; rintro e w8 ⟨rfl, rfl⟩; rw [HLn.out])
  | (go_at_call 17; refine (ints_eq _ _ _ _ _ H4.out.1 (HRd5.out.new H4.out.2.2) rfl).mono ?_; rintro e w8 ⟨rfl, hf8⟩; have H8e := hid (H4.out.2.2.trans hf8); clear hf8; have HM10e := hid (HM10.out.new H8e.out))
  | (go_at_call 11; refine (OS.handles HM10.out.os).mono ?_; rintro e w4 ⟨A9, c9, rfl, H4⟩))
              have HPl10 := hid (Pl.act HP3.out HAct.out HM10e.out.os)
              exact ⟨⟨N, k + 1, ys, by omega, by omega, HL10.out, by go_num, by go_num, HNl.out, hid ⟨HM10e.out, HPl10.out⟩⟩, by simp [intOf]; omega⟩
        | put K hT hd hx hk1 he hl hn' =>
          replace hn' := hn'.symm
          subst hx he hl hn'
          have d2 : (s1 == 0) = false := beq_eq_false_iff_ne.2 hk1
          clear hk1 hT
          rcases hd with ⟨rfl, rfl⟩ | ⟨rfl, r, hr, rfl⟩ | ⟨rfl, hr⟩
          · by_cases hn0 : n = 0
            · have hnil := HNil.out (List.eq_nil_of_length_eq_zero (by rw [HNn.out]; exact hn0))
              injection hnil with e4 e5 e6
              subst e4 e6
              subst hn0
              clear e5
              go_upto_region 40 with (first
                | (at_builtin; refine append_rd rfl (.tmp 142) (.tmp 145) rfl rfl H9.out.row rfl ((rd_zero none 0 (List.drop_eq_nil_of_le (show xs.length ≤ 0 from Nat.le_of_eq HNn.out))).new H9.out.fr) (by rw [List.nil_append, List.length_append, List.length_take, List.length_drop, HNn.out, List.length_singleton]; omega) (by have := H9.out.fr.size; omega) ?_; intro v10 w10 hr hg hnil; have H10 := hid (H9.out.step HG3.out hr hg hnil); clear hr hg hnil)
                | (at_builtin; refine append_rd rfl (.tmp 138) (.tmp 140) rfl rfl (H8.out.new ((Fr.refl _ _).alloc _)).row rfl (rd_one w8 _) (by rw [List.nil_append, List.length_take, HNn.out, List.length_singleton]; omega) (by have := H8.out.fr.size; simp; omega) ?_; intro v9 w9 hr hg hnil; have H9 := hid ((H8.out.new ((Fr.refl _ _).alloc _)).step HG3.out hr hg hnil); have c0 := H9.out.fr.cell HC0.out id; clear hr hg hnil)
                | (at_builtin; refine append_rd rfl (.tmp 133) (.tmp 136) rfl rfl (ApI.start W3).row rfl (rd_take HRd3.out (0) (by have := HNn.out; omega)) (by rw [List.length_take, HNn.out, List.length_nil]; omega) (Nat.le_refl _) ?_; intro v8 w8 hr hg hnil; have H8 := hid ((ApI.start W3).step HG3.out hr hg hnil); have c0 := H8.out.fr.cell HC0.out id; clear hr hg hnil))
              obtain ⟨ys, hys⟩ : ∃ ys, xs.take (0) ++ ((N : Int) + 1) :: xs.drop (0) = ys := ⟨_, rfl⟩
              rw [hys] at HM3 HAct
              have HM10 := hid (HM3.out.built H10.out.fr (ys := ys) (by rw [← hys]; have := H10.out.row; rw [List.nil_append, List.append_assoc] at this; exact this))
              have HLn := hid (show ys.length = 0 + 1 by rw [← hys]; rw [len_put, HNn.out])
              have HNl := hid (fun h0 : ys = [] => H10.out.nil (by rw [← hys] at h0; rw [List.nil_append, List.append_assoc]; exact h0))
              obtain ⟨A5, c5, e5, hA5⟩ := HM10.out.row.rd (by rw [HLn.out]; omega)
              rw [ints'_length, HLn.out] at e5
              subst e5
              have HRd5 := hid (HM10.out.row.rd (by rw [HLn.out]; omega))
              have hl10 : ys.length ≤ N + 1 := by rw [HLn.out]; omega
              have HL10 := hid hl10
              clear hA5 hys H10 hl10 HM3
              go_wp2_with (first
  | (go_at_call 21; refine (OS.len HM10e.out.os).mono ?_; rintro e w8 ⟨rfl, rfl⟩; rw [HLn.out])
  | (go_at_call 17; refine (ints_eq _ _ _ _ _ H4.out.1 (HRd5.out.new H4.out.2.2) rfl).mono ?_; rintro e w8 ⟨rfl, hf8⟩; have H8e := hid (H4.out.2.2.trans hf8); clear hf8; have HM10e := hid (HM10.out.new H8e.out))
  | (go_at_call 11; refine (OS.handles HM10.out.os).mono ?_; rintro e w4 ⟨A9, c9, rfl, H4⟩))
              have HPl10 := hid (Pl.act HP3.out HAct.out HM10e.out.os)
              exact ⟨⟨N + 1, k + 1, ys, by omega, by omega, HL10.out, by go_num, by go_num, HNl.out, hid ⟨HM10e.out, HPl10.out⟩⟩, by simp [intOf]; omega⟩
            · obtain ⟨g, cap, eg, hgc, hgx⟩ := HM3.out.row.shape (by rw [HNn.out]; omega)
              injection eg with e4 e5 e6
              subst e4 e6
              rw [HNn.out] at hgc
              clear e5 hgx
              have hcI : ¬ (c4 : Int) = 0 := by omega
              have hcJ : ¬ c4 = 0 := by omega
              go_upto_region 40 with (first
                | (at_builtin; refine append_rd rfl (.tmp 142) (.tmp 145) rfl rfl H9.out.row rfl (((by rw [List.drop_zero]; exact HRd3.out : Rd W3 _ (ints' (xs.drop 0)))).new H9.out.fr) (by rw [List.nil_append, List.length_append, List.length_take, List.length_drop, HNn.out, List.length_singleton]; omega) (by have := H9.out.fr.size; omega) ?_; intro v10 w10 hr hg hnil; have H10 := hid (H9.out.step HG3.out hr hg hnil); clear hr hg hnil)
                | (at_builtin; refine append_rd rfl (.tmp 138) (.tmp 140) rfl rfl (H8.out.new ((Fr.refl _ _).alloc _)).row rfl (rd_one w8 _) (by rw [List.nil_append, List.length_take, HNn.out, List.length_singleton]; omega) (by have := H8.out.fr.size; simp; omega) ?_; intro v9 w9 hr hg hnil; have H9 := hid ((H8.out.new ((Fr.refl _ _).alloc _)).step HG3.out hr hg hnil); have c0 := H9.out.fr.cell HC0.out id; clear hr hg hnil)
                | (at_builtin; refine append_rd rfl (.tmp 133) (.tmp 136) rfl rfl (ApI.start W3).row rfl (rd_take HRd3.out (0) (by have := HNn.out; omega)) (by rw [List.length_take, HNn.out, List.length_nil]; omega) (Nat.le_refl _) ?_; intro v8 w8 hr hg hnil; have H8 := hid ((ApI.start W3).step HG3.out hr hg hnil); have c0 := H8.out.fr.cell HC0.out id; clear hr hg hnil))
              obtain ⟨ys, hys⟩ : ∃ ys, xs.take (0) ++ ((N : Int) + 1) :: xs.drop (0) = ys := ⟨_, rfl⟩
              rw [hys] at HM3 HAct
              have HM10 := hid (HM3.out.built H10.out.fr (ys := ys) (by rw [← hys]; have := H10.out.row; rw [List.nil_append, List.append_assoc] at this; exact this))
              have HLn := hid (show ys.length = n + 1 by rw [← hys]; rw [len_put, HNn.out])
              have HNl := hid (fun h0 : ys = [] => H10.out.nil (by rw [← hys] at h0; rw [List.nil_append, List.append_assoc]; exact h0))
              obtain ⟨A5, c5, e5, hA5⟩ := HM10.out.row.rd (by rw [HLn.out]; omega)
              rw [ints'_length, HLn.out] at e5
              subst e5
              have HRd5 := hid (HM10.out.row.rd (by rw [HLn.out]; omega))
              have hl10 : ys.length ≤ N + 1 := by rw [HLn.out]; omega
              have HL10 := hid hl10
              clear hA5 hys H10 hl10 HM3
              go_wp2_with (first
  | (go_at_call 21; refine (OS.len HM10e.out.os).mono ?_; rintro e w8 ⟨rfl, rfl⟩; rw [HLn.out])
  | (go_at_call 17; refine (ints_eq _ _ _ _ _ H4.out.1 (HRd5.out.new H4.out.2.2) rfl).mono ?_; rintro e w8 ⟨rfl, hf8⟩; have H8e := hid (H4.out.2.2.trans hf8); clear hf8; have HM10e := hid (HM10.out.new H8e.out))
  | (go_at_call 11; refine (OS.handles HM10.out.os).mono ?_; rintro e w4 ⟨A9, c9, rfl, H4⟩))
              have HPl10 := hid (Pl.act HP3.out HAct.out HM10e.out.os)
              exact ⟨⟨N + 1, k + 1, ys, by omega, by omega, HL10.out, by go_num, by go_num, HNl.out, hid ⟨HM10e.out, HPl10.out⟩⟩, by simp [intOf]; omega⟩
          · have hrn : r < n := by have := HNn.out; have := (List.getElem?_eq_some_iff.1 hr).1; omega
            obtain rfl := HAt.out.some (by rw [HNn.out]; omega) HOS.out hr
            have hK0 : ¬ (r : Int) < 0 := by omega
            have hK1 : (r : Int) + 1 ≤ n := by omega
            obtain ⟨g, cap, eg, hgc, hgx⟩ := HM3.out.row.shape (by rw [HNn.out]; omega)
            injection eg with e4 e5 e6
            subst e4 e6
            rw [HNn.out] at hgc
            clear e5 hr hgx
            by_cases hcap : c4 = r + 1
            · subst hcap
              go_upto_region 40 with (first
                | (at_builtin; refine append_rd rfl (.tmp 142) (.tmp 145) rfl rfl H9.out.row rfl ((rd_zero (some ⟨g, 0, none⟩) 0 (List.drop_eq_nil_of_le (show xs.length ≤ (r + 1) by have := HNn.out; omega))).new H9.out.fr) (by rw [List.nil_append, List.length_append, List.length_take, List.length_drop, HNn.out, List.length_singleton]; omega) (by have := H9.out.fr.size; omega) ?_; intro v10 w10 hr hg hnil; have H10 := hid (H9.out.step HG3.out hr hg hnil); clear hr hg hnil)
                | (at_builtin; refine append_rd rfl (.tmp 138) (.tmp 140) rfl rfl (H8.out.new ((Fr.refl _ _).alloc _)).row rfl (rd_one w8 _) (by rw [List.nil_append, List.length_take, HNn.out, List.length_singleton]; omega) (by have := H8.out.fr.size; simp; omega) ?_; intro v9 w9 hr hg hnil; have H9 := hid ((H8.out.new ((Fr.refl _ _).alloc _)).step HG3.out hr hg hnil); have c0 := H9.out.fr.cell HC0.out id; clear hr hg hnil)
                | (at_builtin; refine append_rd rfl (.tmp 133) (.tmp 136) rfl rfl (ApI.start W3).row rfl (rd_take HRd3.out (r + 1) (by have := HNn.out; omega)) (by rw [List.length_take, HNn.out, List.length_nil]; omega) (Nat.le_refl _) ?_; intro v8 w8 hr hg hnil; have H8 := hid ((ApI.start W3).step HG3.out hr hg hnil); have c0 := H8.out.fr.cell HC0.out id; clear hr hg hnil))
              obtain ⟨ys, hys⟩ : ∃ ys, xs.take (r + 1) ++ ((N : Int) + 1) :: xs.drop (r + 1) = ys := ⟨_, rfl⟩
              rw [hys] at HM3 HAct
              have HM10 := hid (HM3.out.built H10.out.fr (ys := ys) (by rw [← hys]; have := H10.out.row; rw [List.nil_append, List.append_assoc] at this; exact this))
              have HLn := hid (show ys.length = n + 1 by rw [← hys]; rw [len_put, HNn.out])
              have HNl := hid (fun h0 : ys = [] => H10.out.nil (by rw [← hys] at h0; rw [List.nil_append, List.append_assoc]; exact h0))
              obtain ⟨A5, c5, e5, hA5⟩ := HM10.out.row.rd (by rw [HLn.out]; omega)
              rw [ints'_length, HLn.out] at e5
              subst e5
              have HRd5 := hid (HM10.out.row.rd (by rw [HLn.out]; omega))
              have hl10 : ys.length ≤ N + 1 := by rw [HLn.out]; omega
              have HL10 := hid hl10
              clear hA5 hys H10 hl10 HM3
              go_wp2_with (first
  | (go_at_call 21; refine (OS.len HM10e.out.os).mono ?_; rintro e w8 ⟨rfl, rfl⟩; rw [HLn.out])
  | (go_at_call 17; refine (ints_eq _ _ _ _ _ H4.out.1 (HRd5.out.new H4.out.2.2) rfl).mono ?_; rintro e w8 ⟨rfl, hf8⟩; have H8e := hid (H4.out.2.2.trans hf8); clear hf8; have HM10e := hid (HM10.out.new H8e.out))
  | (go_at_call 11; refine (OS.handles HM10.out.os).mono ?_; rintro e w4 ⟨A9, c9, rfl, H4⟩))
              have HPl10 := hid (Pl.act HP3.out HAct.out HM10e.out.os)
              exact ⟨⟨N + 1, k + 1, ys, by omega, by omega, HL10.out, by go_num, by go_num, HNl.out, hid ⟨HM10e.out, HPl10.out⟩⟩, by simp [intOf]; omega⟩
            · have hcI : ¬ (c4 : Int) = (r : Int) + 1 := by omega
              go_upto_region 40 with (first
                | (at_builtin; refine append_rd rfl (.tmp 142) (.tmp 145) rfl rfl H9.out.row rfl ((rd_drop HRd3.out (r + 1) (by have := HNn.out; omega) HNn.out.symm (some ⟨g, r + 1, none⟩) (fun _ => rfl) _).new H9.out.fr) (by rw [List.nil_append, List.length_append, List.length_take, List.length_drop, HNn.out, List.length_singleton]; omega) (by have := H9.out.fr.size; omega) ?_; intro v10 w10 hr hg hnil; have H10 := hid (H9.out.step HG3.out hr hg hnil); clear hr hg hnil)
                | (at_builtin; refine append_rd rfl (.tmp 138) (.tmp 140) rfl rfl (H8.out.new ((Fr.refl _ _).alloc _)).row rfl (rd_one w8 _) (by rw [List.nil_append, List.length_take, HNn.out, List.length_singleton]; omega) (by have := H8.out.fr.size; simp; omega) ?_; intro v9 w9 hr hg hnil; have H9 := hid ((H8.out.new ((Fr.refl _ _).alloc _)).step HG3.out hr hg hnil); have c0 := H9.out.fr.cell HC0.out id; clear hr hg hnil)
                | (at_builtin; refine append_rd rfl (.tmp 133) (.tmp 136) rfl rfl (ApI.start W3).row rfl (rd_take HRd3.out (r + 1) (by have := HNn.out; omega)) (by rw [List.length_take, HNn.out, List.length_nil]; omega) (Nat.le_refl _) ?_; intro v8 w8 hr hg hnil; have H8 := hid ((ApI.start W3).step HG3.out hr hg hnil); have c0 := H8.out.fr.cell HC0.out id; clear hr hg hnil))
              obtain ⟨ys, hys⟩ : ∃ ys, xs.take (r + 1) ++ ((N : Int) + 1) :: xs.drop (r + 1) = ys := ⟨_, rfl⟩
              rw [hys] at HM3 HAct
              have HM10 := hid (HM3.out.built H10.out.fr (ys := ys) (by rw [← hys]; have := H10.out.row; rw [List.nil_append, List.append_assoc] at this; exact this))
              have HLn := hid (show ys.length = n + 1 by rw [← hys]; rw [len_put, HNn.out])
              have HNl := hid (fun h0 : ys = [] => H10.out.nil (by rw [← hys] at h0; rw [List.nil_append, List.append_assoc]; exact h0))
              obtain ⟨A5, c5, e5, hA5⟩ := HM10.out.row.rd (by rw [HLn.out]; omega)
              rw [ints'_length, HLn.out] at e5
              subst e5
              have HRd5 := hid (HM10.out.row.rd (by rw [HLn.out]; omega))
              have hl10 : ys.length ≤ N + 1 := by rw [HLn.out]; omega
              have HL10 := hid hl10
              clear hA5 hys H10 hl10 HM3
              go_wp2_with (first
  | (go_at_call 21; refine (OS.len HM10e.out.os).mono ?_; rintro e w8 ⟨rfl, rfl⟩; rw [HLn.out])
  | (go_at_call 17; refine (ints_eq _ _ _ _ _ H4.out.1 (HRd5.out.new H4.out.2.2) rfl).mono ?_; rintro e w8 ⟨rfl, hf8⟩; have H8e := hid (H4.out.2.2.trans hf8); clear hf8; have HM10e := hid (HM10.out.new H8e.out))
  | (go_at_call 11; refine (OS.handles HM10.out.os).mono ?_; rintro e w4 ⟨A9, c9, rfl, H4⟩))
              have HPl10 := hid (Pl.act HP3.out HAct.out HM10e.out.os)
              exact ⟨⟨N + 1, k + 1, ys, by omega, by omega, HL10.out, by go_num, by go_num, HNl.out, hid ⟨HM10e.out, HPl10.out⟩⟩, by simp [intOf]; omega⟩
          · have hrn : K < n := by have := HNn.out; have := (List.getElem?_eq_some_iff.1 hr).1; omega
            obtain rfl := HAt.out.some (by rw [HNn.out]; omega) HOS.out hr
            have hK0 : ¬ (K : Int) < 0 := by omega
            obtain ⟨g, cap, eg, hgc, hgx⟩ := HM3.out.row.shape (by rw [HNn.out]; omega)
            injection eg with e4 e5 e6
            subst e4 e6
            rw [HNn.out] at hgc
            clear e5 hr hgx
            have hcI : ¬ (c4 : Int) = (K : Int) := by omega
            go_upto_region 40 with (first
              | (at_builtin; refine append_rd rfl (.tmp 142) (.tmp 145) rfl rfl H9.out.row rfl ((rd_drop HRd3.out (K) (by have := HNn.out; omega) HNn.out.symm (some ⟨g, K, none⟩) (fun _ => rfl) _).new H9.out.fr) (by rw [List.nil_append, List.length_append, List.length_take, List.length_drop, HNn.out, List.length_singleton]; omega) (by have := H9.out.fr.size; omega) ?_; intro v10 w10 hr hg hnil; have H10 := hid (H9.out.step HG3.out hr hg hnil); clear hr hg hnil)
              | (at_builtin; refine append_rd rfl (.tmp 138) (.tmp 140) rfl rfl (H8.out.new ((Fr.refl _ _).alloc _)).row rfl (rd_one w8 _) (by rw [List.nil_append, List.length_take, HNn.out, List.length_singleton]; omega) (by have := H8.out.fr.size; simp; omega) ?_; intro v9 w9 hr hg hnil; have H9 := hid ((H8.out.new ((Fr.refl _ _).alloc _)).step HG3.out hr hg hnil); have c0 := H9.out.fr.cell HC0.out id; clear hr hg hnil)
              | (at_builtin; refine append_rd rfl (.tmp 133) (.tmp 136) rfl rfl (ApI.start W3).row rfl (rd_take HRd3.out (K) (by have := HNn.out; omega)) (by rw [List.length_take, HNn.out, List.length_nil]; omega) (Nat.le_refl _) ?_; intro v8 w8 hr hg hnil; have H8 := hid ((ApI.start W3).step HG3.out hr hg hnil); have c0 := H8.out.fr.cell HC0.out id; clear hr hg hnil))
            obtain ⟨ys, hys⟩ : ∃ ys, xs.take (K) ++ ((N : Int) + 1) :: xs.drop (K) = ys := ⟨_, rfl⟩
            rw [hys] at HM3 HAct
            have HM10 := hid (HM3.out.built H10.out.fr (ys := ys) (by rw [← hys]; have := H10.out.row; rw [List.nil_append, List.append_assoc] at this; exact this))
            have HLn := hid (show ys.length = n + 1 by rw [← hys]; rw [len_put, HNn.out])
            have HNl := hid (fun h0 : ys = [] => H10.out.nil (by rw [← hys] at h0; rw [List.nil_append, List.append_assoc]; exact h0))
            obtain ⟨A5, c5, e5, hA5⟩ := HM10.out.row.rd (by rw [HLn.out]; omega)
            rw [ints'_length, HLn.out] at e5
            subst e5
            have HRd5 := hid (HM10.out.row.rd (by rw [HLn.out]; omega))
            have hl10 : ys.length ≤ N + 1 := by rw [HLn.out]; omega
            have HL10 := hid hl10
            clear hA5 hys H10 hl10 HM3
            go_wp2_with (first
  | (go_at_call 21; refine (OS.len HM10e.out.os).mono ?_; rintro e w8 ⟨rfl, rfl⟩; rw [HLn.out])
  | (go_at_call 17; refine (ints_eq _ _ _ _ _ H4.out.1 (HRd5.out.new H4.out.2.2) rfl).mono ?_; rintro e w8 ⟨rfl, hf8⟩; have H8e := hid (H4.out.2.2.trans hf8); clear hf8; have HM10e := hid (HM10.out.new H8e.out))
  | (go_at_call 11; refine (OS.handles HM10.out.os).mono ?_; rintro e w4 ⟨A9, c9, rfl, H4⟩))
            have HPl10 := hid (Pl.act HP3.out HAct.out HM10e.out.os)
            exact ⟨⟨N + 1, k + 1, ys, by omega, by omega, HL10.out, by go_num, by go_num, HNl.out, hid ⟨HM10e.out, HPl10.out⟩⟩, by simp [intOf]; omega⟩
    · have hnI : ¬ (k : Int) < l.length := by omega
      obtain rfl : k = l.length := by omega
      have HF := hid HW.out.1.fr
      go_wp2_with (go_at_call 9; refine (HAw.out _ HF.out).mono ?_; rintro e w9 ⟨rfl, H9⟩)
      go_ret
      exact ⟨rfl, HF.out.trans H9⟩
end Go.Proofs.YtogjfaiidciedaaGreatDoor
