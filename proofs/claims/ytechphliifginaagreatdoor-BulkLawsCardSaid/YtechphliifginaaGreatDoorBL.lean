/- BulkLaws, as it is called: the walk. -/
import Derived.Test.YtechphliifginaaGreatDoorBD
import Derived.Deep.RegionHeld3
set_option linter.unusedVariables false
set_option linter.unusedSimpArgs false
namespace Go.Proofs.YtechphliifginaaGreatDoor
open Go.RowKit

theorem get_own {w : World} {A : Option Addr} {m c : Nat} {xs : List Int} (h : Rd w (.slice A m c) (ints' xs)) (hl : xs.length = m) (hm : 0 < m) : ∃ ad, A = some ad ∧ ∀ j, j < m → w.cell? (ad.add j) = some (.int .i64 (xs.getD j 0)) := by
  obtain ⟨A', c', e, _, hA⟩ := h
  rw [ints'_length] at e hA
  injection e with e1 e2 e3
  subst e1
  obtain ⟨ad, rfl, hc⟩ := hA (by omega)
  exact ⟨ad, rfl, fun j hj => hc j _ (ints'_get xs j (by omega))⟩
theorem op_at {ops : Array Oper} {i : Nat} {o : Oper} {rest : List Oper} (h : ops.toList.drop i = o :: rest) : ops[i]? = some o := by
  rw [← Array.getElem?_toList, ← List.head?_drop, h]; rfl
set_option maxRecDepth 100000 in
set_option maxHeartbeats 40000000 in
theorem bulkLaws_any (u v : Value) (la lb : List Int) (w : World) (hu : Rd w u (ints' la)) (hv : Rd w v (ints' lb)) (hg : GW w) : Calls Tryz.prog 13 #[u, v] w fun e w' => e = .returned (.bool true) ∧ Fr Nil1 w w' := by
  have HAw := hid (fun w' (hf : Fr Nil1 w w') => awake16_any w' (hg.fr hf))
  have HG := hid (fun w' (hf : Fr Nil1 w w') => hg.fr hf)
  have HMd := hid (fun (h1 : la.length ≤ 200) (h2 : lb.length ≤ 200) => made16_any hu hv h1 h2 hg)
  obtain ⟨Aa, ca, rfl, _, _⟩ := hu
  obtain ⟨Ab, cb, rfl, _, _⟩ := hv
  rw [ints'_length, ints'_length] at HMd
  rw [ints'_length, ints'_length]
  by_cases h1 : 200 < la.length
  · have i1 : (200 : Int) < (la.length : Int) := by omega
    have HM := hid (made16_many (A := Aa) (B := Ab) (n := la.length) (m := lb.length) (c := ca) (d := cb) (.inl h1) w)
    clear h1 hg
    go_enter Tryz.func13, Tryz.ntmps13
    go_wp2_with (first
      | (go_at_call 56; (with_reducible refine (HAw.out _ (Fr.refl _ _)).mono ?_); rintro e w2 ⟨rfl, h2⟩; have HF2 := hid h2; clear h2)
      | (go_at_call 61; (with_reducible refine HM.out.mono ?_); rintro e w1 ⟨rfl, rfl⟩))
    go_ret
    exact ⟨rfl, HF2.out⟩
  · have i1 : ¬ (200 : Int) < (la.length : Int) := by omega
    by_cases h2 : 200 < lb.length
    · have i2 : (200 : Int) < (lb.length : Int) := by omega
      have HM := hid (made16_many (A := Aa) (B := Ab) (n := la.length) (m := lb.length) (c := ca) (d := cb) (.inr h2) w)
      clear h1 h2 hg
      go_enter Tryz.func13, Tryz.ntmps13
      go_wp2_with (first
        | (go_at_call 56; (with_reducible refine (HAw.out _ (Fr.refl _ _)).mono ?_); rintro e w2 ⟨rfl, h2⟩; have HF2 := hid h2; clear h2)
        | (go_at_call 61; (with_reducible refine HM.out.mono ?_); rintro e w1 ⟨rfl, rfl⟩))
      go_ret
      exact ⟨rfl, HF2.out⟩
    · have HM := hid (HMd.out (by omega) (by omega))
      have z1 := (srt_spec la).2.2
      have z2 := (srt_spec lb).2.2
      obtain ⟨KA, hKA⟩ : ∃ KA, srtL la = KA := ⟨_, rfl⟩
      obtain ⟨KB, hKB⟩ : ∃ KB, srtL lb = KB := ⟨_, rfl⟩
      rw [hKA] at HM z1
      rw [hKB] at HM z2
      have HZ := hid (show KA.length ≤ 200 ∧ KB.length ≤ 200 by omega)
      clear h1 h2 hg z1 z2 hKA hKB i1
      go_enter Tryz.func13, Tryz.ntmps13
      go_upto_region 4 with (go_at_call 61; (with_reducible refine HM.out.mono ?_); rintro e w1 ⟨s, t, rfl, H1⟩)
      have HA := hid H1.out.1
      have HB := hid H1.out.2.1
      have HFr := hid H1.out.2.2
      have F1 := hid (Fr.refl Nil1 w1)
      have hup1 := HA.out.up
      have hup2 := HB.out.up
      have HUA := hid hup1
      have HUB := hid hup2
      clear hup1 hup2
      go_upto_region 10 with (first
        | (go_at_call 59; (with_reducible refine (bulkBoth_any (HB.out.new F6.out) (HA.out.new F6.out) (by have := HZ.out; omega) (HG.out _ (HFr.out.trans F6.out))).mono ?_); rintro e w7 ⟨s7, rfl, H7⟩; have F7 := hid (F6.out.trans H7.out.fr))
        | (go_at_call 58; (with_reducible refine (bulkUnion_any (HB.out.new F5.out) (HA.out.new F5.out) (by have := HZ.out; omega) (HG.out _ (HFr.out.trans F5.out))).mono ?_); rintro e w6 ⟨s6, rfl, H6⟩; have F6 := hid (F5.out.trans H6.out.fr))
        | (go_at_call 62; (with_reducible refine (bulkMinus_any (HB.out.new F4.out) (HA.out.new F4.out) (by have := HZ.out; omega) (HG.out _ (HFr.out.trans F4.out))).mono ?_); rintro e w5 ⟨s5, rfl, H5⟩; have F5 := hid (F4.out.trans H5.out.fr))
        | (go_at_call 62; (with_reducible refine (bulkMinus_any (HA.out.new F3.out) (HB.out.new F3.out) (by have := HZ.out; omega) (HG.out _ (HFr.out.trans F3.out))).mono ?_); rintro e w4 ⟨s4, rfl, H4⟩; have F4 := hid (F3.out.trans H4.out.fr))
        | (go_at_call 59; (with_reducible refine (bulkBoth_any (HA.out.new F2.out) (HB.out.new F2.out) (by have := HZ.out; omega) (HG.out _ (HFr.out.trans F2.out))).mono ?_); rintro e w3 ⟨s3, rfl, H3⟩; have F3 := hid (F2.out.trans H3.out.fr))
        | (go_at_call 58; (with_reducible refine (bulkUnion_any (HA.out.new F1.out) (HB.out.new F1.out) (by have := HZ.out; omega) (HG.out _ (HFr.out.trans F1.out))).mono ?_); rintro e w2 ⟨s2, rfl, H2⟩; have F2 := hid (F1.out.trans H2.out.fr)))
      have TU := hid (H2.out.new (H3.out.fr.trans (H4.out.fr.trans (H5.out.fr.trans (H6.out.fr.trans H7.out.fr)))))
      have TV := hid (H3.out.new (H4.out.fr.trans (H5.out.fr.trans (H6.out.fr.trans H7.out.fr))))
      have TW := hid (H4.out.new (H5.out.fr.trans (H6.out.fr.trans H7.out.fr)))
      have TX := hid (H5.out.new (H6.out.fr.trans H7.out.fr))
      have TY := hid (H6.out.new H7.out.fr)
      have TZ := hid H7.out
      rw [← uni_comm HUA.out HUB.out] at TY
      rw [← bot_comm HUA.out HUB.out] at TZ
      have hpt := uni_parts HUA.out HUB.out
      have m1 := pickL_len tkU KA KB
      have m2 := pickL_len tkB KA KB
      have m3 := pickL_len tkM KA KB
      have m4 := pickL_len tkM KB KA
      have hzz := HZ.out
      have TA := hid (HA.out.new F7.out)
      have TB := hid (HB.out.new F7.out)
      have HFs := hid (HFr.out.trans F7.out)
      have HMu := hid (fun y => @mem_uni KA KB y)
      have HMb := hid (fun y => @mem_bot KA KB y)
      have HMm := hid (fun y => @mem_min KA KB y)
      have HMn := hid (fun y => @mem_min KB KA y)
      have HSf := hid (bot_self HUA.out)
      have HSn := hid (min_self HUA.out)
      have HSu := hid (uni_nil HUA.out)
      obtain ⟨U, hU⟩ : ∃ U, pickL tkU KA KB = U := ⟨_, rfl⟩
      obtain ⟨V, hV⟩ : ∃ V, pickL tkB KA KB = V := ⟨_, rfl⟩
      obtain ⟨Wm, hW⟩ : ∃ Wm, pickL tkM KA KB = Wm := ⟨_, rfl⟩
      obtain ⟨Xm, hX⟩ : ∃ Xm, pickL tkM KB KA = Xm := ⟨_, rfl⟩
      rw [hU] at TU TY hpt m1 HMu
      rw [hV] at TV TZ hpt m2 HMb
      rw [hW] at TW hpt m3 HMm
      rw [hX] at TX hpt m4 HMn
      have HBd := hid (show U.length ≤ 400 ∧ V.length ≤ 400 by omega)
      have HLu := hid (fun wz (hf : Fr Nil1 w7 wz) => (TU.out.new hf).len)
      have HLv := hid (fun wz (hf : Fr Nil1 w7 wz) => (TV.out.new hf).len)
      have HLw := hid (fun wz (hf : Fr Nil1 w7 wz) => (TW.out.new hf).len)
      have HLx := hid (fun wz (hf : Fr Nil1 w7 wz) => (TX.out.new hf).len)
      obtain ⟨N, hN⟩ : ∃ N, U.length = N := ⟨_, rfl⟩
      obtain ⟨p, hp⟩ : ∃ p : Int, ((V.length : Nat) : Int) = p := ⟨_, rfl⟩
      obtain ⟨q, hq⟩ : ∃ q : Int, ((Wm.length : Nat) : Int) = q := ⟨_, rfl⟩
      obtain ⟨r, hr⟩ : ∃ r : Int, ((Xm.length : Nat) : Int) = r := ⟨_, rfl⟩
      obtain ⟨pq, hpq⟩ : ∃ pq : Int, p + q = pq := ⟨_, rfl⟩
      have e1 : IntKind.i64.wrap (p + q) = pq := by rw [hpq]; exact IntWalk.i64_in _ (by omega)
      have e1' : wrap64 (p + q) = pq := by rw [hpq]; exact IntWalk.wrap64_in _ (by omega)
      have e2 : IntKind.i64.wrap (pq + r) = (N : Int) := by rw [show pq + r = (N : Int) by omega]; exact IntWalk.i64_in _ (by omega)
      have e2' : wrap64 (pq + r) = (N : Int) := by rw [show pq + r = (N : Int) by omega]; exact IntWalk.wrap64_in _ (by omega)
      rw [hN] at HLu HBd
      rw [hp] at HLv
      rw [hq] at HLw
      rw [hr] at HLx
      have HN := hid hN
      clear hpt m1 m2 m3 m4 hzz hU hV hW hX hN hp hq hr hpq
      go_upto_region 14 with (first
        | (go_at_call 63; (with_reducible refine (HLx.out w13 F13.out).mono ?_); rintro e wl ⟨rfl, rfl⟩)
        | (go_at_call 63; (with_reducible refine (HLw.out w13 F13.out).mono ?_); rintro e wl ⟨rfl, rfl⟩)
        | (go_at_call 63; (with_reducible refine (HLv.out w13 F13.out).mono ?_); rintro e wl ⟨rfl, rfl⟩)
        | (go_at_call 63; (with_reducible refine (HLu.out w13 F13.out).mono ?_); rintro e wl ⟨rfl, rfl⟩)
        | (go_at_call 60; refine (ints16_eq V V _ _ w12 (H11.out.1.new H12.out.2) H12.out.1 rfl).mono ?_; rintro e w13 ⟨rfl, h13⟩; have F13 := hid (F10.out.trans (H11.out.2.trans (H12.out.2.trans h13))); clear h13)
        | (go_at_call 51; (with_reducible refine ((TZ.out.new (F10.out.trans H11.out.2)).keys).mono ?_); rintro e w12 ⟨A12, c12, rfl, H12⟩)
        | (go_at_call 51; (with_reducible refine ((TV.out.new F10.out).keys).mono ?_); rintro e w11 ⟨A11, c11, rfl, H11⟩)
        | (go_at_call 60; refine (ints16_eq U U _ _ w9 (H8.out.1.new H9.out.2) H9.out.1 rfl).mono ?_; rintro e w10 ⟨rfl, h10⟩; have F10 := hid (H8.out.2.trans (H9.out.2.trans h10)); clear h10)
        | (go_at_call 51; (with_reducible refine ((TY.out.new H8.out.2).keys).mono ?_); rintro e w9 ⟨A9, c9, rfl, H9⟩)
        | (go_at_call 51; (with_reducible refine TU.out.keys.mono ?_); rintro e w8 ⟨A8, c8, rfl, H8⟩))
      have hk := (TU.out.new F13.out).keys
      rw [HN.out] at hk
      have HKy := hid hk
      clear hk
      go_upto_region 16 with (go_at_call 51; (with_reducible refine HKy.out.mono ?_); rintro e w14 ⟨A14, c14, rfl, H14⟩)
      have F14 := hid (F13.out.trans H14.out.2)
      have HRow := hid (fun wz (hf : Fr Nil1 w14 wz) (hp : 0 < N) => get_own (H14.out.1.new hf) HN.out hp)
      have HSV := hid (fun wz (hf : Fr Nil1 w14 wz) y => (TV.out.new (F14.out.trans hf)).has y)
      have HSW := hid (fun wz (hf : Fr Nil1 w14 wz) y => (TW.out.new (F14.out.trans hf)).has y)
      have HSX := hid (fun wz (hf : Fr Nil1 w14 wz) y => (TX.out.new (F14.out.trans hf)).has y)
      have HSA := hid (fun wz (hf : Fr Nil1 w14 wz) y => (TA.out.new (F14.out.trans hf)).has y)
      have hb400 : N ≤ 400 := HBd.out.1
      go_loopw [4, 20, 21] (fun r i _ wr => ∃ j : Nat, j ≤ N ∧ r = .bool false ∧ i = .int .i64 j ∧ Hid (Fr Nil1 w14 wr)) (fun _ i _ _ => (N - intOf i).toNat)
      case atStart => exact ⟨0, by omega, rfl, rfl, hid (Fr.refl _ _)⟩
      case round =>
        obtain ⟨j, hj, rfl, rfl, HW⟩ := hrel
        by_cases hlt : j < N
        · obtain ⟨ad, rfl, hc⟩ := HRow.out wr HW.out (by omega)
          have hx : U.getD j 0 ∈ U := getD_mem (by rw [HN.out]; exact hlt)
          rw [HMu.out] at hx
          have d1 := hc j hlt
          have HJ := hid (And.intro hj hlt)
          have hjI : (j : Int) < N := by omega
          have hj0 : (0 : Int) ≤ j := by omega
          have hjb : (j : Int) < 400 := by omega
          obtain ⟨x, hxe⟩ : ∃ x, U.getD j 0 = x := ⟨_, rfl⟩
          rw [hxe] at hx d1
          have HC := hid d1
          have HHV := hid (fun wz (hf : Fr Nil1 wr wz) => HSV.out wz (HW.out.trans hf) x)
          have HHW := hid (fun wz (hf : Fr Nil1 wr wz) => HSW.out wz (HW.out.trans hf) x)
          have HHX := hid (fun wz (hf : Fr Nil1 wr wz) => HSX.out wz (HW.out.trans hf) x)
          have HHA := hid (fun wz (hf : Fr Nil1 wr wz) => HSA.out wz (HW.out.trans hf) x)
          clear hxe hc hlt hj
          by_cases hA : x ∈ KA
          · by_cases hB : x ∈ KB
            · rw [decide_eq_true ((HMb.out x).2 ⟨hA, hB⟩)] at HHV
              rw [decide_eq_false (fun h => ((HMm.out x).1 h).2 hB)] at HHW
              rw [decide_eq_false (fun h => ((HMn.out x).1 h).2 hA)] at HHX
              rw [decide_eq_true hA] at HHA
              clear hA hB hx
              go_upto_region 25 with (first
                | (go_at_call 50; (with_reducible refine (HHX.out w16 F16.out).mono ?_); rintro e w17 ⟨rfl, h17⟩; have F17 := hid (F16.out.trans h17); have k17 := (F16.out.trans h17).cell HC.out id; clear h17)
                | (go_at_call 50; (with_reducible refine (HHW.out w15 F15.out).mono ?_); rintro e w16 ⟨rfl, h16⟩; have F16 := hid (F15.out.trans h16); have k16 := (F15.out.trans h16).cell HC.out id; clear h16)
                | (go_at_call 50; (with_reducible refine (HHV.out wr (Fr.refl _ _)).mono ?_); rintro e w15 ⟨rfl, h15⟩; have F15 := hid h15; have k15 := h15.cell HC.out id; clear h15))
              refine wp_region_held_drew (S := (fun w' => w'.cell? (ad.add j) = some (.int .i64 x))) (by kernel_rfl) k17 (fun hHeld => ?_)
              refine wpAnyH_take (i := 0) (v := .int .i64 1) (op_at rfl) (by kernel_rfl) (by kernel_rfl) (by kernel_rfl) (fun _ _ _ h => h) (Or.inl ⟨by kernel_rfl, fun wq2 hSw => ?_⟩) (by assumption) ?_
              · (try dsimp only at hSw); go_simp
              try simp only [Act.put, List.setIfInBounds_toArray, List.set_cons_zero, List.set_cons_succ]
              refine wpAnyH_take (i := 1) (v := .bool false) (op_at rfl) (by kernel_rfl) (by kernel_rfl) (by kernel_rfl) (fun _ _ _ h => h) (Or.inl ⟨by kernel_rfl, fun wq2 hSw => ?_⟩) (by assumption) ?_
              · (try dsimp only at hSw); go_simp
              try simp only [Act.put, List.setIfInBounds_toArray, List.set_cons_zero, List.set_cons_succ]
              refine wpAnyH_take (i := 2) (v := .bool false) (op_at rfl) (by kernel_rfl) (by kernel_rfl) (by kernel_rfl) (fun _ _ _ h => h) (Or.inl ⟨by kernel_rfl, fun wq2 hSw => ?_⟩) (by assumption) ?_
              · (try dsimp only at hSw); go_simp
              try simp only [Act.put, List.setIfInBounds_toArray, List.set_cons_zero, List.set_cons_succ]
              refine wpAnyH_take (i := 3) (v := .pointer (some ⟨s, 0, none⟩)) (op_at rfl) (by kernel_rfl) (by kernel_rfl) (by kernel_rfl) (fun _ _ _ h => h) (Or.inl ⟨by kernel_rfl, fun wq2 hSw => ?_⟩) (by assumption) ?_
              · (try dsimp only at hSw); go_simp
              try simp only [Act.put, List.setIfInBounds_toArray, List.set_cons_zero, List.set_cons_succ]
              refine wpAnyH_take (i := 4) (v := .slice (some ad) N c14) (op_at rfl) (by kernel_rfl) (by kernel_rfl) (by kernel_rfl) (fun _ _ _ h => h) (Or.inl ⟨by kernel_rfl, fun wq2 hSw => ?_⟩) (by assumption) ?_
              · (try dsimp only at hSw); go_simp
              try simp only [Act.put, List.setIfInBounds_toArray, List.set_cons_zero, List.set_cons_succ]
              refine wpAnyH_take (i := 5) (v := .int .i64 (j : Int)) (op_at rfl) (by kernel_rfl) (by kernel_rfl) (by kernel_rfl) (fun _ _ _ h => h) (Or.inl ⟨by kernel_rfl, fun wq2 hSw => ?_⟩) (by assumption) ?_
              · (try dsimp only at hSw); go_simp
              try simp only [Act.put, List.setIfInBounds_toArray, List.set_cons_zero, List.set_cons_succ]
              refine wpAnyH_take (i := 6) (v := .pointer (some (ad.add j))) (op_at rfl) (by kernel_rfl) (by kernel_rfl) (by kernel_rfl) (fun _ _ _ h => h) (Or.inl ⟨by kernel_rfl, fun wq2 hSw => ?_⟩) (by assumption) ?_
              · (try dsimp only at hSw); go_simp
              try simp only [Act.put, List.setIfInBounds_toArray, List.set_cons_zero, List.set_cons_succ]
              refine wpAnyH_take (i := 7) (v := .int .i64 x) (op_at rfl) (by kernel_rfl) (by kernel_rfl) (by kernel_rfl) (fun _ _ _ h => h) (Or.inl ⟨by kernel_rfl, fun wq2 hSw => ?_⟩) (by assumption) ?_
              · (try dsimp only at hSw); go_simp
              try simp only [Act.put, List.setIfInBounds_toArray, List.set_cons_zero, List.set_cons_succ]
              refine wpAnyH_take (i := 9) (v := .pointer (some ⟨s3, 0, none⟩)) (op_at rfl) (by kernel_rfl) (by kernel_rfl) (by kernel_rfl) (fun _ _ _ h => h) (Or.inl ⟨by kernel_rfl, fun wq2 hSw => ?_⟩) (by assumption) ?_
              · (try dsimp only at hSw); go_simp
              try simp only [Act.put, List.setIfInBounds_toArray, List.set_cons_zero, List.set_cons_succ]
              refine wpAnyH_take (i := 10) (v := .slice (some ad) N c14) (op_at rfl) (by kernel_rfl) (by kernel_rfl) (by kernel_rfl) (fun _ _ _ h => h) (Or.inl ⟨by kernel_rfl, fun wq2 hSw => ?_⟩) (by assumption) ?_
              · (try dsimp only at hSw); go_simp
              try simp only [Act.put, List.setIfInBounds_toArray, List.set_cons_zero, List.set_cons_succ]
              refine wpAnyH_take (i := 11) (v := .int .i64 (j : Int)) (op_at rfl) (by kernel_rfl) (by kernel_rfl) (by kernel_rfl) (fun _ _ _ h => h) (Or.inl ⟨by kernel_rfl, fun wq2 hSw => ?_⟩) (by assumption) ?_
              · (try dsimp only at hSw); go_simp
              try simp only [Act.put, List.setIfInBounds_toArray, List.set_cons_zero, List.set_cons_succ]
              refine wpAnyH_take (i := 12) (v := .pointer (some (ad.add j))) (op_at rfl) (by kernel_rfl) (by kernel_rfl) (by kernel_rfl) (fun _ _ _ h => h) (Or.inl ⟨by kernel_rfl, fun wq2 hSw => ?_⟩) (by assumption) ?_
              · (try dsimp only at hSw); go_simp
              try simp only [Act.put, List.setIfInBounds_toArray, List.set_cons_zero, List.set_cons_succ]
              refine wpAnyH_take (i := 13) (v := .int .i64 x) (op_at rfl) (by kernel_rfl) (by kernel_rfl) (by kernel_rfl) (fun _ _ _ h => h) (Or.inl ⟨by kernel_rfl, fun wq2 hSw => ?_⟩) (by assumption) ?_
              · (try dsimp only at hSw); go_simp
              try simp only [Act.put, List.setIfInBounds_toArray, List.set_cons_zero, List.set_cons_succ]
              refine wpAnyH_ready (rs := [8]) (by kernel_rfl) (by simp) ?_
              refine AllReadyH.cons (op_at rfl) (fun K hK => ?_) AllReadyH.nil
              rw [if_pos (by kernel_rfl)]
              go_wp2_with (first
                | (go_at_call 50; (with_reducible refine (HHA.out _ (by first | exact HFq.out | exact F17.out.drew)).mono ?_); rintro e wq ⟨rfl, hq⟩; have HFq := hid (Fr.trans (by first | exact HFq.out | exact F17.out.drew) hq); have dq := HFq.out.cell HC.out id; clear hq)
                | (go_at_call 50; (with_reducible refine (HHV.out _ (by first | exact HFq.out | exact F17.out.drew)).mono ?_); rintro e wq ⟨rfl, hq⟩; have HFq := hid (Fr.trans (by first | exact HFq.out | exact F17.out.drew) hq); have dq := HFq.out.cell HC.out id; clear hq)
                | (go_at_call 50; (with_reducible refine (HHW.out _ (by first | exact HFq.out | exact F17.out.drew)).mono ?_); rintro e wq ⟨rfl, hq⟩; have HFq := hid (Fr.trans (by first | exact HFq.out | exact F17.out.drew) hq); have dq := HFq.out.cell HC.out id; clear hq))
              refine hK.out _ _ dq (fun hHeld2 => ?_)
              try simp only [Act.put, List.setIfInBounds_toArray, List.set_cons_zero, List.set_cons_succ]
              refine wpAnyH_ready (rs := [14]) (by kernel_rfl) (by simp) ?_
              refine AllReadyH.cons (op_at rfl) (fun K hK => ?_) AllReadyH.nil
              rw [if_pos (by kernel_rfl)]
              go_wp2_with (first
                | (go_at_call 50; (with_reducible refine (HHA.out _ (by first | exact HFq.out | exact F17.out.drew)).mono ?_); rintro e wq ⟨rfl, hq⟩; have HFq := hid (Fr.trans (by first | exact HFq.out | exact F17.out.drew) hq); have dq := HFq.out.cell HC.out id; clear hq)
                | (go_at_call 50; (with_reducible refine (HHV.out _ (by first | exact HFq.out | exact F17.out.drew)).mono ?_); rintro e wq ⟨rfl, hq⟩; have HFq := hid (Fr.trans (by first | exact HFq.out | exact F17.out.drew) hq); have dq := HFq.out.cell HC.out id; clear hq)
                | (go_at_call 50; (with_reducible refine (HHW.out _ (by first | exact HFq.out | exact F17.out.drew)).mono ?_); rintro e wq ⟨rfl, hq⟩; have HFq := hid (Fr.trans (by first | exact HFq.out | exact F17.out.drew) hq); have dq := HFq.out.cell HC.out id; clear hq))
              refine hK.out _ _ dq (fun hHeld2 => ?_)
              try simp only [Act.put, List.setIfInBounds_toArray, List.set_cons_zero, List.set_cons_succ]
              refine wpAnyH_take (i := 15) (v := .bool true) (op_at rfl) (by kernel_rfl) (by kernel_rfl) (by kernel_rfl) (fun _ _ _ h => h) (Or.inl ⟨by kernel_rfl, fun wq2 hSw => ?_⟩) (by assumption) ?_
              · (try dsimp only at hSw); go_simp
              try simp only [Act.put, List.setIfInBounds_toArray, List.set_cons_zero, List.set_cons_succ]
              refine wpAnyH_take (i := 16) (v := undef) (op_at rfl) (by kernel_rfl) (by kernel_rfl) (by kernel_rfl) (fun _ _ _ h => h) (Or.inr ⟨by kernel_rfl, rfl⟩) (by assumption) ?_
              try simp only [Act.put, List.setIfInBounds_toArray, List.set_cons_zero, List.set_cons_succ]
              refine wpAnyH_take (i := 17) (v := undef) (op_at rfl) (by kernel_rfl) (by kernel_rfl) (by kernel_rfl) (fun _ _ _ h => h) (Or.inr ⟨by kernel_rfl, rfl⟩) (by assumption) ?_
              try simp only [Act.put, List.setIfInBounds_toArray, List.set_cons_zero, List.set_cons_succ]
              refine wpAnyH_take (i := 18) (v := undef) (op_at rfl) (by kernel_rfl) (by kernel_rfl) (by kernel_rfl) (fun _ _ _ h => h) (Or.inr ⟨by kernel_rfl, rfl⟩) (by assumption) ?_
              try simp only [Act.put, List.setIfInBounds_toArray, List.set_cons_zero, List.set_cons_succ]
              refine wpAnyH_take (i := 19) (v := undef) (op_at rfl) (by kernel_rfl) (by kernel_rfl) (by kernel_rfl) (fun _ _ _ h => h) (Or.inr ⟨by kernel_rfl, rfl⟩) (by assumption) ?_
              try simp only [Act.put, List.setIfInBounds_toArray, List.set_cons_zero, List.set_cons_succ]
              refine wpAnyH_take (i := 20) (v := undef) (op_at rfl) (by kernel_rfl) (by kernel_rfl) (by kernel_rfl) (fun _ _ _ h => h) (Or.inr ⟨by kernel_rfl, rfl⟩) (by assumption) ?_
              try simp only [Act.put, List.setIfInBounds_toArray, List.set_cons_zero, List.set_cons_succ]
              refine wpAnyH_take (i := 21) (v := undef) (op_at rfl) (by kernel_rfl) (by kernel_rfl) (by kernel_rfl) (fun _ _ _ h => h) (Or.inr ⟨by kernel_rfl, rfl⟩) (by assumption) ?_
              try simp only [Act.put, List.setIfInBounds_toArray, List.set_cons_zero, List.set_cons_succ]
              refine wpAnyH_take (i := 22) (v := .bool true) (op_at rfl) (by kernel_rfl) (by kernel_rfl) (by kernel_rfl) (fun _ _ _ h => h) (Or.inl ⟨by kernel_rfl, fun wq2 hSw => ?_⟩) (by assumption) ?_
              · (try dsimp only at hSw); go_simp
              try simp only [Act.put, List.setIfInBounds_toArray, List.set_cons_zero, List.set_cons_succ]
              refine wpAnyH_take (i := 23) (v := .bool false) (op_at rfl) (by kernel_rfl) (by kernel_rfl) (by kernel_rfl) (fun _ _ _ h => h) (Or.inl ⟨by kernel_rfl, fun wq2 hSw => ?_⟩) (by assumption) ?_
              · (try dsimp only at hSw); go_simp
              try simp only [Act.put, List.setIfInBounds_toArray, List.set_cons_zero, List.set_cons_succ]
              refine wpAnyH_take (i := 24) (v := .bool false) (op_at rfl) (by kernel_rfl) (by kernel_rfl) (by kernel_rfl) (fun _ _ _ h => h) (Or.inl ⟨by kernel_rfl, fun wq2 hSw => ?_⟩) (by assumption) ?_
              · (try dsimp only at hSw); go_simp
              try simp only [Act.put, List.setIfInBounds_toArray, List.set_cons_zero, List.set_cons_succ]
              refine wpAnyH_done (by kernel_rfl) ?_ _
              go_wp2_with fail
              exact ⟨⟨j + 1, by have := HJ.out; omega, rfl, by go_num, hid (HW.out.trans HFq.out)⟩, by simp [intOf]; have := HJ.out; omega⟩
            · rw [decide_eq_false (fun h => hB ((HMb.out x).1 h).2)] at HHV
              rw [decide_eq_true ((HMm.out x).2 ⟨hA, hB⟩)] at HHW
              rw [decide_eq_false (fun h => hB ((HMn.out x).1 h).1)] at HHX
              rw [decide_eq_true hA] at HHA
              clear hA hB hx
              go_upto_region 25 with (first
                | (go_at_call 50; (with_reducible refine (HHX.out w16 F16.out).mono ?_); rintro e w17 ⟨rfl, h17⟩; have F17 := hid (F16.out.trans h17); have k17 := (F16.out.trans h17).cell HC.out id; clear h17)
                | (go_at_call 50; (with_reducible refine (HHW.out w15 F15.out).mono ?_); rintro e w16 ⟨rfl, h16⟩; have F16 := hid (F15.out.trans h16); have k16 := (F15.out.trans h16).cell HC.out id; clear h16)
                | (go_at_call 50; (with_reducible refine (HHV.out wr (Fr.refl _ _)).mono ?_); rintro e w15 ⟨rfl, h15⟩; have F15 := hid h15; have k15 := h15.cell HC.out id; clear h15))
              go_region_held3 (fun w' => w'.cell? (ad.add j) = some (.int .i64 x)) (first | exact dq | exact k17 | go_keep)
                (first
                  | (go_at_call 50; (with_reducible refine (HHA.out _ (by first | exact HFq.out | exact F17.out.drew)).mono ?_); rintro e wq ⟨rfl, hq⟩; have HFq := hid (Fr.trans (by first | exact HFq.out | exact F17.out.drew) hq); have dq := HFq.out.cell HC.out id; clear hq)
                  | (go_at_call 50; (with_reducible refine (HHV.out _ (by first | exact HFq.out | exact F17.out.drew)).mono ?_); rintro e wq ⟨rfl, hq⟩; have HFq := hid (Fr.trans (by first | exact HFq.out | exact F17.out.drew) hq); have dq := HFq.out.cell HC.out id; clear hq)
                  | (go_at_call 50; (with_reducible refine (HHW.out _ (by first | exact HFq.out | exact F17.out.drew)).mono ?_); rintro e wq ⟨rfl, hq⟩; have HFq := hid (Fr.trans (by first | exact HFq.out | exact F17.out.drew) hq); have dq := HFq.out.cell HC.out id; clear hq))
              all_goals (
                go_wp2_with fail
                exact ⟨⟨j + 1, by have := HJ.out; omega, rfl, by go_num, hid (HW.out.trans HFq.out)⟩, by simp [intOf]; have := HJ.out; omega⟩)
          · have hB : x ∈ KB := hx.resolve_left hA
            rw [decide_eq_false (fun h => hA ((HMb.out x).1 h).1)] at HHV
            rw [decide_eq_false (fun h => hA ((HMm.out x).1 h).1)] at HHW
            rw [decide_eq_true ((HMn.out x).2 ⟨hB, hA⟩)] at HHX
            rw [decide_eq_false hA] at HHA
            clear hA hB hx
            go_upto_region 25 with (first
              | (go_at_call 50; (with_reducible refine (HHX.out w16 F16.out).mono ?_); rintro e w17 ⟨rfl, h17⟩; have F17 := hid (F16.out.trans h17); have k17 := (F16.out.trans h17).cell HC.out id; clear h17)
              | (go_at_call 50; (with_reducible refine (HHW.out w15 F15.out).mono ?_); rintro e w16 ⟨rfl, h16⟩; have F16 := hid (F15.out.trans h16); have k16 := (F15.out.trans h16).cell HC.out id; clear h16)
              | (go_at_call 50; (with_reducible refine (HHV.out wr (Fr.refl _ _)).mono ?_); rintro e w15 ⟨rfl, h15⟩; have F15 := hid h15; have k15 := h15.cell HC.out id; clear h15))
            go_region_held3 (fun w' => w'.cell? (ad.add j) = some (.int .i64 x)) (first | exact dq | exact k17 | go_keep)
              (first
                | (go_at_call 50; (with_reducible refine (HHA.out _ (by first | exact HFq.out | exact F17.out.drew)).mono ?_); rintro e wq ⟨rfl, hq⟩; have HFq := hid (Fr.trans (by first | exact HFq.out | exact F17.out.drew) hq); have dq := HFq.out.cell HC.out id; clear hq)
                | (go_at_call 50; (with_reducible refine (HHV.out _ (by first | exact HFq.out | exact F17.out.drew)).mono ?_); rintro e wq ⟨rfl, hq⟩; have HFq := hid (Fr.trans (by first | exact HFq.out | exact F17.out.drew) hq); have dq := HFq.out.cell HC.out id; clear hq)
                | (go_at_call 50; (with_reducible refine (HHW.out _ (by first | exact HFq.out | exact F17.out.drew)).mono ?_); rintro e wq ⟨rfl, hq⟩; have HFq := hid (Fr.trans (by first | exact HFq.out | exact F17.out.drew) hq); have dq := HFq.out.cell HC.out id; clear hq))
            all_goals (
              go_wp2_with fail
              exact ⟨⟨j + 1, by have := HJ.out; omega, rfl, by go_num, hid (HW.out.trans HFq.out)⟩, by simp [intOf]; have := HJ.out; omega⟩)
        · have hj' : j = N := by omega
          have hlI : ¬ (N : Int) < N := by omega
          rw [hj']
          clear hlt hj
          have hTA := TA.out.new (F14.out.trans HW.out)
          have HFw := hid (HFs.out.trans (F14.out.trans HW.out))
          have HTA := hid (fun wz (hf : Fr Nil1 wr wz) => hTA.new hf)
          have hbo := fun wz (hf : Fr Nil1 wr wz) => bulkBoth_any (HTA.out wz hf) (HTA.out wz hf) (by have := HZ.out; omega) (HG.out _ (HFw.out.trans hf))
          rw [HSf.out] at hbo
          have hmi := fun wz (hf : Fr Nil1 wr wz) => bulkMinus_any (HTA.out wz hf) (HTA.out wz hf) (by have := HZ.out; omega) (HG.out _ (HFw.out.trans hf))
          rw [HSn.out] at hmi
          have hun := fun wz (hf : Fr Nil1 wr wz) (sn : Nat) (wn : World) (hn : SS wn sn [] wz) => bulkUnion_any (HTA.out wz hf) hn (by have := HZ.out; show KA.length + 0 ≤ 2560; omega) (HG.out _ (HFw.out.trans hf))
          rw [HSu.out] at hun
          have HBO := hid hbo
          have HMI := hid hmi
          have HUN := hid hun
          clear hTA hbo hmi hun
          go_upto_region 30 with (first
            | (go_at_call 58; (with_reducible refine (HUN.out w20 F20.out s20 _ H20.out).mono ?_); rintro e w21 ⟨s21, rfl, H21⟩; have F21 := hid (F20.out.trans H21.out.fr))
            | (go_at_call 64; (with_reducible refine (SS.start w19 (HG.out _ (HFw.out.trans F19.out))).mono ?_); rintro e w20 ⟨s20, rfl, H20⟩; have F20 := hid (F19.out.trans H20.out.fr))
            | (go_at_call 62; (with_reducible refine (HMI.out w18 F18.out).mono ?_); rintro e w19 ⟨s19, rfl, H19⟩; have F19 := hid (F18.out.trans H19.out.fr))
            | (go_at_call 59; (with_reducible refine (HBO.out wr (Fr.refl _ _)).mono ?_); rintro e w18 ⟨s18, rfl, H18⟩; have F18 := hid H18.out.fr))
          have T18 := hid (H18.out.new (H19.out.fr.trans (H20.out.fr.trans H21.out.fr)))
          have T19 := hid (fun wz (hf : Fr Nil1 w21 wz) => ((H19.out.new (H20.out.fr.trans H21.out.fr)).new hf).len)
          rw [show ((([] : List Int).length : Nat) : Int) = 0 from rfl] at T19
          go_wp2_with (first
            | (go_at_call 56; (with_reducible refine (HAw.out w27 (HFw.out.trans (F21.out.trans F27.out))).mono ?_); rintro e w28 ⟨rfl, h28⟩; have F28 := hid h28; clear h28)
            | (go_at_call 60; refine (ints16_eq KA KA _ _ w26 (H25.out.1.new H26.out.2) H26.out.1 rfl).mono ?_; rintro e w27 ⟨rfl, h27⟩; have F27 := hid (F24.out.trans (H25.out.2.trans (H26.out.2.trans h27))); clear h27)
            | (go_at_call 51; (with_reducible refine ((HTA.out w25 (F21.out.trans (F24.out.trans H25.out.2))).keys).mono ?_); rintro e w26 ⟨A26, c26, rfl, H26⟩)
            | (go_at_call 51; (with_reducible refine ((H21.out.new F24.out).keys).mono ?_); rintro e w25 ⟨A25, c25, rfl, H25⟩)
            | (go_at_call 63; (with_reducible refine (T19.out w24 F24.out).mono ?_); rintro e wl ⟨rfl, rfl⟩)
            | (go_at_call 60; refine (ints16_eq KA KA _ _ w23 (H22.out.1.new H23.out.2) H23.out.1 rfl).mono ?_; rintro e w24 ⟨rfl, h24⟩; have F24 := hid (H22.out.2.trans (H23.out.2.trans h24)); clear h24)
            | (go_at_call 51; (with_reducible refine ((HTA.out w22 (F21.out.trans H22.out.2)).keys).mono ?_); rintro e w23 ⟨A23, c23, rfl, H23⟩)
            | (go_at_call 51; (with_reducible refine (T18.out.keys).mono ?_); rintro e w22 ⟨A22, c22, rfl, H22⟩))
          go_ret
          exact ⟨rfl, (HFw.out.trans (F21.out.trans F27.out)).trans F28.out⟩
end Go.Proofs.YtechphliifginaaGreatDoor
