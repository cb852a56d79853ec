/- SetOrder, as it is called: the walk. -/
import Derived.Test.YtgmnnafcflmjdaaGreatDoorUT
import Derived.Test.YtgmnnafcflmjdaaGreatDoorSL
import Derived.Test.YtgmnnafcflmjdaaGreatDoorEF
import Derived.Deep.Cut
import Derived.BigRegion
set_option linter.unusedVariables false
set_option linter.unusedSimpArgs false
namespace Go.Proofs.YtgmnnafcflmjdaaGreatDoor
open Go.RowKit

/-- The row whose order is changed. -/
structure RoS (w0 : World) (g n : Nat) (l ys : List Int) (rest : List Value) (w : World) : Prop where
  has : Has w g (ints' ys ++ rest) 3
  fr : Fr Nil1 w0 w
  ge : w0.heap.size ≤ g
  len : ys.length = n
  mem : ∀ y, y ∈ ys ↔ y ∈ l
section
variable {w0 w w' : World} {g n : Nat} {l ys : List Int} {rest : List Value}
theorem RoS.new (H : RoS w0 g n l ys rest w) (hf : Fr Nil1 w w') : RoS w0 g n l ys rest w' := ⟨H.has.fr' hf id, H.fr.trans hf, H.ge, H.len, H.mem⟩
theorem RoS.cell (H : RoS w0 g n l ys rest w) {i : Nat} (hi : i < n) : w.cell? ⟨g, i, none⟩ = some (.int .i64 (ys.getD i 0)) := by
  have h := H.has.cell i
  rw [List.getElem?_append_left (by rw [ints'_length, H.len]; exact hi), ints'_get ys i (by rw [H.len]; exact hi)] at h
  exact h
theorem RoS.swap (H : RoS w0 g n l ys rest w) (hG : NG ≤ w0.heap.size) {a b : Nat} (ha : a < n) (hb : b < n) : RoS w0 g n l (swL ys a b) rest ((w.setCell ⟨g, a, none⟩ (.int .i64 (ys.getD b 0))).setCell ⟨g, b, none⟩ (.int .i64 (ys.getD a 0))) := by
  have h1 := (H.has.set a (.int .i64 (ys.getD b 0))).set b (.int .i64 (ys.getD a 0))
  rw [ints'_set ys rest a _ (by rw [H.len]; exact ha), ints'_set _ rest b _ (by rw [List.length_set, H.len]; exact hb)] at h1
  exact ⟨h1, (H.fr.setNew _ _ hG H.ge).setNew _ _ hG H.ge, H.ge, by rw [swL_length, H.len], fun y => (mem_swL (by rw [H.len]; exact ha) (by rw [H.len]; exact hb) y).trans (H.mem y)⟩
end
/-- A row that is not nil lies in a block. -/
theorem RowI.block {w : World} {base : Nat} {v : Value} {xs : List Int} (h : RowI w base v xs) (hn : v ≠ .slice none 0 0) : ∃ (g cap : Nat) (rest : List Value), v = .slice (some ⟨g, 0, none⟩) xs.length cap ∧ base ≤ g ∧ Has w g (ints' xs ++ rest) 3 := by
  rcases h.2 with ⟨e, _⟩ | ⟨g, cap, cur, e, hg, hh, h1, h2, h3, h4⟩
  · exact absurd e hn
  · refine ⟨g, cap, cur.toList.drop xs.length, e, hg, ?_⟩
    have : ints' xs ++ cur.toList.drop xs.length = cur.toList := by
      rw [Nat.mul_one] at h4
      show xs.map (Value.int .i64) ++ _ = _
      rw [← h4]
      exact List.take_append_drop _ _
    unfold Has
    rw [this, Array.toArray_toList]
    exact hh
set_option maxRecDepth 100000 in
set_option maxHeartbeats 8000000 in
theorem setOrder_any (l sw : List Int) (u v : Value) (w : World) (hu : Rd w u (ints' l)) (hv : Rd w v (ints' sw)) (hg : GW w) : Calls Tryz.prog 6 #[u, v] w fun e w' => e = .returned (.bool true) ∧ Fr Nil1 w w' := by
  have HAw := hid (fun w' (hf : Fr Nil1 w w') => awake_any w' (hg.fr hf))
  have HSt := hid (fun w' (hf : Fr Nil1 w w') => SS.start w' (hg.fr hf))
  have HNw := hid (fun w' (hf : Fr Nil1 w w') => setNew_any w' (hg.fr hf))
  have hu0 := hu
  have hv0 := hv
  obtain ⟨A, c, rfl, hb, hA⟩ := hu
  obtain ⟨B, d, rfl, hb2, hB⟩ := hv
  rw [ints'_length] at hu0 hv0 hb hb2 ⊢
  rw [ints'_length]
  have HU := hid hu0
  have HV := hid hv0
  have HG := hid hg.size
  clear hA hB hb hb2 hg hu0 hv0
  by_cases h1 : 150 < l.length
  · have hI : (150 : Int) < (l.length : Int) := by omega
    go_enter Tryz.func6, Tryz.ntmps6
    go_wp2_with (go_at_call 11; refine (HAw.out _ (Fr.refl _ _)).mono ?_; rintro e w4 ⟨rfl, H4⟩)
    go_ret
    exact ⟨rfl, H4⟩
  have hI : ¬ (150 : Int) < (l.length : Int) := by omega
  by_cases h2 : 150 < sw.length
  · have hJ : (150 : Int) < (sw.length : Int) := by omega
    go_enter Tryz.func6, Tryz.ntmps6
    go_wp2_with (go_at_call 11; refine (HAw.out _ (Fr.refl _ _)).mono ?_; rintro e w4 ⟨rfl, H4⟩)
    go_ret
    exact ⟨rfl, H4⟩
  have hJ : ¬ (150 : Int) < (sw.length : Int) := by omega
  have HL := hid h1
  have HLs := hid h2
  clear h1 h2
  go_enter Tryz.func6, Tryz.ntmps6
  go_upto_region 4 with (at_builtin; refine append_rd rfl (.tmp 30) (.tmp 31) rfl rfl (ApJ.start w).row rfl (HU.out.new ((Fr.refl _ _).alloc _)) (by have := HL.out; simp; omega) (by simp) ?_; intro v1 w1 h1 h2 h3; have H1 := hid (And.intro h1 (And.intro ((ApJ.start w).step HG.out h1 h2) h3)); clear h1 h2 h3)
  have hne : v1 ≠ .slice none 0 0 := fun e => by have := (H1.out.2.2.1 e).1; cases this
  obtain ⟨g, cap, rest, rfl, hge, hhas⟩ := RowI.block (show RowI w1 w.heap.size v1 l from H1.out.1) hne
  have HR := hid (show RoS w g l.length l l rest w1 from ⟨hhas, H1.out.2.1.fr, hge, rfl, fun y => Iff.rfl⟩)
  clear hne hge hhas H1
  obtain ⟨n, hn⟩ : ∃ n, l.length = n := ⟨_, rfl⟩
  have HN := hid hn
  rw [hn] at HR hI ⊢
  go_wp2_with fail
  go_loopw [6, 7, 8] (fun i _ _ wr => ∃ (k : Nat) (ys : List Int), k ≤ 152 ∧ i = .int .i64 k ∧ Hid (RoS w g n l ys rest wr)) (fun i _ _ _ => (sw.length - intOf i).toNat)
  case atStart => exact ⟨0, l, by omega, rfl, HR⟩
  case round =>
    obtain ⟨k, ys, hk, rfl, HW⟩ := hrel
    by_cases hlt : k + 1 < sw.length ∧ 0 < n
    · have hn0 : (0 : Int) < (n : Int) := by omega
      obtain ⟨k', hk'⟩ : ∃ k', k + 1 = k' := ⟨_, rfl⟩
      have hk1 : (k' : Int) < (sw.length : Int) := by omega
      have hk3 : (0 : Int) ≤ (k' : Int) := by omega
      have hk2 : (k : Int) < (sw.length : Int) := by omega
      have e0 : IntKind.i64.wrap ((k : Int) + 1) = (k' : Int) := by rw [show (k : Int) + 1 = (k' : Int) by omega]; exact IntWalk.i64_in _ (by omega)
      obtain ⟨A2, c2, e2, _, hA2⟩ := HV.out.new HW.out.fr
      rw [ints'_length] at e2 hA2
      injection e2 with e3 e4 e5
      subst e3
      subst e5
      obtain ⟨ad, rfl, hc⟩ := hA2 (by omega)
      have d1 := hc k _ (ints'_get sw k (by omega))
      have d2 := hc k' _ (ints'_get sw k' (by omega))
      have hmd : ∀ x : Int, ∃ a : Nat, a < n ∧ (-(n : Int) < Int.tmod x n ∧ Int.tmod x n < n) ∧ Int.tmod (Int.tmod x n + n) n = (a : Int) := fun x => by
        have a1 := Int.tmod_lt_of_pos x hn0
        have a2 := Int.lt_tmod_of_pos x hn0
        have b1 := Int.tmod_lt_of_pos (Int.tmod x n + n) hn0
        have b2 := Int.tmod_nonneg (n : Int) (show 0 ≤ Int.tmod x n + n by omega)
        exact ⟨(Int.tmod (Int.tmod x n + n) n).toNat, by omega, ⟨a2, a1⟩, by omega⟩
      obtain ⟨a, ha, ha2, ha3⟩ := hmd (sw.getD k 0)
      obtain ⟨b, hb, hb2, hb3⟩ := hmd (sw.getD k' 0)
      have HK := hid (And.intro hk (And.intro hlt hk'))
      have HAB := hid (And.intro ha hb)
      have hw1 : IntKind.i64.wrap (Int.tmod (sw.getD k 0) n + n) = Int.tmod (sw.getD k 0) n + n := IntWalk.i64_in _ (by omega)
      have hw2 : IntKind.i64.wrap (Int.tmod (sw.getD k' 0) n + n) = Int.tmod (sw.getD k' 0) n + n := IntWalk.i64_in _ (by omega)
      have hnz : (n : Int) ≠ 0 := by omega
      have ra := HW.out.cell ha
      have rb := HW.out.cell hb
      have rf := HW.out.has.frozen
      have rb2 : (wr.setCell ⟨g, a, none⟩ (.int .i64 (ys.getD b 0))).cell? ⟨g, b, none⟩ = some (.int .i64 (ys.getD b 0)) := by
        have h := (HW.out.has.set a (.int .i64 (ys.getD b 0))).cell b
        rw [ints'_set ys rest a _ (by rw [HW.out.len]; exact ha), List.getElem?_append_left (by rw [ints'_length, List.length_set, HW.out.len]; exact hb), ints'_get _ b (by rw [List.length_set, HW.out.len]; exact hb)] at h
        rw [h]
        congr 2
        rw [List.getD_eq_getElem?_getD, List.getElem?_set]
        split
        · rename_i e; rw [if_pos (by rw [HW.out.len]; exact ha)]; rfl
        · rw [List.getD_eq_getElem?_getD]
      have HSw := hid (HW.out.swap HG.out ha hb)
      have hai : (a : Int) < (n : Int) := by omega
      have hbi : (b : Int) < (n : Int) := by omega
      clear hmd hc hA2 hlt hk hk' ha hb ha2 hb2
      generalize sw.getD k 0 = x at *
      generalize sw.getD k' 0 = y at *
      generalize ys.getD a 0 = p at *
      generalize ys.getD b 0 = q at *
      go_upto_region 9 with fail
      go_region
      all_goals (
        go_wp2_with fail
        exact ⟨⟨k + 2, _, by have := HK.out; have := HLs.out; omega, by go_num, hid (HSw.out.new (Fr.refl Nil1 _).drew)⟩, by have := HK.out; simp [intOf]; omega⟩)
    · have hex : decide ((k : Int) + 1 < (sw.length : Int)) = false ∨ (decide ((k : Int) + 1 < (sw.length : Int)) = true ∧ decide ((0 : Int) < (n : Int)) = false ∧ decide (0 < n) = false) := by
        by_cases h : k + 1 < sw.length
        · exact .inr ⟨decide_eq_true (by omega), decide_eq_false (by omega), decide_eq_false (by omega)⟩
        · exact .inl (decide_eq_false (by omega))
      have e0 : IntKind.i64.wrap ((k : Int) + 1) = (k : Int) + 1 := IntWalk.i64_in _ (by omega)
      clear hlt hk
      obtain ⟨W1, hW1⟩ : ∃ W1, W1 = wr := ⟨_, rfl⟩
      subst hW1
      have en : its (List.replicate 32 (none : Option Int)) = [] := by decide
      have HEn := hid en
      clear en
      rcases hex with hd | ⟨hd, hd2, hd3⟩
      all_goals (
        go_upto_region 13 with (first
          | (go_at_call 12; (with_reducible refine (HNw.out w5 (HW.out.fr.trans H5.out.fr)).mono ?_); rintro e w6 ⟨t, p2, F2, rfl, H6⟩)
          | (go_at_call 12; (with_reducible refine (HSt.out W1 HW.out.fr).mono ?_); rintro e w5 ⟨s, rfl, H5⟩))
        (try clear hd)
        (try clear hd2 hd3)
        have HSS := hid (HEn.out ▸ (H5.out.beside.andNew H6.out.1 H6.out.2) : SS2 W1 s t [] [] (fun _ => False) w6)
        clear H5 H6
        go_loopw [4, 11, 12, 13, 14, 15] (fun r i _ _ _ _ wx => ∃ (j : Nat) (ks kt : List Int), j ≤ n ∧ r = .bool false ∧ i = .int .i64 j ∧ Hid (SS2 W1 s t ks kt (fun _ => False) wx ∧ (∀ y, y ∈ ks ↔ y ∈ l.take j) ∧ (∀ y, y ∈ kt ↔ y ∈ ys.take j) ∧ ks.length ≤ j ∧ kt.length ≤ j)) (fun _ i _ _ _ _ _ => (n - intOf i).toNat)
        case atStart => exact ⟨0, [], [], by omega, rfl, rfl, hid ⟨HSS.out, by simp, by simp, by simp, by simp⟩⟩
        case round =>
          obtain ⟨j, ks, kt, hj, rfl, rfl, HX⟩ := hrel
          have HFx := hid HX.out.1.left.fr
          by_cases hjn : j < n
          · have hjI : (j : Int) < (n : Int) := by omega
            have hj0 : (0 : Int) ≤ (j : Int) := by omega
            have hjb : (j : Int) < 150 := by omega
            obtain ⟨A2, c2, e2, _, hA2⟩ := HU.out.new (HW.out.fr.trans HFx.out)
            rw [ints'_length] at e2 hA2
            injection e2 with e3 e4 e5
            subst e3
            subst e5
            obtain ⟨ad, rfl, hc⟩ := hA2 (by have := HN.out; omega)
            have d1 := hc j _ (ints'_get l j (by have := HN.out; omega))
            have HJ := hid (And.intro hj hjn)
            have HI1 := hid (HX.out.1.insert (by have := HX.out.2.2.2.1; omega) (l.getD j 0))
            clear hc hA2 hj hjn
            have HTk := hid (take_get (l := l) (k := j) (by have := HN.out; have := HJ.out; omega))
            have HTy := hid (take_get (l := ys) (k := j) (by have := HW.out.len; have := HJ.out; omega))
            have HRo := hid (fun wz (hf : Fr Nil1 W1 wz) => (HW.out.new hf).cell (i := j) (by have := HJ.out; omega))
            generalize l.getD j 0 = x at *
            generalize ys.getD j 0 = y at *
            go_upto_region 19 with (first
              | (go_at_call 14; (with_reducible refine HI2.out.mono ?_); rintro e w8 ⟨S2, er2, rfl, her2, H8⟩; have HE2 := hid her2; clear her2)
              | (go_at_call 14; (with_reducible refine HI1.out.mono ?_); rintro e w7 ⟨S1, er1, rfl, her1, H7⟩; have HE1 := hid her1; clear her1; have HY := hid (H7.out.1.new ((Fr.refl Nil1 w7).alloc (.cells #[.int .i64 S1.k, .int .i64 S1.f, .int .i64 S1.s, .int .i64 S1.c] 30))); have d2 := HRo.out _ HY.out.left.fr; have HI2 := hid (HY.out.symm.insert (by have := HX.out.2.2.2.2; have := HJ.out; omega) y)))
            rcases HE1.out with rfl | rfl <;> rcases HE2.out with rfl | rfl
            all_goals (
              go_wp2_with fail
              refine ⟨⟨j + 1, putA ks x, putA kt y, by have := HJ.out; omega, rfl, by go_num, hid ⟨(H8.out.1.new ((Fr.refl Nil1 w8).alloc (.cells #[.int .i64 S2.k, .int .i64 S2.f, .int .i64 S2.s, .int .i64 S2.c] 30))).symm, fun z => ?_, fun z => ?_, ?_, ?_⟩⟩, by have := HJ.out; simp [intOf]; omega⟩
              · rw [mem_putA, HX.out.2.1 z, HTk.out, List.mem_append, List.mem_singleton]; exact or_comm
              · rw [mem_putA, HX.out.2.2.1 z, HTy.out, List.mem_append, List.mem_singleton]; exact or_comm
              · have := putA_length ks x; have := HX.out.2.2.2.1; omega
              · have := putA_length kt y; have := HX.out.2.2.2.2; omega)
          · have hjI : ¬ (j : Int) < (n : Int) := by omega
            have hjn' : j = n := by omega
            have hMk : ∀ y, y ∈ ks ↔ y ∈ l := fun y => by rw [HX.out.2.1 y, List.take_of_length_le (by have := HN.out; omega)]
            have hMt : ∀ y, y ∈ kt ↔ y ∈ ys := fun y => by rw [HX.out.2.2.1 y, List.take_of_length_le (by have := HW.out.len; omega)]
            have hkt : ks = kt := up_ext HX.out.1.left.up HX.out.1.right.up (fun y => by rw [hMk, hMt]; exact (HW.out.mem y).symm)
            have HMk := hid hMt
            have HLk := hid (show kt.length ≤ 150 by have := HX.out.2.2.2.2; have := HL.out; have := HN.out; omega)
            obtain ⟨W2, hW2⟩ : ∃ W2, W2 = wr := ⟨_, rfl⟩
            subst hW2
            subst hkt
            clear hjn' hMk hMt hj hjn
            go_upto_region 25 with (first
              | (go_at_call 34; (with_reducible refine (ints_any ks ks vk vt w12 (HK11.out.2.rd (by have := HLk.out; omega)) (H12.out.1.rd (by have := HLk.out; omega))).mono ?_); rintro e w13 ⟨rfl, H13⟩; have HF13 := hid H13; clear H13)
              | (go_at_call 17; (with_reducible refine (HX.out.1.right.new (H10.out.2.trans H11.out.2)).keysR.mono ?_); rintro e w12 ⟨vt, rfl, H12⟩; have HK11 := hid (And.intro (H11.out.1.new H12.out.2) ((H10.out.1.new H11.out.2).new H12.out.2)))
              | (go_at_call 33; (with_reducible refine HP.out.clone.mono ?_); rintro e w11 ⟨cc, rfl, H11⟩)
              | (go_at_call 17; (with_reducible refine HX.out.1.left.keysR.mono ?_); rintro e w10 ⟨vk, rfl, H10⟩; have HP := hid (HX.out.1.left.beside.fresh (B' := fun b => vk.ownBlock = some b) H10.out.2 (fun b hb => .inr ⟨(H10.out.1.own_lt b hb).2, (H10.out.1.own_lt b hb).1⟩))))
            have HS3 := hid (And.intro (HK11.out.1.new HF13.out) (HK11.out.2.new HF13.out))
            clear HP HK11 H12 H11 H10
            go_wp2_with fail
            go_loopw [4, 18, 19, 20] (fun r i _ _ wx => ∃ (m : Nat) (kz : List Int), m ≤ n ∧ r = .bool false ∧ i = .int .i64 m ∧ Hid (SS2 W1 s cc kz ks (fun b => vk.ownBlock = some b) wx ∧ RowI wx W2.heap.size vk ks ∧ (∀ y, y ∈ kz ↔ y ∈ ks ∧ y ∉ ys.take m) ∧ kz.length ≤ ks.length)) (fun _ i _ _ _ => (n - intOf i).toNat)
            case atStart => exact ⟨0, ks, by omega, rfl, rfl, hid ⟨HS3.out.1, HS3.out.2, by simp, Nat.le_refl _⟩⟩
            case round =>
              obtain ⟨m, kz, hm, rfl, rfl, HX3⟩ := hrel
              by_cases hmn : m < n
              · have hmI : (m : Int) < (n : Int) := by omega
                have hm0 : (0 : Int) ≤ (m : Int) := by omega
                have hmb : (m : Int) < 150 := by have := HL.out; have := HN.out; omega
                have d1 := (HW.out.new HX3.out.1.left.fr).cell hmn
                have HTy := hid (take_get (l := ys) (k := m) (by have := HW.out.len; omega))
                have HD1 := hid (HX3.out.1.delete (by have := HX3.out.2.2.2; have := HLk.out; omega) (ys.getD m 0))
                have HJ3 := hid (And.intro hm hmn)
                clear hm hmn
                generalize ys.getD m 0 = x at *
                go_upto_region 29 with (go_at_call 13; (with_reducible refine HD1.out.mono ?_); rintro e w14 ⟨S3, er3, rfl, her3, H14⟩; have HE3 := hid her3; clear her3)
                rcases HE3.out with rfl | rfl
                all_goals (
                  go_wp2_with fail
                  refine ⟨⟨m + 1, delA kz x, by have := HJ3.out; omega, rfl, by go_num, hid ⟨H14.out.1.new ((Fr.refl Nil1 w14).alloc _), (HX3.out.2.1.same H14.out.2).new ((Fr.refl Nil1 w14).alloc _), fun z => ?_, ?_⟩⟩, by have := HJ3.out; simp [intOf]; omega⟩
                  · rw [mem_delA HX3.out.1.left.up, HX3.out.2.2.1 z, HTy.out, List.mem_append, List.mem_singleton, not_or, and_assoc]
                  · have := delA_length HX3.out.1.left.up x; have := HX3.out.2.2.2; omega)
              · have hmI : ¬ (m : Int) < (n : Int) := by omega
                have hkz : kz = [] := List.eq_nil_iff_forall_not_mem.2 (fun y hy => by
                  have h := (HX3.out.2.2.1 y).1 hy
                  rw [List.take_of_length_le (by have := HW.out.len; omega)] at h
                  exact h.2 ((HMk.out y).1 h.1))
                subst hkz
                clear hm hmn
                have HLn := hid HX3.out.1.left.len
                have HCp := hid (HX3.out.1.left.capNone rfl)
                have HKn := hid HX3.out.1.left.keys
                go_wp2_with (first
                  | (go_at_call 11; (with_reducible refine (HAw.out w17 HF17.out).mono ?_); rintro e w18 ⟨rfl, H18⟩; have HF18 := hid H18; clear H18)
                  | (go_at_call 34; (with_reducible refine (ints_any ks ks vc vk w16 (H16.out.1.rd (by have := HLk.out; omega)) (((HX3.out.2.1.new H15.out.2).new H16.out.2).rd (by have := HLk.out; omega))).mono ?_); rintro e w17 ⟨rfl, H17⟩; have HF17 := hid ((HW.out.fr.trans HX3.out.1.left.fr).trans ((H15.out.2.trans H16.out.2).trans H17)); clear H17)
                  | (go_at_call 17; (with_reducible refine (HX3.out.1.right.new H15.out.2).keysR.mono ?_); rintro e w16 ⟨vc, rfl, H16⟩)
                  | (go_at_call 17; (with_reducible refine HKn.out.mono ?_); rintro e w15 ⟨A5, c5, rfl, H15⟩)
                  | (go_at_call 35; (with_reducible refine HCp.out.mono ?_); rintro e w19 ⟨rfl, rfl⟩)
                  | (go_at_call 16; (with_reducible refine HLn.out.mono ?_); rintro e w20 ⟨rfl, rfl⟩))
                go_ret
                exact ⟨by simp, HF17.out.trans HF18.out⟩)
end Go.Proofs.YtgmnnafcflmjdaaGreatDoor
