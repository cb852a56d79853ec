/- ScanFew, as it is called: the walk. -/
import Derived.Test.YtechphliifginaaGreatDoorTF
import Derived.Test.YtechphliifginaaGreatDoorBP
import Derived.Test.YtechphliifginaaGreatDoorCN
import Derived.Deep.Cut
import Derived.StillTail
import Derived.StillTactics
set_option linter.unusedVariables false
set_option linter.unusedSimpArgs false
namespace Go.Proofs.YtechphliifginaaGreatDoor
open Go.RowKit

set_option maxRecDepth 100000 in
set_option maxHeartbeats 8000000 in
theorem scanFew_any (u v : Value) (l : List Int) (acts : List AcS) (lo n : Int) (w : World) (hu : Rd w u (ints' l)) (hv : RdAm w v acts) (hg : GW w) : Calls Tryz.prog 9 #[.agg #[u, v], .int .i64 lo, .int .i64 n] w fun e w' => e = .returned (.bool true) ∧ Fr Nil1 w w' := by
  have HAw := hid (fun w' (hf : Fr Nil1 w w') => awake14_any w' (hg.fr hf))
  have HMany := hid (fun (hN : 100 < acts.length) w' (hf : Fr Nil1 w w') => set14_many u acts (hu.new hf) (hv.new hf) hN)
  have HAny := hid (fun (hN : acts.length ≤ 100) w' (hf : Fr Nil1 w w') => set14_any u acts (hu.new hf) (hv.new hf) hN (hg.fr hf))
  have HGw := hid hg
  obtain ⟨A, c, rfl, _, _⟩ := hu
  obtain ⟨B, d, rfl, _, _⟩ := hv
  rw [ints'_length] at HMany HAny ⊢
  have hb := Has.new w [.slice A l.length c, .slice B acts.length d] 52
  have HBx := hid hb
  have c0 := hb.cell 0
  have c1 := hb.cell 1
  have HF := hid (show Fr Nil1 w (w.alloc (.cells #[.slice A l.length c, .slice B acts.length d] 52)) from (Fr.refl _ _).alloc _)
  clear hb hg
  by_cases hN : 100 < acts.length
  · have hI : (100 : Int) < (acts.length : Int) := by omega
    have HM := hid (HMany.out hN _ HF.out)
    clear hN HMany HAny
    go_enter Tryz.func9, Tryz.ntmps9
    go_wp2_with (first
      | (go_at_call 34; (with_reducible refine (HAw.out w1 (HF.out.trans HF1.out)).mono ?_); rintro e w2 ⟨rfl, h2⟩; have HF2 := hid h2; clear h2)
      | (go_at_call 33; (with_reducible refine HM.out.mono ?_); rintro e w1 ⟨rfl, h1⟩; have HF1 := hid h1; have k0 := (HBx.out.fr' h1 id).cell 0; have k1 := (HBx.out.fr' h1 id).cell 1; clear h1))
    go_ret
    exact ⟨rfl, (HF.out.trans HF1.out).trans HF2.out⟩
  · have HM := hid (HAny.out (by omega) _ HF.out)
    clear hN HMany HAny
    go_enter Tryz.func9, Tryz.ntmps9
    go_upto_region 4 with (go_at_call 33; (with_reducible refine HM.out.mono ?_); rintro e w2 ⟨s, vk, rfl, ks, H2⟩)
    have HF2 := hid (HF.out.trans H2.out.set.ss.fr)
    have HGd := hid (HGw.out.fr HF2.out).size
    by_cases hn : n < 0
    · have HT := hid (scanTake_neg s lo n hn HGd.out)
      go_wp2_with (first
        | (go_at_call 34; (with_reducible refine (HAw.out w3 (HF2.out.trans HF3.out)).mono ?_); rintro e w4 ⟨rfl, h4⟩; have HF4 := hid h4; clear h4)
        | (go_at_call 35; (with_reducible refine HT.out.mono ?_); rintro e w3 ⟨rfl, h3⟩; have HF3 := hid h3; clear h3))
      go_ret
      exact ⟨rfl, (HF2.out.trans HF3.out).trans HF4.out⟩
    · obtain ⟨p, F, σ, h, evs, a, hks, _⟩ := H2.out.set.ex
      have HT := hid (scanTake_at a lo n (by omega))
      have HS := hid H2.out.set.ss
      have HRg := hid H2.out.rng
      have HLn := hid H2.out.len
      have HA := hid (And.intro a hks)
      have HN := hid hn
      clear H2 a hks
      go_upto_region 7 with (go_at_call 35; (with_reducible refine HT.out.mono ?_); rintro e w3 ⟨v, ys, rfl, H3⟩)
      obtain ⟨A3, c3, rfl⟩ := H3.out.1.slice
      have HF3 := hid (HF2.out.trans H3.out.2.2)
      have HS3 := hid (HS.out.new H3.out.2.2)
      have hD := HA.out.1.row.d
      have hFew := H3.out.2.1.few HA.out.1.up hD
      have hCnt := H3.out.2.1.count (by have := HN.out; omega)
      have hMost := hFew.most hD.h2
      have HMo := hid (scanMost_ok (ys.length : Int) h (by omega) hD.h2 hD.h9)
      have HCp := hid (fun wz (hf : Fr Nil1 w3 wz) => setCap_any ((HA.out.1.new H3.out.2.2).new hf))
      have hmap : (ys.map (·.2)).length = ys.length := List.length_map ..
      have HL3 := hid hCnt
      have HFw := hid hFew
      have hz := p2_le hD.h9
      have hz4 : 4 ≤ 2 ^ h := Nat.pow_le_pow_right (n := 2) (by omega) hD.h2
      have hz2 : (2 ^ h : Nat) = 4 ↔ h = 2 := by
        have h9 := hD.h9
        have h2 := hD.h2
        have : h = 2 ∨ h = 3 ∨ h = 4 ∨ h = 5 ∨ h = 6 ∨ h = 7 ∨ h = 8 ∨ h = 9 := by omega
        rcases this with rfl | rfl | rfl | rfl | rfl | rfl | rfl | rfl <;> simp
      have hfew := hFew.few
      have hall := hFew.all
      have hnone := hFew.none
      have hpos := hFew.pos
      have hlen : ys.length ≤ 300 := by
        have h1 := HLn.out
        have h2 := HA.out.2
        have h3 := congrArg List.length H3.out.2.1.1
        rw [List.length_map, List.length_take, List.length_drop, h2] at h3
        omega
      have hkeys := H3.out.2.1.keys HA.out.1.up
      rw [HA.out.2] at hkeys hCnt
      have HKeys := hid hkeys
      have HCn := hid hCnt
      have HRow := hid (fun wz (hf : Fr Nil1 w3 wz) (hp : 0 < ys.length) => show ∃ ad, A3 = some ad ∧ ∀ j, j < ys.length → wz.cell? (ad.add j) = some (.int .i64 ((ys.map (·.2)).getD j 0)) from by
        have := rowi_get (H3.out.1.new hf) rfl (by omega) (by omega)
        rwa [hmap] at this)
      rw [hmap]
      obtain ⟨xs, hxs⟩ : ∃ xs, ys.map (·.2) = xs := ⟨_, rfl⟩
      rw [hxs] at HKeys HRow hmap
      clear hkeys hxs
      obtain ⟨k, hk⟩ : ∃ k, segL ys - segF ys + 1 = k := ⟨_, rfl⟩
      obtain ⟨mo, hmo⟩ : ∃ mo, mostN (ys.length : Int) h = mo := ⟨_, rfl⟩
      obtain ⟨Z, hZ⟩ : ∃ Z : Nat, 2 ^ h = Z := ⟨_, rfl⟩
      rw [hk] at hMost hfew hall hnone hpos ⊢
      rw [hmo] at HMo hMost
      rw [hZ] at HMo HCp hz hz4 hz2 hall
      have hZ8 : Int.tdiv ((8 * Z : Nat) : Int) 8 = (Z : Int) := by rw [Int.tdiv_eq_ediv_of_nonneg (by omega)]; omega
      have hZ8' : ((8 * Z : Nat) : Int) / 8 = (Z : Int) := by omega
      obtain ⟨C, hC⟩ : ∃ C : Int, ((8 * Z : Nat) : Int) = C := ⟨_, rfl⟩
      obtain ⟨Zi, hZi⟩ : ∃ Zi : Int, (Z : Int) = Zi := ⟨_, rfl⟩
      obtain ⟨m, hm⟩ : ∃ m, ys.length = m := ⟨_, rfl⟩
      rw [hC] at HMo HCp hZ8 hZ8'
      rw [hZi] at hZ8 hZ8'
      rw [hm] at HMo hfew hnone hpos hlen HKeys HCn HRow hmap ⊢
      have HMm := hid hm
      have hk0 : decide (k < 0) = false := decide_eq_false (by omega)
      have hkm : decide (mo < k) = false := decide_eq_false (by omega)
      have hkZ : decide (Zi < k) = false := decide_eq_false (by omega)
      have HK0 := hid (And.intro hnone hpos)
      have hwz : wrap64 Zi = Zi := IntWalk.wrap64_in _ (by omega)
      have hC0 : 0 ≤ C := by omega
      have HD32 := hid (fun (h : 32 < C) => show decide ((m : Int) < k) = false from decide_eq_false (by have h2' := hD.h2; have := hfew (by omega); omega))
      clear hMost hfew hall hnone hpos hz2 hz hz4 hZ hm hk hmo hCnt hFew hD hC hZi
      obtain ⟨z, hz1, hz2'⟩ : ∃ z, (k == 0) = z ∧ ((m : Int) == 0) = z := by
        by_cases e : m = 0
        · exact ⟨true, by rw [HK0.out.1 e]; rfl, by rw [e]; rfl⟩
        · exact ⟨false, by rw [beq_eq_false_iff_ne]; have := HK0.out.2 e; omega, by rw [beq_eq_false_iff_ne]; omega⟩
      go_upto_region 10 with (first
        | (go_at_call 31; (with_reducible refine (HMo.out _).mono ?_); rintro e w5 ⟨rfl, rfl⟩)
        | (go_at_call 49; (with_reducible refine (HCp.out _ (Fr.refl _ _)).mono ?_); rintro e w4 ⟨rfl, rfl⟩))
      go_cut [90] from 15 to 90 (fun s90 wx => s90 = .bool false ∧ w3 = wx)
      case first =>
        by_cases h32 : 32 < C
        · have hd := HD32.out h32
          have hd' : k ≤ m := by have := of_decide_eq_false hd; omega
          go_wp2_with (first
            | (go_at_call 49; (with_reducible refine (HCp.out _ (Fr.refl _ _)).mono ?_); rintro e w4 ⟨rfl, rfl⟩))
          go_meet
          exact ⟨rfl, rfl⟩
        · go_wp2_with (first
            | (go_at_call 49; (with_reducible refine (HCp.out _ (Fr.refl _ _)).mono ?_); rintro e w4 ⟨rfl, rfl⟩))
          go_meet
          exact ⟨rfl, rfl⟩
      case rest =>
      obtain ⟨rfl, rfl⟩ := hcut
      go_wp2_with fail
      go_loopw [6, 14] (fun r i wr => ∃ j : Nat, j ≤ m ∧ r = .bool false ∧ i = .int .i64 j ∧ Hid (Fr Nil1 w3 wr)) (fun _ i _ => (m - intOf i).toNat)
      case atStart => exact ⟨0, by omega, rfl, rfl, hid (Fr.refl _ _)⟩
      case round =>
        obtain ⟨j, hj, rfl, rfl, HW⟩ := hrel
        by_cases hlt : j < m
        · obtain ⟨ad, rfl, hc⟩ := HRow.out wr HW.out (by omega)
          have hx := HKeys.out.1 j hlt
          have d1 := hc j hlt
          have hlo : decide (xs.getD j 0 < lo) = false := decide_eq_false (by omega)
          have HHas := hid (fun wz (hf : Fr Nil1 wr wz) => (((HS3.out.new HW.out).new hf).has (xs.getD j 0)))
          rw [decide_eq_true hx.2] at HHas
          have HJ := hid (And.intro hj hlt)
          have hjI : (j : Int) < m := by omega
          have hj0 : (0 : Int) ≤ j := by omega
          have hjb : (j : Int) < 300 := by omega
          by_cases hz : j = 0
          · subst hz
            rw [show ((0 : Nat) : Int) = 0 from rfl]
            have hz0 : decide ((0 : Int) < 0) = false := by decide
            rw [show ad.add 0 = ad by unfold Addr.add; simp] at d1
            have HC := hid d1
            generalize xs.getD 0 0 = x at *
            clear hx hc hlt hj
            go_upto_region 15 with fail
            refine wp_region_held_drew (S := fun w' => w'.cell? ad = some (.int .i64 x)) (by kernel_rfl) HC.out (fun hHeld => ?_)
            refine wpAnyH_take (i := 0) (v := .slice (some ad) m c3) rfl (by kernel_rfl) (by kernel_rfl) (by kernel_rfl) (fun _ _ _ h => h) (Or.inl ⟨by kernel_rfl, fun wq hSw => ?_⟩) (by assumption) ?_
            · (try dsimp only at hSw); go_simp
            simp only [Act.put, List.setIfInBounds_toArray, List.set_cons_zero, List.set_cons_succ]
            refine wpAnyH_take (i := 1) (v := .int .i64 0) rfl (by kernel_rfl) (by kernel_rfl) (by kernel_rfl) (fun _ _ _ h => h) (Or.inl ⟨by kernel_rfl, fun wq hSw => ?_⟩) (by assumption) ?_
            · (try dsimp only at hSw); go_simp
            simp only [Act.put, List.setIfInBounds_toArray, List.set_cons_zero, List.set_cons_succ]
            refine wpAnyH_take (i := 2) (v := .pointer (some ad)) rfl (by kernel_rfl) (by kernel_rfl) (by kernel_rfl) (fun _ _ _ h => h) (Or.inl ⟨by kernel_rfl, fun wq hSw => ?_⟩) (by assumption) ?_
            · (try dsimp only at hSw); go_simp
            simp only [Act.put, List.setIfInBounds_toArray, List.set_cons_zero, List.set_cons_succ]
            refine wpAnyH_take (i := 3) (v := .int .i64 x) rfl (by kernel_rfl) (by kernel_rfl) (by kernel_rfl) (fun _ _ _ h => h) (Or.inl ⟨by kernel_rfl, fun wq hSw => ?_⟩) (by assumption) ?_
            · (try dsimp only at hSw); go_simp
            simp only [Act.put, List.setIfInBounds_toArray, List.set_cons_zero, List.set_cons_succ]
            refine wpAnyH_take (i := 4) (v := .int .i64 lo) rfl (by kernel_rfl) (by kernel_rfl) (by kernel_rfl) (fun _ _ _ h => h) (Or.inl ⟨by kernel_rfl, fun wq hSw => ?_⟩) (by assumption) ?_
            · (try dsimp only at hSw); go_simp
            simp only [Act.put, List.setIfInBounds_toArray, List.set_cons_zero, List.set_cons_succ]
            refine wpAnyH_take (i := 5) (v := .bool false) rfl (by kernel_rfl) (by kernel_rfl) (by kernel_rfl) (fun _ _ _ h => h) (Or.inl ⟨by kernel_rfl, fun wq hSw => ?_⟩) (by assumption) ?_
            · (try dsimp only at hSw); go_simp
            simp only [Act.put, List.setIfInBounds_toArray, List.set_cons_zero, List.set_cons_succ]
            refine wpAnyH_take (i := 6) (v := .bool false) rfl (by kernel_rfl) (by kernel_rfl) (by kernel_rfl) (fun _ _ _ h => h) (Or.inl ⟨by kernel_rfl, fun wq hSw => ?_⟩) (by assumption) ?_
            · (try dsimp only at hSw); go_simp
            simp only [Act.put, List.setIfInBounds_toArray, List.set_cons_zero, List.set_cons_succ]
            refine wpAnyH_take (i := 7) (v := .int .i64 0) rfl (by kernel_rfl) (by kernel_rfl) (by kernel_rfl) (fun _ _ _ h => h) (Or.inl ⟨by kernel_rfl, fun wq hSw => ?_⟩) (by assumption) ?_
            · (try dsimp only at hSw); go_simp
            simp only [Act.put, List.setIfInBounds_toArray, List.set_cons_zero, List.set_cons_succ]
            refine wpAnyH_take (i := 8) (v := .bool false) rfl (by kernel_rfl) (by kernel_rfl) (by kernel_rfl) (fun _ _ _ h => h) (Or.inl ⟨by kernel_rfl, fun wq hSw => ?_⟩) (by assumption) ?_
            · (try dsimp only at hSw); go_simp
            simp only [Act.put, List.setIfInBounds_toArray, List.set_cons_zero, List.set_cons_succ]
            refine wpAnyH_take (i := 9) (v := .bool false) rfl (by kernel_rfl) (by kernel_rfl) (by kernel_rfl) (fun _ _ _ h => h) (Or.inl ⟨by kernel_rfl, fun wq hSw => ?_⟩) (by assumption) ?_
            · (try dsimp only at hSw); go_simp
            simp only [Act.put, List.setIfInBounds_toArray, List.set_cons_zero, List.set_cons_succ]
            refine wpAnyH_take (i := 10) (v := undef) rfl (by kernel_rfl) (by kernel_rfl) (by kernel_rfl) (fun _ _ _ h => h) (Or.inr ⟨by kernel_rfl, rfl⟩) (by assumption) ?_
            simp only [Act.put, List.setIfInBounds_toArray, List.set_cons_zero, List.set_cons_succ]
            refine wpAnyH_take (i := 11) (v := undef) rfl (by kernel_rfl) (by kernel_rfl) (by kernel_rfl) (fun _ _ _ h => h) (Or.inr ⟨by kernel_rfl, rfl⟩) (by assumption) ?_
            simp only [Act.put, List.setIfInBounds_toArray, List.set_cons_zero, List.set_cons_succ]
            refine wpAnyH_take (i := 12) (v := undef) rfl (by kernel_rfl) (by kernel_rfl) (by kernel_rfl) (fun _ _ _ h => h) (Or.inr ⟨by kernel_rfl, rfl⟩) (by assumption) ?_
            simp only [Act.put, List.setIfInBounds_toArray, List.set_cons_zero, List.set_cons_succ]
            refine wpAnyH_take (i := 13) (v := undef) rfl (by kernel_rfl) (by kernel_rfl) (by kernel_rfl) (fun _ _ _ h => h) (Or.inr ⟨by kernel_rfl, rfl⟩) (by assumption) ?_
            simp only [Act.put, List.setIfInBounds_toArray, List.set_cons_zero, List.set_cons_succ]
            refine wpAnyH_take (i := 14) (v := undef) rfl (by kernel_rfl) (by kernel_rfl) (by kernel_rfl) (fun _ _ _ h => h) (Or.inr ⟨by kernel_rfl, rfl⟩) (by assumption) ?_
            simp only [Act.put, List.setIfInBounds_toArray, List.set_cons_zero, List.set_cons_succ]
            refine wpAnyH_take (i := 15) (v := undef) rfl (by kernel_rfl) (by kernel_rfl) (by kernel_rfl) (fun _ _ _ h => h) (Or.inr ⟨by kernel_rfl, rfl⟩) (by assumption) ?_
            simp only [Act.put, List.setIfInBounds_toArray, List.set_cons_zero, List.set_cons_succ]
            refine wpAnyH_take (i := 16) (v := undef) rfl (by kernel_rfl) (by kernel_rfl) (by kernel_rfl) (fun _ _ _ h => h) (Or.inr ⟨by kernel_rfl, rfl⟩) (by assumption) ?_
            simp only [Act.put, List.setIfInBounds_toArray, List.set_cons_zero, List.set_cons_succ]
            refine wpAnyH_take (i := 17) (v := undef) rfl (by kernel_rfl) (by kernel_rfl) (by kernel_rfl) (fun _ _ _ h => h) (Or.inr ⟨by kernel_rfl, rfl⟩) (by assumption) ?_
            simp only [Act.put, List.setIfInBounds_toArray, List.set_cons_zero, List.set_cons_succ]
            refine wpAnyH_take (i := 18) (v := undef) rfl (by kernel_rfl) (by kernel_rfl) (by kernel_rfl) (fun _ _ _ h => h) (Or.inr ⟨by kernel_rfl, rfl⟩) (by assumption) ?_
            simp only [Act.put, List.setIfInBounds_toArray, List.set_cons_zero, List.set_cons_succ]
            refine wpAnyH_take (i := 19) (v := undef) rfl (by kernel_rfl) (by kernel_rfl) (by kernel_rfl) (fun _ _ _ h => h) (Or.inr ⟨by kernel_rfl, rfl⟩) (by assumption) ?_
            simp only [Act.put, List.setIfInBounds_toArray, List.set_cons_zero, List.set_cons_succ]
            refine wpAnyH_take (i := 20) (v := .bool false) rfl (by kernel_rfl) (by kernel_rfl) (by kernel_rfl) (fun _ _ _ h => h) (Or.inl ⟨by kernel_rfl, fun wq hSw => ?_⟩) (by assumption) ?_
            · (try dsimp only at hSw); go_simp
            simp only [Act.put, List.setIfInBounds_toArray, List.set_cons_zero, List.set_cons_succ]
            refine wpAnyH_take (i := 21) (v := .bool false) rfl (by kernel_rfl) (by kernel_rfl) (by kernel_rfl) (fun _ _ _ h => h) (Or.inl ⟨by kernel_rfl, fun wq hSw => ?_⟩) (by assumption) ?_
            · (try dsimp only at hSw); go_simp
            simp only [Act.put, List.setIfInBounds_toArray, List.set_cons_zero, List.set_cons_succ]
            refine wpAnyH_take (i := 22) (v := .bool false) rfl (by kernel_rfl) (by kernel_rfl) (by kernel_rfl) (fun _ _ _ h => h) (Or.inl ⟨by kernel_rfl, fun wq hSw => ?_⟩) (by assumption) ?_
            · (try dsimp only at hSw); go_simp
            simp only [Act.put, List.setIfInBounds_toArray, List.set_cons_zero, List.set_cons_succ]
            refine wpAnyH_take (i := 23) (v := .pointer (some ⟨s, 0, none⟩)) rfl (by kernel_rfl) (by kernel_rfl) (by kernel_rfl) (fun _ _ _ h => h) (Or.inl ⟨by kernel_rfl, fun wq hSw => ?_⟩) (by assumption) ?_
            · (try dsimp only at hSw); go_simp
            simp only [Act.put, List.setIfInBounds_toArray, List.set_cons_zero, List.set_cons_succ]
            refine wpAnyH_take (i := 24) (v := .slice (some ad) m c3) rfl (by kernel_rfl) (by kernel_rfl) (by kernel_rfl) (fun _ _ _ h => h) (Or.inl ⟨by kernel_rfl, fun wq hSw => ?_⟩) (by assumption) ?_
            · (try dsimp only at hSw); go_simp
            simp only [Act.put, List.setIfInBounds_toArray, List.set_cons_zero, List.set_cons_succ]
            refine wpAnyH_take (i := 25) (v := .int .i64 0) rfl (by kernel_rfl) (by kernel_rfl) (by kernel_rfl) (fun _ _ _ h => h) (Or.inl ⟨by kernel_rfl, fun wq hSw => ?_⟩) (by assumption) ?_
            · (try dsimp only at hSw); go_simp
            simp only [Act.put, List.setIfInBounds_toArray, List.set_cons_zero, List.set_cons_succ]
            refine wpAnyH_take (i := 26) (v := .pointer (some ad)) rfl (by kernel_rfl) (by kernel_rfl) (by kernel_rfl) (fun _ _ _ h => h) (Or.inl ⟨by kernel_rfl, fun wq hSw => ?_⟩) (by assumption) ?_
            · (try dsimp only at hSw); go_simp
            simp only [Act.put, List.setIfInBounds_toArray, List.set_cons_zero, List.set_cons_succ]
            refine wpAnyH_take (i := 27) (v := .int .i64 x) rfl (by kernel_rfl) (by kernel_rfl) (by kernel_rfl) (fun _ _ _ h => h) (Or.inl ⟨by kernel_rfl, fun wq hSw => ?_⟩) (by assumption) ?_
            · (try dsimp only at hSw); go_simp
            simp only [Act.put, List.setIfInBounds_toArray, List.set_cons_zero, List.set_cons_succ]
            refine wpAnyH_ready (rs := [28]) (by kernel_rfl) (by simp) ?_
            refine AllReadyH.cons rfl (fun K hK => ?_) AllReadyH.nil
            rw [if_pos (by kernel_rfl)]
            go_wp2_with (first | (go_at_call 50; refine (HHas.out wr.drew (Fr.refl _ _).drew).mono ?_; rintro e w5 ⟨rfl, h5⟩; have HF5 := hid ((Fr.refl Nil1 wr).drew.trans h5); have d2 := ((Fr.refl Nil1 wr).drew.trans h5).cell HC.out id; clear h5))
            refine hK.out _ _ d2 (fun hHeld2 => ?_)
            refine wpAnyH_take (i := 29) (v := .bool false) rfl (by kernel_rfl) (by kernel_rfl) (by kernel_rfl) (fun _ _ _ h => h) (Or.inl ⟨by kernel_rfl, fun wq hSw => ?_⟩) (by assumption) ?_
            · (try dsimp only at hSw); go_simp
            simp only [Act.put, List.setIfInBounds_toArray, List.set_cons_zero, List.set_cons_succ]
            refine wpAnyH_take (i := 30) (v := .bool false) rfl (by kernel_rfl) (by kernel_rfl) (by kernel_rfl) (fun _ _ _ h => h) (Or.inl ⟨by kernel_rfl, fun wq hSw => ?_⟩) (by assumption) ?_
            · (try dsimp only at hSw); go_simp
            simp only [Act.put, List.setIfInBounds_toArray, List.set_cons_zero, List.set_cons_succ]
            refine wpAnyH_done (by kernel_rfl) ?_ _
            go_wp2_with fail
            exact ⟨⟨1, by have := HJ.out; omega, rfl, by go_num, hid (HW.out.trans HF5.out)⟩, by simp [intOf]; have := HJ.out; omega⟩
          · obtain ⟨i, rfl⟩ : ∃ i, j = i + 1 := ⟨j - 1, by omega⟩
            have hy := HKeys.out.2 i hlt
            have d0 := hc i (by omega)
            have hyx : decide (xs.getD (i + 1) 0 ≤ xs.getD i 0) = false := decide_eq_false (by omega)
            have e1 : IntKind.i64.wrap (((i + 1 : Nat) : Int) - 1) = (i : Int) := by rw [show ((i + 1 : Nat) : Int) - 1 = (i : Int) by omega]; exact IntWalk.i64_in _ (by omega)
            obtain ⟨I1, hI1⟩ : ∃ I1, i + 1 = I1 := ⟨_, rfl⟩
            rw [hI1] at e1 hjI hj0 hjb hlo hyx HHas d1 HJ ⊢
            have HC := hid (And.intro d0 d1)
            have hi0 : (0 : Int) ≤ i := by omega
            have him : (i : Int) < m := by omega
            have hI0 : decide ((0 : Int) < I1) = true := decide_eq_true (by omega)
            have hI0' : decide (0 < I1) = true := decide_eq_true (by omega)
            have HI := hid hI1
            generalize xs.getD I1 0 = x at *
            generalize xs.getD i 0 = y at *
            clear hx hc hlt hj hy hI1 hz
            go_upto_region 15 with fail
            go_region_held3 (fun w' => w'.cell? (ad.add i) = some (.int .i64 y) ∧ w'.cell? (ad.add I1) = some (.int .i64 x)) (first | exact d2 | exact HC.out | go_keep)
              (first | (go_at_call 50; refine (HHas.out wr.drew (Fr.refl _ _).drew).mono ?_; rintro e w5 ⟨rfl, h5⟩; have HF5 := hid ((Fr.refl Nil1 wr).drew.trans h5); have d2 := And.intro (((Fr.refl Nil1 wr).drew.trans h5).cell HC.out.1 id) (((Fr.refl Nil1 wr).drew.trans h5).cell HC.out.2 id); clear h5))
            go_wp2_with fail
            exact ⟨⟨I1 + 1, by have := HJ.out; omega, rfl, by go_num, hid (HW.out.trans HF5.out)⟩, by simp [intOf]; have := HJ.out; omega⟩
        · have hj' : j = m := by omega
          have hlI : ¬ (m : Int) < m := by omega
          rw [hj']
          have hcn := HCn.out
          have HFw := hid (HF3.out.trans HW.out)
          have HCt := hid (scanCount_any (HS3.out.new HW.out) lo 9223372036854775807)
          have HHs := hid (fun wz (hf : Fr Nil1 wr wz) => (((HS3.out.new HW.out).new hf).has 9223372036854775807))
          clear hj' hlt hj
          by_cases e1 : (m : Int) = n
          · have e1' : ((m : Int) == n) = true := by rw [e1, beq_self_eq_true]
            clear e1 hcn
            go_wp2_with (first
              | (go_at_call 34; (with_reducible refine (HAw.out wr HFw.out).mono ?_); rintro e w9 ⟨rfl, h9⟩; have HF9 := hid h9; clear h9))
            go_ret
            exact ⟨rfl, HFw.out.trans HF9.out⟩
          · have e1' : ((m : Int) == n) = false := by rw [beq_eq_false_iff_ne]; exact e1
            have hm := hcn.2 e1
            clear e1 hcn
            by_cases e2 : (9223372036854775807 : Int) ∈ ks
            · rw [decide_eq_true e2] at HHs
              generalize ((btwL ks lo 9223372036854775807).length : Int) = cN at *
              clear e2 hm
              go_wp2_with (first
                | (go_at_call 34; (with_reducible refine (HAw.out w7 (HFw.out.trans HF7.out)).mono ?_); rintro e w9 ⟨rfl, h9⟩; have HF9 := hid (HF7.out.trans h9); clear h9)
                | (go_at_call 34; (with_reducible refine (HAw.out w6 (HFw.out.trans HF6.out)).mono ?_); rintro e w9 ⟨rfl, h9⟩; have HF9 := hid (HF6.out.trans h9); clear h9)
                | (go_at_call 50; (with_reducible refine (HHs.out w6 HF6.out).mono ?_); rintro e w7 ⟨rfl, h7⟩; have HF7 := hid (HF6.out.trans h7); clear h7)
                | (go_at_call 48; (with_reducible refine HCt.out.mono ?_); rintro e w6 ⟨rfl, h6⟩; have HF6 := hid h6; clear h6))
              all_goals (go_ret; exact ⟨by first | rfl | simp_all, HFw.out.trans HF9.out⟩)
            · have hall : lessC ks 9223372036854775807 = ks.length := lessC_all HS.out.up (fun x hx => by
                have h1 := (HRg.out x hx).2
                rcases Int.lt_or_eq_of_le h1 with g | g
                · exact g
                · rw [g] at hx; exact absurd hx e2)
              have hce : (btwL ks lo 9223372036854775807).length = m := by rw [btwL_length, hall, hm]
              rw [hce] at HCt
              clear e2 hall hce hm
              go_wp2_with (first
                | (go_at_call 34; (with_reducible refine (HAw.out w6 (HFw.out.trans HF6.out)).mono ?_); rintro e w9 ⟨rfl, h9⟩; have HF9 := hid (HF6.out.trans h9); clear h9)
                | (go_at_call 48; (with_reducible refine HCt.out.mono ?_); rintro e w6 ⟨rfl, h6⟩; have HF6 := hid h6; clear h6))
              go_ret
              exact ⟨by simp, HFw.out.trans HF9.out⟩
end Go.Proofs.YtechphliifginaaGreatDoor
