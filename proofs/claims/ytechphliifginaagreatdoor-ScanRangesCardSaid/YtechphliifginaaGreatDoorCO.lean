/- ScanRanges, as it is called: the walk. -/
import Derived.Test.YtechphliifginaaGreatDoorCN
import Derived.Deep.Cut
set_option linter.unusedVariables false
set_option linter.unusedSimpArgs false
namespace Go.Proofs.YtechphliifginaaGreatDoor
open Go.RowKit

set_option maxRecDepth 100000 in
set_option maxHeartbeats 8000000 in
theorem scanRanges_any (u v : Value) (l : List Int) (acts : List AcS) (lo hi : Int) (w : World) (hu : Rd w u (ints' l)) (hv : RdAm w v acts) (hg : GW w) : Calls Tryz.prog 7 #[.agg #[u, v], .int .i64 lo, .int .i64 hi] w fun e w' => e = .returned (.bool true) ∧ Fr Nil1 w w' := by
  have HAw := hid (fun w' (hf : Fr Nil1 w w') => awake14_any w' (hg.fr hf))
  have HMany := hid (fun (hN : 100 < acts.length) w' (hf : Fr Nil1 w w') => set14_many u acts (hu.new hf) (hv.new hf) hN)
  have HAny := hid (fun (hN : acts.length ≤ 100) w' (hf : Fr Nil1 w w') => set14_any u acts (hu.new hf) (hv.new hf) hN (hg.fr hf))
  have HGw := hid hg
  obtain ⟨A, c, rfl, _, _⟩ := hu
  obtain ⟨B, d, rfl, _, _⟩ := hv
  rw [ints'_length] at HMany HAny ⊢
  have hb := Has.new w [.slice A l.length c, .slice B acts.length d] 52
  have HBx := hid hb
  have c0 := hb.cell 0
  have c1 := hb.cell 1
  have HF := hid (show Fr Nil1 w (w.alloc (.cells #[.slice A l.length c, .slice B acts.length d] 52)) from (Fr.refl _ _).alloc _)
  clear hb hg
  by_cases hN : 100 < acts.length
  · have hI : (100 : Int) < (acts.length : Int) := by omega
    have HM := hid (HMany.out hN _ HF.out)
    clear hN HMany HAny
    go_enter Tryz.func7, Tryz.ntmps7
    go_wp2_with (first
      | (go_at_call 34; (with_reducible refine (HAw.out w1 (HF.out.trans HF1.out)).mono ?_); rintro e w2 ⟨rfl, h2⟩; have HF2 := hid h2; clear h2)
      | (go_at_call 33; (with_reducible refine HM.out.mono ?_); rintro e w1 ⟨rfl, h1⟩; have HF1 := hid h1; have k0 := (HBx.out.fr' h1 id).cell 0; have k1 := (HBx.out.fr' h1 id).cell 1; clear h1))
    go_ret
    exact ⟨rfl, (HF.out.trans HF1.out).trans HF2.out⟩
  · have HM := hid (HAny.out (by omega) _ HF.out)
    clear hN HMany HAny
    go_enter Tryz.func7, Tryz.ntmps7
    go_wp2_with (first
      | (go_at_call 47; (with_reducible refine HRf.out.mono ?_); rintro e w4 ⟨v4, rfl, H4⟩; obtain ⟨A4, c4, rfl⟩ := H4.out.row.slice; have hwl := btwL_len ks lo hi; have hks := H2.out.len; have hwb : 0 ≤ ((btwL ks lo hi).length : Int) ∧ ((btwL ks lo hi).length : Int) ≤ 300 := by omega)
      | (go_at_call 33; (with_reducible refine HM.out.mono ?_); rintro e w2 ⟨s, vk, rfl, ks, H2⟩; have HRf := hid (refBetween_any ks (by have := H2.out.len; omega) lo hi (H2.out.row.rd (by have := H2.out.len; omega)) (HGw.out.fr (HF.out.trans H2.out.set.ss.fr))); rw [filter_btw H2.out.set.ss.up] at HRf))
    have HWn := hid (fun wz (hf : Fr Nil1 w4 wz) => (H4.out.new hf).rd (by omega))
    obtain ⟨L, hL⟩ : ∃ L, btwL ks lo hi = L := ⟨_, rfl⟩
    have HLe := hid hL
    rw [hL] at H4 HWn hwl hwb ⊢
    have HS4 := hid (H2.out.set.ss.new H4.out.fr)
    have HF4 := hid ((HF.out.trans H2.out.set.ss.fr).trans H4.out.fr)
    have HS := hid (ApJ.start w4)
    have HG4 := hid (HGw.out.fr HF4.out).size
    obtain ⟨W0, hW0⟩ : ∃ W0, w4.alloc (.cells #[] 3) = W0 := ⟨_, rfl⟩
    have HS0 : Hid (ApJ w4 [] (.slice (some ⟨w4.heap.size, 0, none⟩) 0 0) W0) := hW0 ▸ HS
    rw [hW0]
    clear hW0 HS hL
    go_loopw [10, 11] (fun v i wr => ∃ k : Nat, k ≤ L.length ∧ i = .int .i64 ((k : Int) - 1) ∧ Hid (ApJ w4 (L.drop k).reverse v wr)) (fun _ i _ => (intOf i + 1).toNat)
    case atStart => exact ⟨L.length, Nat.le_refl _, rfl, hid (by simpa using HS0.out)⟩
    case round =>
      obtain ⟨k, hk, rfl, HW⟩ := hrel
      cases k with
      | zero =>
        have hk0 : ((0 : Nat) : Int) - 1 = -1 := by omega
        rw [hk0]
        have HU := hid (fun wz (hf : Fr Nil1 w4 wz) => up14_any (HS4.out.new hf) lo hi)
        have HD := hid (fun wz (hf : Fr Nil1 w4 wz) => down14_any (HS4.out.new hf) lo hi)
        have HC := hid (fun wz (hf : Fr Nil1 w4 wz) => scanCount_any (HS4.out.new hf) lo hi)
        rw [HLe.out] at HU HD HC
        have hlb : L.reverse.length ≤ 9223372036854775807 := by rw [List.length_reverse]; omega
        have hlb2 : L.length ≤ 9223372036854775807 := by omega
        have HRv := hid (show ∀ wz, Fr Nil1 wr wz → Rd wz u10 (ints' L.reverse) from fun wz hf => by have := (HW.out.new hf).rd (by rw [List.drop_zero]; exact hlb); rwa [List.drop_zero] at this)
        clear hk hk0
        go_wp2_with (first
          | (go_at_call 34; (with_reducible refine (HAw.out w9 (HF4.out.trans H9.out)).mono ?_); rintro e w10 ⟨rfl, h10⟩; have HF10 := hid h10; clear h10)
          | (go_at_call 48; (with_reducible refine (HC.out w8 H8.out).mono ?_); rintro e w9 ⟨rfl, h9⟩; have H9 := hid (H8.out.trans h9); clear h9)
          | (go_at_call 40; refine (ints14_eq L.reverse L.reverse v7 u10 w7 (H7.out.1.rd hlb) (HRv.out w7 (HW5.out.trans H7.out.2)) rfl).mono ?_; rintro e w8 ⟨rfl, h8⟩; have H8 := hid (H6.out.trans (H7.out.2.trans h8)); clear h8)
          | (go_at_call 42; (with_reducible refine (HD.out w6 H6.out).mono ?_); rintro e w7 ⟨v7, rfl, H7⟩)
          | (go_at_call 40; refine (ints14_eq L L v5 _ w5 (H5.out.1.rd hlb2) (HWn.out w5 (HW.out.fr.trans H5.out.2)) rfl).mono ?_; rintro e w6 ⟨rfl, h6⟩; have H6 := hid ((HW.out.fr.trans H5.out.2).trans h6); have HW5 := hid (H5.out.2.trans h6); clear h6)
          | (go_at_call 41; (with_reducible refine (HU.out wr HW.out.fr).mono ?_); rintro e w5 ⟨v5, rfl, H5⟩))
        go_ret
        exact ⟨by simp, (HF4.out.trans H9.out).trans HF10.out⟩
      | succ j =>
        have hj1 : ((j + 1 : Nat) : Int) - 1 = (j : Int) := by omega
        rw [hj1]
        obtain ⟨A', c', e, _, hA⟩ := HWn.out wr HW.out.fr
        rw [ints'_length] at e hA
        injection e with e1 e2 e3
        subst e1
        obtain ⟨ad, rfl, hc⟩ := hA (by omega)
        have cj := hc j _ (ints'_get L j (by omega))
        have HT := hid (drop_get (show j < L.length by omega))
        have HLl := hid hk
        have hji : (j : Int) < L.length := by omega
        clear hc hA hj1 e2
        subst e3
        generalize L.getD j 0 = x at *
        go_wp2_with (at_builtin; refine append_rd rfl (.tmp 38) (.tmp 43) rfl rfl (HW.out.row.new ((Fr.refl _ _).alloc _)) rfl (rd_one wr _) (by rw [List.length_reverse, List.length_drop, List.length_singleton]; omega) (by have := HW.out.fr.size; rw [World.size_alloc]; omega) ?_; intro v' w' h1 h2 h3; have H2' := hid (And.intro h1 h2); clear h1 h2 h3)
        exact ⟨⟨j, by omega, by go_num, hid (by rw [HT.out, List.reverse_cons]; exact (HW.out.new ((Fr.refl _ _).alloc _)).step HG4.out H2'.out.1 H2'.out.2)⟩, by simp [intOf]⟩
end Go.Proofs.YtechphliifginaaGreatDoor
