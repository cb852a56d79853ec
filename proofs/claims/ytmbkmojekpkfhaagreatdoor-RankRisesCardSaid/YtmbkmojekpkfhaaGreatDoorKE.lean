/- RankRises, as it is called: the walk. -/
import Derived.Test.YtmbkmojekpkfhaaGreatDoorKQ
import Derived.Deep.Cut
set_option linter.unusedVariables false
set_option linter.unusedSimpArgs false
namespace Go.Proofs.YtmbkmojekpkfhaaGreatDoor
open Go.RowKit

theorem up_le {ks : List Int} (H : Up ks) {i j : Nat} (hij : i ≤ j) (hj : j < ks.length) : ks.getD i 0 ≤ ks.getD j 0 := by
  rcases Nat.eq_or_lt_of_le hij with e | e
  · rw [e]; exact Int.le_refl _
  · exact Int.le_of_lt ((up_get H (get_some (show i < ks.length by omega)) (get_some hj)).2 e)
/-- Quantiles rise. -/
theorem quan_rise {ks : List Int} (H : Up ks) {a b parts : Int} (h1 : (quanV ks a parts).2 = 0) (h2 : (quanV ks b parts).2 = 0) (hab : a ≤ b) : (quanV ks a parts).1 ≤ (quanV ks b parts).1 := by
  by_cases ha : quanBad a parts
  · rw [quanV_bad ha] at h1; exact absurd h1 (by decide)
  by_cases hb : quanBad b parts
  · rw [quanV_bad hb] at h2; exact absurd h2 (by decide)
  by_cases he : ks = []
  · rw [quanV_none ha he] at h1; exact absurd h1 (by decide)
  rw [quanV_ok ha he, quanV_ok hb he]
  have hpos : 0 < ks.length := List.length_pos_iff.2 he
  obtain ⟨q1, q2⟩ := quanI_lt ha hpos
  obtain ⟨q3, q4⟩ := quanI_lt hb hpos
  refine up_le H ?_ q3
  have hp : 0 < parts := by unfold quanBad at ha; omega
  have : a * ((ks.length : Int) - 1) / parts ≤ b * ((ks.length : Int) - 1) / parts := Int.ediv_le_ediv hp (Int.mul_le_mul_of_nonneg_right hab (by omega))
  omega
/-- What RankRises asks of two quantiles: is it not so? -/
theorem quan_pair {ks : List Int} (H : Up ks) (a b parts : Int) : (quanV ks a parts).2 = 0 → (quanV ks b parts).2 = 0 → (decide (a ≤ b) && decide ((quanV ks b parts).1 < (quanV ks a parts).1)) = false ∧ (decide (b ≤ a) && decide ((quanV ks a parts).1 < (quanV ks b parts).1)) = false := by
  intro h1 h2
  constructor
  · by_cases e : a ≤ b
    · have := quan_rise H h1 h2 e
      rw [decide_eq_false (show ¬ (quanV ks b parts).1 < (quanV ks a parts).1 by omega), Bool.and_false]
    · rw [decide_eq_false e, Bool.false_and]
  · by_cases e : b ≤ a
    · have := quan_rise H h2 h1 e
      rw [decide_eq_false (show ¬ (quanV ks a parts).1 < (quanV ks b parts).1 by omega), Bool.and_false]
    · rw [decide_eq_false e, Bool.false_and]
theorem quan_first {ks : List Int} (he : ks ≠ []) : quanV ks 0 7 = (ks.getD 0 0, 0) := by
  rw [quanV_ok (by unfold quanBad; omega) he]
  unfold quanI
  simp
theorem quan_last {ks : List Int} (he : ks ≠ []) : quanV ks 7 7 = (ks.getD (ks.length - 1) 0, 0) := by
  rw [quanV_ok (by unfold quanBad; omega) he]
  have hpos : 0 < ks.length := List.length_pos_iff.2 he
  unfold quanI
  rw [Int.mul_ediv_cancel_left _ (by omega)]
  congr 2
  omega
theorem quan_each {ks : List Int} (hl : ks.length ≤ 300) {i : Nat} (hi : i < ks.length) (h1 : 1 < ks.length) : quanV ks i ((ks.length : Int) - 1) = (ks.getD i 0, 0) := by
  have he : ks ≠ [] := fun e => by rw [e] at hi; cases hi
  rw [quanV_ok (by unfold quanBad; omega) he]
  unfold quanI
  rw [Int.mul_ediv_cancel _ (by omega), Int.toNat_natCast]
theorem quan_none {ks : List Int} (he : ks = []) (n parts : Int) : (quanV ks n parts).2 ≠ 0 := by
  by_cases hb : quanBad n parts
  · rw [quanV_bad hb]; decide
  · rw [quanV_none hb he]; decide
set_option maxRecDepth 100000 in
set_option maxHeartbeats 8000000 in
theorem rankRises_any (u v : Value) (l : List Int) (acts : List AcS) (parts a b : Int) (w : World) (hu : Rd w u (ints' l)) (hv : RdAm w v acts) (hg : GW w) : Calls Tryz.prog 7 #[.agg #[u, v], .int .i64 parts, .agg #[.int .i64 a, .int .i64 b]] w fun e w' => e = .returned (.bool true) ∧ Fr Nil1 w w' := by
  have HAw := hid (fun w' (hf : Fr Nil1 w w') => awake15_any w' (hg.fr hf))
  have HMany := hid (fun (hN : 100 < acts.length) w' (hf : Fr Nil1 w w') => set14_many u acts (hu.new hf) (hv.new hf) hN)
  have HAny := hid (fun (hN : acts.length ≤ 100) w' (hf : Fr Nil1 w w') => set14_any u acts (hu.new hf) (hv.new hf) hN (hg.fr hf))
  obtain ⟨A, c, rfl, _, _⟩ := hu
  obtain ⟨B, d, rfl, _, _⟩ := hv
  rw [ints'_length] at HMany HAny ⊢
  have hb := (Has.new w [.slice A l.length c, .slice B acts.length d] 52).alloc (.cells #[.int .i64 a, .int .i64 b] 71)
  have hb2 := Has.new (w.alloc (.cells #[.slice A l.length c, .slice B acts.length d] 52)) [.int .i64 a, .int .i64 b] 71
  simp only [World.size_alloc] at hb2
  have HBx := hid hb
  have HB2 := hid hb2
  have c0 := hb.cell 0
  have c1 := hb.cell 1
  have HF := hid (show Fr Nil1 w ((w.alloc (.cells #[.slice A l.length c, .slice B acts.length d] 52)).alloc (.cells #[.int .i64 a, .int .i64 b] 71)) from ((Fr.refl _ _).alloc _).alloc _)
  clear hb hb2 hg
  by_cases hN : 100 < acts.length
  · have hI : (100 : Int) < (acts.length : Int) := by omega
    have HM := hid (HMany.out hN _ HF.out)
    clear hN HMany HAny
    go_enter Tryz.func7, Tryz.ntmps7
    go_wp2_with (first
      | (go_at_call 27; (with_reducible refine (HAw.out w1 (HF.out.trans HF1.out)).mono ?_); rintro e w2 ⟨rfl, h2⟩; have HF2 := hid h2; clear h2)
      | (go_at_call 26; (with_reducible refine HM.out.mono ?_); rintro e w1 ⟨rfl, h1⟩; have HF1 := hid h1; have k0 := (HBx.out.fr' h1 id).cell 0; have k1 := (HBx.out.fr' h1 id).cell 1; clear h1))
    go_ret
    exact ⟨rfl, (HF.out.trans HF1.out).trans HF2.out⟩
  · have HM := hid (HAny.out (by omega) _ HF.out)
    clear hN HMany HAny
    go_enter Tryz.func7, Tryz.ntmps7
    go_upto_region 8 with (first
      | (go_at_call 37; (with_reducible refine H3.out.1.ss.keys.mono ?_); rintro e w4 ⟨A4, c4, rfl, H4⟩)
      | (go_at_call 28; (with_reducible refine (rankOf_rk H2.out.set.ss).mono ?_); rintro e w3 ⟨X, rfl, σ, h, H3⟩)
      | (go_at_call 26; (with_reducible refine HM.out.mono ?_); rintro e w2 ⟨s, vk, rfl, ks, H2⟩))
    have HR := hid (H3.out.1.new H4.out.2)
    have HUp := hid H2.out.set.ss.up
    have HLn := hid H2.out.len
    have hfb := (H2.out.set.ss.fr.trans H3.out.2.1).trans H4.out.2
    have HF4 := hid (HF.out.trans hfb)
    have g0 := (HB2.out.fr' hfb id).cell 0
    have g1 := (HB2.out.fr' hfb id).cell 1
    have HRd := hid H4.out.1
    have HQA := hid (HR.out.quantile a parts)
    have HQB := hid (HR.out.quantile b parts)
    have HPr := hid (quan_pair HUp.out a b parts)
    have HNo := hid (fun (he : ks = []) => And.intro (quan_none he a parts) (quan_none he b parts))
    clear H4 H3 H2 HM hfb
    obtain ⟨z, hz⟩ : ∃ z, quanV ks a parts = z := ⟨_, rfl⟩
    obtain ⟨y, hy⟩ : ∃ y, quanV ks b parts = y := ⟨_, rfl⟩
    rw [hz] at HQA HPr HNo
    rw [hy] at HQB HPr HNo
    obtain ⟨z1, z2⟩ := z
    obtain ⟨y1, y2⟩ := y
    clear hz hy
    go_upto_region 10 with (first
      | (go_at_call 35; (with_reducible refine HQA.out.mono ?_); rintro e w5 ⟨rfl, rfl⟩)
      | (go_at_call 35; (with_reducible refine HQB.out.mono ?_); rintro e w5 ⟨rfl, rfl⟩))
    go_cut [87] from 58 to 87 (fun s87 wx => s87 = .bool false ∧ w4 = wx)
    case first =>
      by_cases h1 : z2 = 0
      · by_cases h2 : y2 = 0
        · obtain ⟨p1, p2⟩ := HPr.out h1 h2
          subst h1 h2
          by_cases h3 : a ≤ b
          · have d1 : decide (a ≤ b) = true := decide_eq_true h3
            rw [d1, Bool.true_and] at p1
            by_cases h4 : b ≤ a
            · have d2 : decide (b ≤ a) = true := decide_eq_true h4
              rw [d2, Bool.true_and] at p2
              clear h3 h4
              go_wp2_with fail
              go_meet
              exact ⟨rfl, rfl⟩
            · have d2 : decide (b ≤ a) = false := decide_eq_false h4
              clear p2 h3 h4
              go_wp2_with fail
              go_meet
              exact ⟨rfl, rfl⟩
          · have d1 : decide (a ≤ b) = false := decide_eq_false h3
            have d2 : decide (b ≤ a) = true := decide_eq_true (by omega)
            rw [d2, Bool.true_and] at p2
            clear p1 h3
            go_wp2_with fail
            go_meet
            exact ⟨rfl, rfl⟩
        · have d1 : (z2 == 0) = true := by rw [h1]; rfl
          have d2 : (y2 == 0) = false := by rw [beq_eq_false_iff_ne]; exact h2
          clear h1 h2
          go_wp2_with fail
          go_meet
          exact ⟨rfl, rfl⟩
      · have d1 : (z2 == 0) = false := by rw [beq_eq_false_iff_ne]; exact h1
        clear h1
        go_wp2_with fail
        go_meet
        exact ⟨rfl, rfl⟩
    case rest =>
      obtain ⟨rfl, rfl⟩ := hcut
      clear g0 g1
      by_cases he : ks = []
      · obtain ⟨n1, n2⟩ := HNo.out he
        have d1 : (z2 == 0) = false := by rw [beq_eq_false_iff_ne]; exact n1
        have d2 : (y2 == 0) = false := by rw [beq_eq_false_iff_ne]; exact n2
        have d3 : (z2 != 0) = true := by rw [bne_iff_ne]; exact n1
        have d4 : (y2 != 0) = true := by rw [bne_iff_ne]; exact n2
        have hl0 : ks.length = 0 := by rw [he]; rfl
        clear he n1 n2
        rw [hl0]
        go_wp2_with (go_at_call 27; (with_reducible refine (HAw.out w4 HF4.out).mono ?_); rintro e w7 ⟨rfl, h7⟩; have HF7 := hid h7; clear h7)
        go_ret
        exact ⟨rfl, HF4.out.trans HF7.out⟩
      · have hpos : 0 < ks.length := List.length_pos_iff.2 he
        have hq1 := HR.out.quantile 0 7
        rw [quan_first he] at hq1
        have hq2 := HR.out.quantile 7 7
        rw [quan_last he] at hq2
        have HQ1 := hid hq1
        have HQ2 := hid hq2
        obtain ⟨A5, c5, e5, _, hA5⟩ := HRd.out
        rw [ints'_length] at e5 hA5
        injection e5 with e6 e7 e8
        subst e6
        subst e8
        obtain ⟨ad, rfl, hc⟩ := hA5 hpos
        have HC := hid hc
        obtain ⟨i, hi⟩ : ∃ i, ks.length - 1 = i := ⟨_, rfl⟩
        have k0 := hc 0 _ (ints'_get ks 0 hpos)
        have k1 := hc i _ (ints'_get ks i (by omega))
        have HEach := hid (fun (j : Nat) (hj : j < ks.length) (h1 : 1 < ks.length) => show Calls Tryz.prog 35 #[.pointer (some ⟨X.x, 0, none⟩), .int .i64 j, .int .i64 ((ks.length : Int) - 1)] w4 fun e w' => e = .returned (.tuple #[.int .i64 (ks.getD j 0), .int .i64 0]) ∧ w4 = w' from by
          have := HR.out.quantile j ((ks.length : Int) - 1)
          rwa [quan_each HLn.out hj h1] at this)
        rw [hi] at HQ2
        have k2 : w4.cell? ad = some (.int .i64 (ks.getD 0 0)) := by rwa [show ad.add 0 = ad by unfold Addr.add; simp] at k0
        generalize ks.getD 0 0 = x0 at *
        generalize ks.getD i 0 = x1 at *
        obtain ⟨N, hN⟩ : ∃ N, ks.length = N := ⟨_, rfl⟩
        have HNn := hid hN
        rw [hN] at HEach hpos hi ⊢
        have hNb : (N : Int) ≤ 300 := by have := HLn.out; omega
        have hNz : ((N : Int) == 0) = false := by rw [beq_eq_false_iff_ne]; omega
        have hNy : N ≠ 0 := by omega
        have hN0 : (0 : Int) < (N : Int) := by omega
        have e1 : IntKind.i64.wrap ((N : Int) - 1) = (i : Int) := by rw [show (N : Int) - 1 = (i : Int) by omega]; exact IntWalk.i64_in _ (by omega)
        have hi0 : (0 : Int) ≤ (i : Int) := by omega
        have hi1 : (i : Int) < (N : Int) := by omega
        have HI := hid hi
        have hE2 : ((N : Int) - 1) = (i : Int) := by omega
        rw [hE2] at HEach
        clear he hq1 hq2 hA5 hc hpos hi hN hE2
        go_upto_region 18 with (first
          | (go_at_call 35; (with_reducible refine HQ1.out.mono ?_); rintro e w5 ⟨rfl, rfl⟩)
          | (go_at_call 35; (with_reducible refine HQ2.out.mono ?_); rintro e w5 ⟨rfl, rfl⟩))
        clear k0 k1 k2
        go_wp2_with fail
        go_loopw [6, 19, 20, 21] (fun r j _ _ wx => ∃ k : Nat, k ≤ N ∧ r = .bool false ∧ j = .int .i64 k ∧ w4 = wx) (fun _ j _ _ _ => (N - intOf j).toNat)
        case atStart => exact ⟨0, by omega, rfl, rfl, rfl⟩
        case round =>
          obtain ⟨k, hk, rfl, rfl, rfl⟩ := hrel
          by_cases h1 : 1 < N
          · have d1 : decide ((1 : Int) < (N : Int)) = true := decide_eq_true (by omega)
            have d1' : decide (1 < N) = true := decide_eq_true h1
            have d1I : (1 : Int) < (N : Int) := by omega
            by_cases hlt : k < N
            · have hltI : (k : Int) < N := by omega
              have hk0 : (0 : Int) ≤ k := by omega
              have hkb : (k : Int) < 300 := by omega
              have HQ := hid (HEach.out k hlt h1)
              have c2 := HC.out k _ (ints'_get ks k (by have := HNn.out; omega))
              have HK := hid (And.intro hk hlt)
              clear hk hlt h1
              generalize ks.getD k 0 = x at *
              go_wp2_with (go_at_call 35; (with_reducible refine HQ.out.mono ?_); rintro e w5 ⟨rfl, rfl⟩)
              exact ⟨⟨k + 1, by have := HK.out; omega, rfl, by go_num, trivial⟩, by have := HK.out; simp [intOf]; omega⟩
            · have hltI : ¬ (k : Int) < N := by omega
              clear hk hlt h1
              go_wp2_with (go_at_call 27; (with_reducible refine (HAw.out w4 HF4.out).mono ?_); rintro e w7 ⟨rfl, h7⟩; have HF7 := hid h7; clear h7)
              go_ret
              exact ⟨rfl, HF4.out.trans HF7.out⟩
          · have d1 : decide ((1 : Int) < (N : Int)) = false := decide_eq_false (by omega)
            have d1' : decide (1 < N) = false := decide_eq_false h1
            have d1I : ¬ (1 : Int) < (N : Int) := by omega
            by_cases hlt : k < N
            · have hltI : (k : Int) < N := by omega
              clear hk hlt h1
              go_wp2_with (go_at_call 27; (with_reducible refine (HAw.out w4 HF4.out).mono ?_); rintro e w7 ⟨rfl, h7⟩; have HF7 := hid h7; clear h7)
              go_ret
              exact ⟨rfl, HF4.out.trans HF7.out⟩
            · have hltI : ¬ (k : Int) < N := by omega
              clear hk hlt h1
              go_wp2_with (go_at_call 27; (with_reducible refine (HAw.out w4 HF4.out).mono ?_); rintro e w7 ⟨rfl, h7⟩; have HF7 := hid h7; clear h7)
              go_ret
              exact ⟨rfl, HF4.out.trans HF7.out⟩
end Go.Proofs.YtmbkmojekpkfhaaGreatDoor
