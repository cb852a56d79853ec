/- The document's answer of layer 22: Even. -/
import Derived.Test.YtonoaklajnfmiaaDoorT4
set_option linter.unusedVariables false
set_option linter.unusedSimpArgs false
namespace Go.Proofs.YtonoaklajnfmiaaDoor
open Go.RowKit

set_option maxHeartbeats 4000000 in
theorem refEven_any {σ : List (Option Int)} {w : World} (g : Nat) (h1 : Has w g (slotCells σ) 38) (hn : σ.length ≤ 65536) (hG : NG ≤ w.heap.size) (k f s c : Int) (hf1 : -9223372036854775808 ≤ f) (hf2 : f ≤ 9223372036854775807) (hs1 : -9223372036854775808 ≤ s) (hs2 : s ≤ 9223372036854775807) :
    Calls Tryd.prog 18 #[.slice (some ⟨g, 0, none⟩) σ.length σ.length, .agg #[.int .i64 k, .int .i64 f, .int .i64 s, .int .i64 c]] w fun e w' => e = .returned (.tuple #[.bool (evB σ k f s), .int .i64 (evE σ k f s)]) ∧ Fr Nil1 w w' := by
  have f0 : Fr Nil1 w (w.alloc (.cells #[.int .i64 k, .int .i64 f, .int .i64 s, .int .i64 c] 45)) := (Fr.refl _ _).alloc _
  have HF := hid f0
  have HBX := hid (Has.new w [.int .i64 k, .int .i64 f, .int .i64 s, .int .i64 c] 45)
  have H1 := hid (h1.fr' f0 id)
  have HG := hid hG
  have HN := hid hn
  clear h1 f0 hG hn
  by_cases hk0 : k = 0
  · have HV := hid (show evB σ k f s = true ∧ evE σ k f s = 0 by unfold evB evE; rw [if_pos hk0, if_pos hk0]; exact ⟨rfl, rfl⟩)
    have hkb : (k == 0) = true := by rw [beq_iff_eq]; exact hk0
    clear hk0
    go_enter Tryd.func18, Tryd.ntmps18
    go_wp2_with fail
    go_ret2
    rw [HV.out.1, HV.out.2]
    exact ⟨rfl, HF.out⟩
  · have hkb : (k == 0) = false := by rw [beq_eq_false_iff_ne]; exact hk0
    by_cases c0 : s < 1
    · have HV := hid (ev_bad hk0 (show evBad σ.length f s by unfold evBad; omega))
      clear hk0
      go_enter Tryd.func18, Tryd.ntmps18
      go_wp2_with fail
      go_ret2
      rw [HV.out.1, HV.out.2]
      exact ⟨rfl, HF.out⟩
    · skip
      by_cases c1 : 512 < s
      · have HV := hid (ev_bad hk0 (show evBad σ.length f s by unfold evBad; omega))
        clear hk0
        go_enter Tryd.func18, Tryd.ntmps18
        go_wp2_with fail
        go_ret2
        rw [HV.out.1, HV.out.2]
        exact ⟨rfl, HF.out⟩
      · skip
        by_cases c2 : f < 0
        · have HV := hid (ev_bad hk0 (show evBad σ.length f s by unfold evBad; omega))
          clear hk0
          go_enter Tryd.func18, Tryd.ntmps18
          go_wp2_with fail
          go_ret2
          rw [HV.out.1, HV.out.2]
          exact ⟨rfl, HF.out⟩
        · skip
          by_cases c3 : 512 - s < f
          · have HV := hid (ev_bad hk0 (show evBad σ.length f s by unfold evBad; omega))
            have q1 : IntKind.i64.wrap (512 - s) = 512 - s := IntWalk.i64_in _ (by omega)
            clear hk0
            go_enter Tryd.func18, Tryd.ntmps18
            go_wp2_with fail
            go_ret2
            rw [HV.out.1, HV.out.2]
            exact ⟨rfl, HF.out⟩
          · skip
            by_cases c4 : (σ.length : Int) < 8 * (f + s)
            · have HV := hid (ev_bad hk0 (show evBad σ.length f s by unfold evBad; omega))
              have q1 : IntKind.i64.wrap (512 - s) = 512 - s := IntWalk.i64_in _ (by omega)
              have q2 : IntKind.i64.wrap (f + s) = f + s := IntWalk.i64_in _ (by omega)
              have q3 : IntKind.i64.wrap (8 * (f + s)) = 8 * (f + s) := IntWalk.i64_in _ (by omega)
              clear hk0
              go_enter Tryd.func18, Tryd.ntmps18
              go_wp2_with fail
              go_ret2
              rw [HV.out.1, HV.out.2]
              exact ⟨rfl, HF.out⟩
            · skip
              have HV := hid (ev_good hk0 (show ¬ evBad σ.length f s by unfold evBad; omega))
              have q1 : IntKind.i64.wrap (512 - s) = 512 - s := IntWalk.i64_in _ (by omega)
              have q2 : IntKind.i64.wrap (f + s) = f + s := IntWalk.i64_in _ (by omega)
              have q3 : IntKind.i64.wrap (8 * (f + s)) = 8 * (f + s) := IntWalk.i64_in _ (by omega)
              have hhl := evHave_length σ f s
              have hFf : f = (f.toNat : Int) := by omega
              have hSs : s = (s.toNat : Int) := by omega
              have HIn := hid (refIn_any g H1.out f s (by omega) (by omega) (by omega) HN.out (by have := HG.out; simp; omega))
              have HPl := hid (fun w' (h : NG ≤ w'.heap.size) => ref4Places_any (evHave σ f s).length f.toNat s.toNat (by omega) (by omega) hhl (by omega) w' h)
              rw [← hFf, ← hSs] at HPl
              have HWL := hid (evWant_length σ f s (by omega))
              have HWE := hid (show plcL (evHave σ f s).length f.toNat s.toNat = evWant σ f s from rfl)
              have HHE := hid (show inTo σ (8 * f.toNat) (8 * s.toNat) = evHave σ f s from rfl)
              clear hk0 hFf hSs
              generalize evHave σ f s = xs at *
              generalize evWant σ f s = ys at *
              go_enter Tryd.func18, Tryd.ntmps18
              go_wp2_with (first | (go_at_call 37; refine HIn.out.mono ?_; rintro e w1 ⟨v1, rfl, hR, hF⟩; rw [HHE.out] at hR; have HR1 := hid (hR.rd (by omega)); have HF1 := hid hF; have a1 : w1.cell? ⟨w.heap.size, 1, none⟩ = some (.int .i64 f) := (HBX.out.fr' hF id).cell 1; have a2 : w1.cell? ⟨w.heap.size, 2, none⟩ = some (.int .i64 s) := (HBX.out.fr' hF id).cell 2; obtain ⟨A1, cc1, e1, _, hA1⟩ := HR1.out; have HA1 := hid hA1; rw [ints'_length] at e1; subst e1; clear hR hF hA1) | (go_at_call 45; refine (HPl.out _ (by have := HG.out; have := HF.out.size; have := HF1.out.size; omega)).mono ?_; rintro e w2 ⟨v2, rfl, hR, hF⟩; rw [HWE.out] at hR; have HR2 := hid (hR.rd (by have := HWL.out; omega)); have HF2 := hid hF; obtain ⟨A2, cc2, e2, _, hA2⟩ := HR2.out; have HA2 := hid hA2; rw [ints'_length] at e2; subst e2; clear hR hF hA2))
              go_loopw [4, 5, 8] (fun _ _ i wr => ∃ (j m : Nat), j ≤ xs.length ∧ i = .int .i64 j ∧ wr = w2.drewN m ∧ Hid (∀ t, t < j → xs.getD t 0 = ys.getD t 0)) (fun _ _ i _ => xs.length - (intOf i).toNat)
              case atStart => exact ⟨0, 0, by omega, rfl, rfl, hid (fun t ht => by omega)⟩
              case round =>
                obtain ⟨j, m, hj, rfl, rfl, HRj⟩ := hrel
                by_cases hlt : j < xs.length
                · have hltI : (j : Int) < xs.length := by omega
                  have hlty : (j : Int) < ys.length := by have := HWL.out; omega
                  obtain ⟨ad1, rfl, hc1⟩ := HA1.out (by rw [ints'_length]; omega)
                  obtain ⟨ad2, rfl, hc2⟩ := HA2.out (by rw [ints'_length]; have := HWL.out; omega)
                  have d1 : w2.cell? (ad1.add j) = some (.int .i64 (xs.getD j 0)) := HF2.out.cell (hc1 j _ (ints'_get xs j hlt)) (fun h => h)
                  have d2 : w2.cell? (ad2.add j) = some (.int .i64 (ys.getD j 0)) := hc2 j _ (ints'_get ys j (by have := HWL.out; omega))
                  clear hc1 hc2
                  have HEQ := hid (show (xs.getD j 0 = ys.getD j 0) → ∀ t, t < j + 1 → xs.getD t 0 = ys.getD t 0 from fun he t ht => by
                    rcases Nat.lt_or_ge t j with h | h
                    · exact HRj.out t h
                    · obtain rfl : t = j := by omega
                      exact he)
                  have HNE := hid (show ¬ (xs.getD j 0 = ys.getD j 0) → ¬ xs = ys from fun h e => h (by rw [e]))
                  generalize xs.getD j 0 = x at *
                  generalize ys.getD j 0 = y at *
                  by_cases he : x = y
                  · have hb : (x != y) = false := by rw [bne_eq_false_iff_eq]; exact he
                    have HE1 := hid (HEQ.out he)
                    clear he
                    go_wp2_with fail
                    go_quiet (fail)
                    go_wp2_with fail
                    refine ⟨⟨j + 1, m + nq, by omega, by go_num, rfl, HE1⟩, by simp [intOf]; omega⟩
                  · have hb : (x != y) = true := by rw [bne_iff_ne]; exact he
                    have HE1 := hid (HNE.out he)
                    clear he
                    go_wp2_with fail
                    go_quiet (fail)
                    go_wp2_with fail
                    go_ret2
                    rw [HV.out.1, HV.out.2, decide_eq_false HE1.out]
                    exact ⟨rfl, HF.out.trans (((HF1.out.trans HF2.out).drewN _).drewN _)⟩
                · have HE1 := hid (show xs = ys by
                    apply List.ext_getElem HWL.out.symm
                    intro i a b
                    have := HRj.out i (by omega)
                    rw [List.getD_eq_getElem?_getD, List.getElem?_eq_getElem a, List.getD_eq_getElem?_getD, List.getElem?_eq_getElem b] at this
                    exact this)
                  have hltI : ¬ (j : Int) < xs.length := by omega
                  go_wp2_with fail
                  go_ret2
                  rw [HV.out.1, HV.out.2, decide_eq_true HE1.out]
                  exact ⟨rfl, HF.out.trans ((HF1.out.trans HF2.out).drewN _)⟩
end Go.Proofs.YtonoaklajnfmiaaDoor
