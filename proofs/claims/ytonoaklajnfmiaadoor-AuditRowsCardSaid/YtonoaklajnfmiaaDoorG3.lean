/- The document's answer of layer 22: how an array, and counts, are wrong. -/
import Derived.Test.YtonoaklajnfmiaaDoorG2
set_option linter.unusedVariables false
set_option linter.unusedSimpArgs false
namespace Go.Proofs.YtonoaklajnfmiaaDoor
open Go.RowKit

set_option maxHeartbeats 4000000 in
theorem refRow_any {σ : List (Option Int)} {w : World} (g : Nat) (h1 : Has w g (slotCells σ) 38) (hn : σ.length ≤ 65536) (hG : NG ≤ w.heap.size) (v : Value) (counts : List Int) (hv : Rd w v (ints' counts)) :
    Calls Tryd.prog 14 #[.slice (some ⟨g, 0, none⟩) σ.length σ.length, v] w fun e w' => e = .returned (.int .i64 (rowE σ counts)) ∧ Fr Nil1 w w' := by
  have H1 := hid h1
  have HG := hid hG
  obtain ⟨A, c, rfl, hb, hA⟩ := hv
  rw [ints'_length] at hb hA ⊢
  have HA := hid hA
  have HrE := hid (show rowE σ counts = if mayB σ.length = false then 19 else if cntL σ ≠ counts then 20 else if 7 < maxL (cntL σ) then 22 else if 32 < σ.length ∧ minL (cntL σ) < 1 then 21 else 0 from rfl)
  have HZ := hid (refHeight_any (σ.length : Int))
  have HZN := hid (heightZ_neg σ.length)
  clear h1 hG hA
  cases hm : mayB (σ.length : Int)
  · have hneg : heightZ (σ.length : Int) < 0 := HZN.out.2 hm
    have hre := hid (show rowE σ counts = 19 by rw [HrE.out, if_pos hm])
    clear hm
    generalize heightZ (σ.length : Int) = z at *
    go_enter Tryd.func14, Tryd.ntmps14
    go_wp2_with (first | (go_at_call 36; refine (HZ.out _).mono ?_; rintro e w1 ⟨rfl, rfl⟩))
    go_ret
    rw [hre.out]
    exact ⟨rfl, Fr.refl _ _⟩
  · have hneg : ¬ heightZ (σ.length : Int) < 0 := fun h => by rw [HZN.out.1 h] at hm; cases hm
    have HM := hid hm
    have HMul := hid (mayB_mul _ hm)
    have h32 : 32 ≤ σ.length := by
      rcases Nat.lt_or_ge σ.length 32 with g | g
      · unfold mayB at hm; rw [Int.toNat_natCast, mayN_big _ (.inl g)] at hm; simp at hm
      · exact g
    clear hm
    generalize heightZ (σ.length : Int) = z at *
    obtain ⟨m, hmm⟩ : ∃ m, σ.length / 8 = m := ⟨_, rfl⟩
    have hm8 : σ.length = 8 * m := by have := HMul.out; omega
    have HM8 := hid hm8
    have hmI : (σ.length : Int) / 8 = (m : Int) := by omega
    have hm4 : 4 ≤ m := by omega
    have HMM := hid hmm
    clear hm8 hmm
    go_enter Tryd.func14, Tryd.ntmps14
    go_wp2_with (first | (go_at_call 36; refine (HZ.out _).mono ?_; rintro e w1 ⟨rfl, rfl⟩))
    go_loopw [5, 6, 7, 8] (fun mo le k x wr => ∃ j : Nat, j ≤ m ∧ k = .int .i64 j ∧ mo = .int .i64 (mostTo σ j : Nat) ∧ le = .int .i64 (leastTo σ j : Nat) ∧ Hid (Fr Nil1 w wr ∧ j ≤ counts.length ∧ ∀ q, q < j → counts.getD q 0 = (segC σ q : Int))) (fun _ _ k _ _ => m - (intOf k).toNat)
    case atStart => exact ⟨0, by omega, rfl, rfl, rfl, hid ⟨Fr.refl _ _, by omega, fun q hq => by omega⟩⟩
    case round =>
      obtain ⟨j, hj, rfl, rfl, rfl, HR⟩ := hrel
      have hms : ∀ k, mostTo σ k ≤ 8 := by
        intro k
        induction k with
        | zero => simp [mostTo]
        | succ k ih => have := segC_le σ k; unfold mostTo; split <;> omega
      have hls : ∀ k, leastTo σ k ≤ 8 := by
        intro k
        induction k with
        | zero => simp [leastTo]
        | succ k ih => have := segC_le σ k; unfold leastTo; split <;> omega
      have hms1 := hms j
      have hls1 := hls j
      clear hms hls
      by_cases hlt : j < m
      · have hIn := refIn_any g (H1.out.fr' HR.out.1 id) (j : Int) 1 (by omega) (by omega) (by have := HM8.out; omega) hn (Nat.le_trans HG.out HR.out.1.size)
        rw [Int.toNat_natCast, show 8 * (1 : Int).toNat = 8 from rfl] at hIn
        have HI := hid hIn
        have hlI : (j : Int) < (m : Int) := by omega
        have HSeg := hid (show (inTo σ (8 * j) 8).length = segC σ j from rfl)
        have hsl := segC_le σ j
        have HMo := hid (show mostTo σ (j + 1) = if mostTo σ j < segC σ j then segC σ j else mostTo σ j from rfl)
        have HLe := hid (show leastTo σ (j + 1) = if segC σ j < leastTo σ j then segC σ j else leastTo σ j from rfl)
        clear hIn
        by_cases hc1 : counts.length ≤ j
        · have hre := hid (show rowE σ counts = 20 by
            rw [HrE.out, if_neg (by rw [HM.out]; simp), if_pos (fun e => by have := cntL_length σ; rw [e, HMM.out] at this; omega)])
          have hcI : (counts.length : Int) ≤ (j : Int) := by omega
          go_wp2_with (first | (go_at_call 37; refine HI.out.mono ?_; rintro e w1 ⟨v1, rfl, hv1, hf1⟩; have HF1 := hid hf1; obtain ⟨A1, c1, e1, _⟩ := hv1.rd (by have := HSeg.out; omega); rw [ints'_length, HSeg.out] at e1; subst e1; clear hv1 hf1))
          go_ret
          rw [hre.out]
          exact ⟨rfl, HR.out.1.trans HF1.out⟩
        · obtain ⟨ad, rfl, hc⟩ := HA.out (by omega)
          have c1 := hc j _ (ints'_get counts j (by omega))
          have hcI : ¬ (counts.length : Int) ≤ (j : Int) := by omega
          by_cases he : counts.getD j 0 = (segC σ j : Int)
          · have HE := hid he
            have hbe : (counts.getD j 0 != (segC σ j : Int)) = false := by rw [bne_eq_false_iff_eq]; exact he
            clear he hc
            have HC1 := hid c1
            clear c1
            have C2 := hid (fun (w1 : World) (hf : Fr Nil1 wr w1) => (HR.out.1.trans hf).cell HC1.out (fun h => h))
            have HNx := hid (fun (w1 : World) (hf : Fr Nil1 wr w1) => show Hid (Fr Nil1 w w1 ∧ j + 1 ≤ counts.length ∧ ∀ q, q < j + 1 → counts.getD q 0 = (segC σ q : Int)) from hid ⟨HR.out.1.trans hf, by omega, fun q hq => by
              rcases Nat.lt_or_ge q j with h | h
              · exact HR.out.2.2 q h
              · obtain rfl : q = j := by omega
                exact HE.out⟩)
            clear HC1 HE
            generalize counts.getD j 0 = y at hbe C2
            generalize hsg : segC σ j = s at hsl hbe HSeg HMo HLe
            generalize hmo : mostTo σ j = mo at hms1 HMo ⊢
            generalize hle : leastTo σ j = le at hls1 HLe ⊢
            clear hsg hmo hle
            have hcase1 : mo < s ∨ ¬ mo < s := by omega
            have hcase2 : s < le ∨ ¬ s < le := by omega
            rcases hcase1 with hc1 | hc1 <;> rcases hcase2 with hc2 | hc2
            · have e1 := hid (show mostTo σ (j + 1) = s by rw [HMo.out, if_pos hc1])
              have e2 := hid (show leastTo σ (j + 1) = s by rw [HLe.out, if_pos hc2])
              have hc1' : (mo : Int) < (s : Int) := by omega
              have hc2' : (s : Int) < (le : Int) := by omega
              go_wp2_with (first | (go_at_call 37; refine HI.out.mono ?_; rintro e w1 ⟨v1, rfl, hv1, hf1⟩; have HF1 := hid hf1; have c1 := C2.out _ hf1; obtain ⟨A1, c1, e1, _⟩ := hv1.rd (by have := HSeg.out; omega); rw [ints'_length, HSeg.out] at e1; subst e1; clear hv1 hf1))
              exact ⟨⟨j + 1, by omega, by go_num, by rw [e1.out], by rw [e2.out], HNx.out _ HF1.out⟩, by simp [intOf]; omega⟩
            · have e1 := hid (show mostTo σ (j + 1) = s by rw [HMo.out, if_pos hc1])
              have e2 := hid (show leastTo σ (j + 1) = le by rw [HLe.out, if_neg hc2])
              have hc1' : (mo : Int) < (s : Int) := by omega
              have hc2' : ¬ (s : Int) < (le : Int) := by omega
              go_wp2_with (first | (go_at_call 37; refine HI.out.mono ?_; rintro e w1 ⟨v1, rfl, hv1, hf1⟩; have HF1 := hid hf1; have c1 := C2.out _ hf1; obtain ⟨A1, c1, e1, _⟩ := hv1.rd (by have := HSeg.out; omega); rw [ints'_length, HSeg.out] at e1; subst e1; clear hv1 hf1))
              exact ⟨⟨j + 1, by omega, by go_num, by rw [e1.out], by rw [e2.out], HNx.out _ HF1.out⟩, by simp [intOf]; omega⟩
            · have e1 := hid (show mostTo σ (j + 1) = mo by rw [HMo.out, if_neg hc1])
              have e2 := hid (show leastTo σ (j + 1) = s by rw [HLe.out, if_pos hc2])
              have hc1' : ¬ (mo : Int) < (s : Int) := by omega
              have hc2' : (s : Int) < (le : Int) := by omega
              go_wp2_with (first | (go_at_call 37; refine HI.out.mono ?_; rintro e w1 ⟨v1, rfl, hv1, hf1⟩; have HF1 := hid hf1; have c1 := C2.out _ hf1; obtain ⟨A1, c1, e1, _⟩ := hv1.rd (by have := HSeg.out; omega); rw [ints'_length, HSeg.out] at e1; subst e1; clear hv1 hf1))
              exact ⟨⟨j + 1, by omega, by go_num, by rw [e1.out], by rw [e2.out], HNx.out _ HF1.out⟩, by simp [intOf]; omega⟩
            · have e1 := hid (show mostTo σ (j + 1) = mo by rw [HMo.out, if_neg hc1])
              have e2 := hid (show leastTo σ (j + 1) = le by rw [HLe.out, if_neg hc2])
              have hc1' : ¬ (mo : Int) < (s : Int) := by omega
              have hc2' : ¬ (s : Int) < (le : Int) := by omega
              go_wp2_with (first | (go_at_call 37; refine HI.out.mono ?_; rintro e w1 ⟨v1, rfl, hv1, hf1⟩; have HF1 := hid hf1; have c1 := C2.out _ hf1; obtain ⟨A1, c1, e1, _⟩ := hv1.rd (by have := HSeg.out; omega); rw [ints'_length, HSeg.out] at e1; subst e1; clear hv1 hf1))
              exact ⟨⟨j + 1, by omega, by go_num, by rw [e1.out], by rw [e2.out], HNx.out _ HF1.out⟩, by simp [intOf]; omega⟩
          · have hre := hid (show rowE σ counts = 20 by
              rw [HrE.out, if_neg (by rw [HM.out]; simp), if_pos (fun e => he (by rw [← e, cntL_get σ (by rw [HMM.out]; exact HM8.out) j (by rw [HMM.out]; exact hlt)]))])
            have hbe : (counts.getD j 0 != (segC σ j : Int)) = true := by rw [bne_iff_ne]; exact he
            have HC1 := hid c1
            have C2 := hid (fun (w1 : World) (hf : Fr Nil1 wr w1) => (HR.out.1.trans hf).cell HC1.out (fun h => h))
            clear he hc c1 HC1
            generalize counts.getD j 0 = y at hbe C2
            generalize hsg : segC σ j = s at hsl hbe HSeg HMo HLe
            clear hsg
            go_wp2_with (first | (go_at_call 37; refine HI.out.mono ?_; rintro e w1 ⟨v1, rfl, hv1, hf1⟩; have HF1 := hid hf1; have c1 := C2.out _ hf1; obtain ⟨A1, c1, e1, _⟩ := hv1.rd (by have := HSeg.out; omega); rw [ints'_length, HSeg.out] at e1; subst e1; clear hv1 hf1))
            go_ret
            rw [hre.out]
            exact ⟨rfl, HR.out.1.trans HF1.out⟩
      · have hjm : j = m := by omega
        subst hjm
        have hjI : ¬ (j : Int) < (j : Int) := by omega
        by_cases hcl : counts.length = j
        · have hce : cntL σ = counts := by
            apply List.ext_getElem (by rw [cntL_length, HMM.out, hcl])
            intro i a b
            have h1 := cntL_get σ (by rw [HMM.out]; exact HM8.out) i (by rw [cntL_length, HMM.out] at a; rw [HMM.out]; exact a)
            have h2 := HR.out.2.2 i (by omega)
            rw [List.getD_eq_getElem?_getD, List.getElem?_eq_getElem a] at h1
            rw [List.getD_eq_getElem?_getD, List.getElem?_eq_getElem b] at h2
            simp only [Option.getD_some] at h1 h2
            rw [h1, h2]
          have HCE := hid hce
          have i1 := most_max σ (by rw [HMM.out]; exact HM8.out) (by rw [HMM.out]; omega)
          have i2 := least_min σ (by rw [HMM.out]; exact HM8.out) (by rw [HMM.out]; omega)
          rw [HMM.out] at i1 i2
          have I1 := hid i1
          have I2 := hid i2
          have hcb : ((counts.length : Int) != (j : Int)) = false := by rw [bne_eq_false_iff_eq]; omega
          have HCL := hid hcl
          clear hce i1 i2 hcl
          generalize mostTo σ j = mo at *
          generalize leastTo σ j = le at *
          by_cases hmo : 7 < mo
          · have hre := hid (show rowE σ counts = 22 by rw [HrE.out, if_neg (by rw [HM.out]; simp), if_neg (fun h => h HCE.out), if_pos (I1.out.1 hmo)])
            have hmo' : (7 : Int) < (mo : Int) := by omega
            go_wp2_with fail
            go_ret
            rw [hre.out]
            exact ⟨rfl, HR.out.1⟩
          · by_cases hle : 32 < σ.length ∧ le < 1
            · have hre := hid (show rowE σ counts = 21 by rw [HrE.out, if_neg (by rw [HM.out]; simp), if_neg (fun h => h HCE.out), if_neg (fun h => hmo (I1.out.2 h)), if_pos ⟨hle.1, I2.out.1 hle.2⟩])
              obtain ⟨hl1, hl2⟩ := hle
              obtain rfl : le = 0 := by omega
              have hl1' : (32 : Int) < (σ.length : Int) := by omega
              have hmo' : ¬ (7 : Int) < (mo : Int) := by omega
              go_wp2_with fail
              go_ret
              rw [hre.out]
              exact ⟨rfl, HR.out.1⟩
            · have hre := hid (show rowE σ counts = 0 by rw [HrE.out, if_neg (by rw [HM.out]; simp), if_neg (fun h => h HCE.out), if_neg (fun h => hmo (I1.out.2 h)), if_neg (fun h => hle ⟨h.1, I2.out.2 h.2⟩)])
              have hmo' : ¬ (7 : Int) < (mo : Int) := by omega
              by_cases hl1 : 32 < σ.length
              · have hl1' : (32 : Int) < (σ.length : Int) := by omega
                have hlb : ((le : Int) == 0) = false := by rw [beq_eq_false_iff_ne]; omega
                clear hle
                go_wp2_with fail
                go_ret
                rw [hre.out]
                exact ⟨rfl, HR.out.1⟩
              · have hl1' : ¬ (32 : Int) < (σ.length : Int) := by omega
                clear hle
                go_wp2_with fail
                go_ret
                rw [hre.out]
                exact ⟨rfl, HR.out.1⟩
        · have hre := hid (show rowE σ counts = 20 by
            rw [HrE.out, if_neg (by rw [HM.out]; simp), if_pos (fun e => by have := cntL_length σ; rw [e, HMM.out] at this; omega)])
          have hcb : ((counts.length : Int) != (j : Int)) = true := by rw [bne_iff_ne]; omega
          clear hcl
          go_wp2_with fail
          go_ret
          rw [hre.out]
          exact ⟨rfl, HR.out.1⟩
end Go.Proofs.YtonoaklajnfmiaaDoor
