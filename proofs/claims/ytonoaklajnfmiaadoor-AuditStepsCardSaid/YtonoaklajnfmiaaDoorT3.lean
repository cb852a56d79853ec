/- The document's answer of layer 22: Inside. -/
import Derived.Test.YtonoaklajnfmiaaDoorT2
import Derived.Test.YtonoaklajnfmiaaDoorD3
set_option linter.unusedVariables false
set_option linter.unusedSimpArgs false
namespace Go.Proofs.YtonoaklajnfmiaaDoor
open Go.RowKit

set_option maxHeartbeats 4000000 in
theorem refInside_any {σ τ : List (Option Int)} {w : World} (g h : Nat) (h1 : Has w g (slotCells σ) 38) (h2 : Has w h (slotCells τ) 38) (hn : σ.length ≤ 65536) (hG : NG ≤ w.heap.size) (k f s c : Int) (hk : kindB k = true) (hf : -1000000 ≤ f) (hs : s ≤ 1000000) (hf2 : f ≤ 9223372036854775807) :
    Calls Tryd.prog 19 #[.slice (some ⟨g, 0, none⟩) σ.length σ.length, .slice (some ⟨h, 0, none⟩) τ.length τ.length, .agg #[.int .i64 k, .int .i64 f, .int .i64 s, .int .i64 c]] w fun e w' => e = .returned (.bool (insV σ τ k f s c)) ∧ Fr Nil1 w w' := by
  have f0 : Fr Nil1 w (w.alloc (.cells #[.int .i64 k, .int .i64 f, .int .i64 s, .int .i64 c] 45)) := (Fr.refl _ _).alloc _
  have HF := hid f0
  have HBX := hid (Has.new w [.int .i64 k, .int .i64 f, .int .i64 s, .int .i64 c] 45)
  have H1 := hid (h1.fr' f0 id)
  have H2 := hid (h2.fr' f0 id)
  have HV := hid (show insV σ τ k f s c = if k = 2 ∨ k = 3 then decide ((τ.length : Int) = c) && decide ((σ.length : Int) ≠ c) else if σ.length ≠ τ.length then false else allIn k f s (turnedL σ τ) from rfl)
  have HN := hid hn
  have HG := hid hG
  clear h1 h2 hk f0 hG hn
  by_cases hg : k = 2 ∨ k = 3
  · have HV1 := hid (show insV σ τ k f s c = (decide ((τ.length : Int) = c) && decide ((σ.length : Int) ≠ c)) by rw [HV.out, if_pos hg])
    have hkk : (k == 2) = true ∨ ((k == 2) = false ∧ (k == 3) = true) := by
      rcases hg with rfl | rfl
      · exact .inl rfl
      · exact .inr ⟨rfl, rfl⟩
    clear hg
    by_cases hc1 : (τ.length : Int) = c
    · have hb1 : ((τ.length : Int) == c) = true := by rw [beq_iff_eq]; exact hc1
      have HV2 := hid (show insV σ τ k f s c = ((σ.length : Int) != c) by
        rw [HV1.out, decide_eq_true hc1, Bool.true_and]
        by_cases h : (σ.length : Int) = c
        · rw [decide_eq_false (by simpa using h), h]; simp
        · rw [decide_eq_true h]; exact (bne_iff_ne.2 h).symm)
      clear hc1
      rcases hkk with hkk | ⟨hkk, hkk2⟩
      · go_enter Tryd.func19, Tryd.ntmps19
        go_wp2_with fail
        go_ret
        rw [HV2.out]
        exact ⟨rfl, HF.out⟩
      · go_enter Tryd.func19, Tryd.ntmps19
        go_wp2_with fail
        go_ret
        rw [HV2.out]
        exact ⟨rfl, HF.out⟩
    · have hb1 : ((τ.length : Int) == c) = false := by rw [beq_eq_false_iff_ne]; exact hc1
      have HV2 := hid (show insV σ τ k f s c = false by rw [HV1.out, decide_eq_false hc1, Bool.false_and])
      clear hc1
      rcases hkk with hkk | ⟨hkk, hkk2⟩
      · go_enter Tryd.func19, Tryd.ntmps19
        go_wp2_with fail
        go_ret
        rw [HV2.out]
        exact ⟨rfl, HF.out⟩
      · go_enter Tryd.func19, Tryd.ntmps19
        go_wp2_with fail
        go_ret
        rw [HV2.out]
        exact ⟨rfl, HF.out⟩
  · have hk2 : (k == 2) = false := by rw [beq_eq_false_iff_ne]; exact fun h => hg (.inl h)
    have hk3 : (k == 3) = false := by rw [beq_eq_false_iff_ne]; exact fun h => hg (.inr h)
    by_cases hl : σ.length = τ.length
    · have HV2 := hid (show insV σ τ k f s c = allIn k f s (turnedL σ τ) by rw [HV.out, if_neg hg, if_neg (fun h => h hl)])
      have hlI : ((σ.length : Int) != (τ.length : Int)) = false := by rw [bne_eq_false_iff_eq]; omega
      have HL := hid hl
      have HB := hid (turnedL_get σ τ HN.out)
      have hln : (turnedL σ τ).length ≤ 65536 := by have := trnTo_length σ τ σ.length; have := HN.out; unfold turnedL; omega
      have HT := hid (refTurned_any g h H1.out H2.out hl HN.out (by have := HG.out; simp; omega))
      clear hg hl
      generalize turnedL σ τ = xs at *
      go_enter Tryd.func19, Tryd.ntmps19
      go_wp2_with (first | (go_at_call 11; refine HT.out.mono ?_; rintro e w1 ⟨v, rfl, hR, hF⟩; have HR := hid (hR.rd (by omega)); have HF1 := hid (HF.out.trans hF); have HBX1 := hid (HBX.out.fr' hF id); obtain ⟨A, cc, e1, _⟩ := HR.out; rw [ints'_length] at e1; subst e1; clear hR hF))
      go_loop [6, 8, 9] (fun _ i _ => ∃ j : Nat, j ≤ xs.length ∧ i = .int .i64 j ∧ Hid (∀ t, t < j → inB k f s (xs.getD t 0 / 8) = true)) (fun _ i _ => xs.length - (intOf i).toNat)
      case atStart => exact ⟨0, by omega, rfl, hid (fun t ht => by omega)⟩
      case round =>
        obtain ⟨j, hj, rfl, HRj⟩ := hrel
        by_cases hlt : j < xs.length
        · have hltI : (j : Int) < xs.length := by omega
          obtain ⟨ad, rfl, hc⟩ : ∃ ad, A = some ad ∧ w1.cell? (ad.add j) = some (.int .i64 (xs.getD j 0)) := by
            obtain ⟨A', c', e', _, h'⟩ := HR.out
            injection e' with e1 e2 e3
            subst e1
            obtain ⟨ad, rfl, hc⟩ := h' (by rw [ints'_length]; omega)
            exact ⟨ad, rfl, hc j _ (ints'_get _ j hlt)⟩
          have a0 : w1.cell? ⟨w.heap.size, 0, none⟩ = some (.int .i64 k) := HBX1.out.cell 0
          have a1 : w1.cell? ⟨w.heap.size, 1, none⟩ = some (.int .i64 f) := HBX1.out.cell 1
          have a2 : w1.cell? ⟨w.heap.size, 2, none⟩ = some (.int .i64 s) := HBX1.out.cell 2
          obtain ⟨x0, x1⟩ := HB.out j hlt
          have HJ := hid (fun h => allIn_false (k := k) (f := f) (s := s) j hlt h)
          have HJT := hid (fun h : inB k f s (xs.getD j 0 / 8) = true => fun t (ht : t < j + 1) => show inB k f s (xs.getD t 0 / 8) = true from by
            rcases Nat.lt_or_ge t j with g | g
            · exact HRj.out t g
            · obtain rfl : t = j := by omega
              exact h)
          have HIB := hid (show inB k f s (xs.getD j 0 / 8) = (decide (k = 1) && decide (0 < s) && decide (f ≤ xs.getD j 0 / 8) && decide (xs.getD j 0 / 8 - f < s)) from rfl)
          generalize xs.getD j 0 = x at *
          by_cases e1 : k = 1
          · have hk1 : (k != 1) = false := by rw [bne_eq_false_iff_eq]; exact e1
            have HE1 := hid e1
            clear e1
            by_cases e2 : f ≤ x / 8
            · have q1 : IntKind.i64.wrap (x / 8 - f) = x / 8 - f := IntWalk.i64_in _ (by omega)
              by_cases e3 : x / 8 - f < s
              · have HJ1 := hid (HJT.out (by rw [HIB.out, decide_eq_true HE1.out, decide_eq_true (show 0 < s by omega), decide_eq_true e2, decide_eq_true e3]; rfl))
                go_wp2_with fail
                exact ⟨⟨j + 1, by omega, by go_num, HJ1⟩, by simp [intOf]; omega⟩
              · have HJ1 := hid (HJ.out (by rw [HIB.out, decide_eq_false e3]; simp))
                go_wp2_with fail
                go_ret
                rw [HV2.out, HJ1.out]
                exact ⟨rfl, HF1.out⟩
            · have HJ1 := hid (HJ.out (by rw [HIB.out, decide_eq_false e2]; simp))
              go_wp2_with fail
              go_ret
              rw [HV2.out, HJ1.out]
              exact ⟨rfl, HF1.out⟩
          · have hk1 : (k != 1) = true := by rw [bne_iff_ne]; exact e1
            have HJ1 := hid (HJ.out (by rw [HIB.out, decide_eq_false e1]; simp))
            clear e1
            go_wp2_with fail
            go_ret
            rw [HV2.out, HJ1.out]
            exact ⟨rfl, HF1.out⟩
        · have HJ1 := hid (allIn_true (k := k) (f := f) (s := s) (fun t ht => HRj.out t (by omega)))
          have hltI : ¬ (j : Int) < xs.length := by omega
          go_wp2_with fail
          go_ret
          rw [HV2.out, HJ1.out]
          exact ⟨rfl, HF1.out⟩
    · have HV2 := hid (show insV σ τ k f s c = false by rw [HV.out, if_neg hg, if_pos hl])
      have hlI : ((σ.length : Int) != (τ.length : Int)) = true := by rw [bne_iff_ne]; omega
      clear hg hl
      go_enter Tryd.func19, Tryd.ntmps19
      go_wp2_with fail
      go_ret
      rw [HV2.out]
      exact ⟨rfl, HF.out⟩
end Go.Proofs.YtonoaklajnfmiaaDoor
