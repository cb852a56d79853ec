/- audit.Inside. -/
import Derived.Test.YtonoaklajnfmiaaDoorT1
import Derived.Test.YtonoaklajnfmiaaDoorD2
import Derived.Test.YtonoaklajnfmiaaDoorD4
set_option linter.unusedVariables false
set_option linter.unusedSimpArgs false
namespace Go.Proofs.YtonoaklajnfmiaaDoor
open Go.RowKit

theorem trnTo_mem (σ τ : List (Option Int)) : ∀ n x, x ∈ trnTo σ τ n → 0 ≤ x ∧ x < n
  | 0, x, h => by cases h
  | n + 1, x, h => by
    rw [show trnTo σ τ (n + 1) = trnTo σ τ n ++ if σ.getD n none ≠ τ.getD n none then [(n : Int)] else [] from rfl] at h
    rcases List.mem_append.1 h with h | h
    · have := trnTo_mem σ τ n x h; omega
    · split at h
      · simp at h; omega
      · cases h
theorem turnedL_get (σ τ : List (Option Int)) (hn : σ.length ≤ 65536) (j : Nat) (hj : j < (turnedL σ τ).length) : 0 ≤ (turnedL σ τ).getD j 0 ∧ (turnedL σ τ).getD j 0 ≤ 65536 := by
  have h : (turnedL σ τ).getD j 0 ∈ turnedL σ τ := by
    rw [List.getD_eq_getElem?_getD, List.getElem?_eq_getElem hj]
    exact List.getElem_mem hj
  have := trnTo_mem σ τ σ.length _ h
  omega

/-- Does what differs lie in a step's window? -/
def insV (σ τ : List (Option Int)) (k f s c : Int) : Bool :=
  if k = 2 ∨ k = 3 then decide ((τ.length : Int) = c) && decide ((σ.length : Int) ≠ c) else if σ.length ≠ τ.length then false else allIn k f s (turnedL σ τ)

theorem inside_nil2 (b : Nat) (x : Value) (k f s c : Int) (w : World) (hx : x = .agg #[.int .i64 k, .int .i64 f, .int .i64 s, .int .i64 c]) :
    Calls Tryd.prog 16 #[.pointer (some ⟨b, 0, none⟩), .pointer none, x] w fun e w' => e = .returned (.tuple #[.bool false, .int .i64 2]) ∧ Fr Nil1 w w' := by
  subst hx
  have HF := hid (show Fr Nil1 w (w.alloc (.cells #[.int .i64 k, .int .i64 f, .int .i64 s, .int .i64 c] 45)) from (Fr.refl _ _).alloc _)
  go_enter Tryd.func16, Tryd.ntmps16
  go_wp2_with fail
  go_ret2
  exact ⟨rfl, HF.out⟩

theorem inside_arg (b d : Nat) (k f s c : Int) (w : World) (hk : kindB k = false) :
    Calls Tryd.prog 16 #[.pointer (some ⟨b, 0, none⟩), .pointer (some ⟨d, 0, none⟩), .agg #[.int .i64 k, .int .i64 f, .int .i64 s, .int .i64 c]] w fun e w' => e = .returned (.tuple #[.bool false, .int .i64 1]) ∧ Fr Nil1 w w' := by
  have HF := hid (show Fr Nil1 w (w.alloc (.cells #[.int .i64 k, .int .i64 f, .int .i64 s, .int .i64 c] 45)) from (Fr.refl _ _).alloc _)
  have HK := hid (fun w => hk ▸ auditKind_any k f s c w)
  clear hk
  go_enter Tryd.func16, Tryd.ntmps16
  go_wp2_with (first | (go_at_call 39; refine (HK.out _).mono ?_; rintro e w1 ⟨rfl, hF⟩; have HF1 := hid (HF.out.trans hF); clear hF))
  go_ret2
  exact ⟨rfl, HF1.out⟩

set_option maxHeartbeats 4000000 in
theorem inside_any {p q : SF} {σ τ : List (Option Int)} {w : World} (h1 : SlotsR w p σ) (h2 : SlotsR w q τ) (k f s c : Int) (hk : kindB k = true) (hf : -9223372036854775808 ≤ f) (hs : s ≤ 9223372036854775807) :
    Calls Tryd.prog 16 #[.pointer (some ⟨p.s, 0, none⟩), .pointer (some ⟨q.s, 0, none⟩), .agg #[.int .i64 k, .int .i64 f, .int .i64 s, .int .i64 c]] w fun e w' => e = .returned (.tuple #[.bool (insV σ τ k f s c), .int .i64 0]) ∧ Fr Nil1 w w' := by
  have f0 : Fr Nil1 w (w.alloc (.cells #[.int .i64 k, .int .i64 f, .int .i64 s, .int .i64 c] 45)) := (Fr.refl _ _).alloc _
  have HF := hid f0
  have HBX := hid (Has.new w [.int .i64 k, .int .i64 f, .int .i64 s, .int .i64 c] 45)
  have H1 := hid (h1.new f0)
  have H2 := hid (h2.new f0)
  have HK := hid (fun w => hk ▸ auditKind_any k f s c w)
  have HV := hid (show insV σ τ k f s c = if k = 2 ∨ k = 3 then decide ((τ.length : Int) = c) && decide ((σ.length : Int) ≠ c) else if σ.length ≠ τ.length then false else allIn k f s (turnedL σ τ) from rfl)
  have hn := h1.bits.n2
  clear h1 h2 hk f0
  by_cases hg : k = 2 ∨ k = 3
  · have HV1 := hid (show insV σ τ k f s c = (decide ((τ.length : Int) = c) && decide ((σ.length : Int) ≠ c)) by rw [HV.out, if_pos hg])
    have hkk : (k == 2) = true ∨ ((k == 2) = false ∧ (k == 3) = true) := by
      rcases hg with rfl | rfl
      · exact .inl rfl
      · exact .inr ⟨rfl, rfl⟩
    clear hg
    by_cases hc1 : (τ.length : Int) = c
    · have hb1 : ((τ.length : Int) == c) = true := by rw [beq_iff_eq]; exact hc1
      have HV2 := hid (show insV σ τ k f s c = ((σ.length : Int) != c) by
        rw [HV1.out, decide_eq_true hc1, Bool.true_and]
        by_cases h : (σ.length : Int) = c
        · rw [decide_eq_false (by simpa using h), h]; simp
        · rw [decide_eq_true h]; exact (bne_iff_ne.2 h).symm)
      rcases hkk with hkk | ⟨hkk, hkk2⟩
      · go_enter Tryd.func16, Tryd.ntmps16
        go_wp2_with (first | (go_at_call 39; refine (HK.out _).mono ?_; rintro e w1 ⟨rfl, hF⟩; have HF1 := hid hF; have a0 : w1.cell? ⟨w.heap.size, 0, none⟩ = some (.int .i64 k) := (HBX.out.fr' hF id).cell 0; have a3 : w1.cell? ⟨w.heap.size, 3, none⟩ = some (.int .i64 c) := (HBX.out.fr' hF id).cell 3; clear hF))
        go_quiet ((go_at_call 28; first | (with_reducible exact quiet_eq (gapsCap_any (H1.out.new (HF1.out.drewN _)))) | (with_reducible exact quiet_eq (gapsCap_any (H2.out.new (HF1.out.drewN _))))))
        go_wp2_with fail
        go_ret2
        rw [HV2.out]
        exact ⟨rfl, HF.out.trans (HF1.out.drewN _)⟩
      · go_enter Tryd.func16, Tryd.ntmps16
        go_wp2_with (first | (go_at_call 39; refine (HK.out _).mono ?_; rintro e w1 ⟨rfl, hF⟩; have HF1 := hid hF; have a0 : w1.cell? ⟨w.heap.size, 0, none⟩ = some (.int .i64 k) := (HBX.out.fr' hF id).cell 0; have a3 : w1.cell? ⟨w.heap.size, 3, none⟩ = some (.int .i64 c) := (HBX.out.fr' hF id).cell 3; clear hF))
        go_quiet ((go_at_call 28; first | (with_reducible exact quiet_eq (gapsCap_any (H1.out.new (HF1.out.drewN _)))) | (with_reducible exact quiet_eq (gapsCap_any (H2.out.new (HF1.out.drewN _))))))
        go_wp2_with fail
        go_ret2
        rw [HV2.out]
        exact ⟨rfl, HF.out.trans (HF1.out.drewN _)⟩
    · have hb1 : ((τ.length : Int) == c) = false := by rw [beq_eq_false_iff_ne]; exact hc1
      have HV2 := hid (show insV σ τ k f s c = false by rw [HV1.out, decide_eq_false hc1, Bool.false_and])
      clear hc1
      rcases hkk with hkk | ⟨hkk, hkk2⟩
      · go_enter Tryd.func16, Tryd.ntmps16
        go_wp2_with (first | (go_at_call 39; refine (HK.out _).mono ?_; rintro e w1 ⟨rfl, hF⟩; have HF1 := hid hF; have a0 : w1.cell? ⟨w.heap.size, 0, none⟩ = some (.int .i64 k) := (HBX.out.fr' hF id).cell 0; have a3 : w1.cell? ⟨w.heap.size, 3, none⟩ = some (.int .i64 c) := (HBX.out.fr' hF id).cell 3; clear hF))
        go_quiet ((go_at_call 28; first | (with_reducible exact quiet_eq (gapsCap_any (H1.out.new (HF1.out.drewN _)))) | (with_reducible exact quiet_eq (gapsCap_any (H2.out.new (HF1.out.drewN _))))))
        go_wp2_with fail
        go_ret2
        rw [HV2.out]
        exact ⟨rfl, HF.out.trans (HF1.out.drewN _)⟩
      · go_enter Tryd.func16, Tryd.ntmps16
        go_wp2_with (first | (go_at_call 39; refine (HK.out _).mono ?_; rintro e w1 ⟨rfl, hF⟩; have HF1 := hid hF; have a0 : w1.cell? ⟨w.heap.size, 0, none⟩ = some (.int .i64 k) := (HBX.out.fr' hF id).cell 0; have a3 : w1.cell? ⟨w.heap.size, 3, none⟩ = some (.int .i64 c) := (HBX.out.fr' hF id).cell 3; clear hF))
        go_quiet ((go_at_call 28; first | (with_reducible exact quiet_eq (gapsCap_any (H1.out.new (HF1.out.drewN _)))) | (with_reducible exact quiet_eq (gapsCap_any (H2.out.new (HF1.out.drewN _))))))
        go_wp2_with fail
        go_ret2
        rw [HV2.out]
        exact ⟨rfl, HF.out.trans (HF1.out.drewN _)⟩
  · have hk2 : (k == 2) = false := by rw [beq_eq_false_iff_ne]; exact fun h => hg (.inl h)
    have hk3 : (k == 3) = false := by rw [beq_eq_false_iff_ne]; exact fun h => hg (.inr h)
    by_cases hl : σ.length = τ.length
    · have HV2 := hid (show insV σ τ k f s c = allIn k f s (turnedL σ τ) by rw [HV.out, if_neg hg, if_neg (fun h => h hl)])
      have hlI : ((σ.length : Int) != (τ.length : Int)) = false := by rw [bne_eq_false_iff_eq]; omega
      have HL := hid hl
      have HB := hid (turnedL_get σ τ hn)
      have HLn := hid (show (turnedL σ τ).length ≤ 65536 by have := trnTo_length σ τ σ.length; unfold turnedL; omega)
      clear hg hl hn
      go_enter Tryd.func16, Tryd.ntmps16
      go_wp2_with (first | (go_at_call 39; refine (HK.out _).mono ?_; rintro e w1 ⟨rfl, hF⟩; have HF1 := hid hF; have a0 : w1.cell? ⟨w.heap.size, 0, none⟩ = some (.int .i64 k) := (HBX.out.fr' hF id).cell 0; clear hF) | (go_at_call 28; first | (with_reducible refine (gapsCap_any (H1.out.new HF1.out)).mono ?_; rintro e w1 ⟨rfl, rfl⟩) | (with_reducible refine (gapsCap_any (H2.out.new HF1.out)).mono ?_; rintro e w1 ⟨rfl, rfl⟩)) |
        (go_at_call 9; refine (turned_any (H1.out.new HF1.out) (H2.out.new HF1.out) HL.out).mono ?_; rintro e w2 ⟨v, rfl, hR, hF⟩; have HR := hid (hR.rd (by have := HLn.out; omega)); have HF2 := hid (HF1.out.trans hF); clear hR hF) |
        (go_at_call 40; refine (containsFunc_any k f s c hf hs _ _ HB.out _ _ HR.out (HBX.out.fr' HF2.out id)).mono ?_; rintro e w3 ⟨rfl, hF⟩; have HF3 := hid (HF2.out.trans hF); clear hF))
      go_ret2
      rw [HV2.out]
      exact ⟨by simp, HF.out.trans HF3.out⟩
    · have HV2 := hid (show insV σ τ k f s c = false by rw [HV.out, if_neg hg, if_pos hl])
      have hlI : ((σ.length : Int) != (τ.length : Int)) = true := by rw [bne_iff_ne]; omega
      clear hg hl hn
      go_enter Tryd.func16, Tryd.ntmps16
      go_wp2_with (first | (go_at_call 39; refine (HK.out _).mono ?_; rintro e w1 ⟨rfl, hF⟩; have HF1 := hid hF; have a0 : w1.cell? ⟨w.heap.size, 0, none⟩ = some (.int .i64 k) := (HBX.out.fr' hF id).cell 0; clear hF) | (go_at_call 28; first | (with_reducible refine (gapsCap_any (H1.out.new HF1.out)).mono ?_; rintro e w1 ⟨rfl, rfl⟩) | (with_reducible refine (gapsCap_any (H2.out.new HF1.out)).mono ?_; rintro e w1 ⟨rfl, rfl⟩)))
      go_ret2
      rw [HV2.out]
      exact ⟨rfl, HF.out.trans HF1.out⟩
end Go.Proofs.YtonoaklajnfmiaaDoor
