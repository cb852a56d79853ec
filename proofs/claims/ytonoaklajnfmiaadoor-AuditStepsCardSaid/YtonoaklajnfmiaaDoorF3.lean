/- The law AuditSteps holds of every input. -/
import Derived.Test.YtonoaklajnfmiaaDoorR1
import Derived.Test.YtonoaklajnfmiaaDoorE3
import Derived.Lib.SmallJoins
set_option linter.unusedVariables false
set_option linter.unusedSimpArgs false
namespace Go.Proofs.YtonoaklajnfmiaaDoor
open Go.ChangeShapes Go.WideShapes Go.ChangeAt Go.RowKit Go.Deep
open Go.Joins

theorem cellsStep : Tryd.prog.cellsOf 45 = 4 := by kernel_rfl
set_option maxRecDepth 100000 in
theorem auditSteps_lifted (os : Os) (started : os.Started) (H : Type) (enc : TypeId × Value → H) :
    ReturnsInHanded {} Tryd.checked os 5 .any (fun w args => (Rows.auditStepsSpec.pre enc Tryd.prog Tryd.f5 [] false w args ∧ laidMetH Tryd.prog laidL w) ∧ sizedMet enc Tryd.prog Tryd.f5 (OpenSpec.ofChange Rows.auditStepsSpec) false w args)
      (Rows.auditStepsSpec.post enc Tryd.prog Tryd.f5 false true false false) := by
  refine returnsInHanded_of_change_and (C := Tryd.checked) (X := fun w _ => laidMetH Tryd.prog laidL w) (fun _ _ _ hh h => h.of_heap hh) own started (by kernel_rfl) Tryd.func5
    (ChangeSpec.witness_at (enc := enc) (C := Tryd.checked) (os := os) (X := fun w _ => laidMetH Tryd.prog laidL w) false (laidWorld os) #[.agg #[.int .i64 0, .slice none 0 0], .agg #[.int .i64 0, .slice none 0 0], .agg #[.int .i64 0, .int .i64 0, .int .i64 0, .int .i64 0]] 8 rfl (by kernel_rfl) (by kernel_rfl) (by kernel_rfl) (by kernel_rfl) (by kernel_rfl) (laidWorld_met os _)) ?_
  intro W base args ds gs before hval0 hW _ _ hL _
  have hval : ∀ (j : Nat) t v, Tryd.f5.params[j]? = some t → args[j]? = some v → Value.okWide Tryd.prog W .any base t v := hval0
  have hW' := hW
  obtain ⟨p, q, hA0, hV0, rfl, hfz, hnd⟩ := hW
  have hA : DataW.TrodAll enc Tryd.prog W 0 (fun _ => true) true Tryd.f5.params.toList args.toList ds p := hA0
  have hV : DataW.TrodVars enc Tryd.prog W (fun _ => true) [] gs q := hV0
  rw [Tryd.params5] at hA hval
  obtain ⟨v0, v1, v2, d0, d1, d2, p0, p1, p2, rfl, rfl, rfl, h0, h1, h2⟩ := trodAll_three hA
  have k0 := h0
  have k1 := h1
  have k2 := h2
  have lt0 : ∀ x ∈ p0, x.block < W.heap.size := by obtain ⟨m, hm⟩ := k0; exact DataW.trod_lt m _ _ _ hm
  have lt2 : ∀ x ∈ p2, x.block < W.heap.size := by obtain ⟨m, hm⟩ := k2; exact DataW.trod_lt m _ _ _ hm
  have lt1 : ∀ x ∈ p1, x.block < W.heap.size := by obtain ⟨m, hm⟩ := k1; exact DataW.trod_lt m _ _ _ hm
  obtain ⟨a0, b0, y0, z0, n0, rfl, rfl, rfl, ha0, hb0⟩ := open_agg2 Tryd.underlying24 (by kernel_rfl) cellsArray (hval 0 24 v0 rfl rfl) h0
  obtain ⟨a1, b1, y1, z1, n1, rfl, rfl, rfl, ha1, hb1⟩ := open_agg2 Tryd.underlying24 (by kernel_rfl) cellsArray (hval 1 24 v1 rfl rfl) h1
  obtain ⟨c0, c1, c2, c3, x0, x1, x2, x3, n2, rfl, rfl, rfl, hc0, hc1, hc2, hc3⟩ := open_agg4 Tryd.underlying45 (by kernel_rfl) cellsStep (hval 2 45 v2 rfl rfl) h2
  obtain ⟨k, rfl, _, _⟩ := trod_i64 Tryd.underlying3 hc0
  obtain ⟨f, rfl, hf1, hf2⟩ := trod_i64 Tryd.underlying3 hc1
  obtain ⟨u, rfl, hu1, hu2⟩ := trod_i64 Tryd.underlying3 hc2
  obtain ⟨c, rfl, _, _⟩ := trod_i64 Tryd.underlying3 hc3
  obtain ⟨s, rfl, hs1, hs2⟩ := trod_i64 Tryd.underlying3 ha0
  obtain ⟨t, rfl, ht1, ht2⟩ := trod_i64 Tryd.underlying3 ha1
  obtain ⟨l, hl⟩ := open_at hb0
  obtain ⟨m, hm⟩ := open_at hb1
  have hg := tab_of_laid hL
  obtain ⟨rfl, rfl⟩ : gs = [] ∧ q = [] := by
    cases gs with
    | nil => exact ⟨rfl, hV⟩
    | cons g r => exact absurd hV (by intro h; cases h)
  clear hA0 hV0 hval0
  refine (auditSteps_any s t b0 b1 l m k f u c W hs1 hs2 ht1 ht2 hf1 hf2 hu1 hu2 hl hm hg).mono fun e W' ⟨he, hf⟩ => ?_
  subst he
  have bel := hf.below
  exact ⟨_, rfl, _, _, _, [], _, [], hW', trodAll_mk1 (shut_bool Tryd.underlying4 _), (trodAll_cons_mk (Below.trod laidOut (by kernel_rfl) (of_decide_eq_true (by kernel_rfl)) k0 bel lt0) (trodAll_cons_mk (Below.trod laidOut (by kernel_rfl) (of_decide_eq_true (by kernel_rfl)) k1 bel lt1) (trodAll_cons_mk (Below.trod laidOut (by kernel_rfl) (of_decide_eq_true (by kernel_rfl)) k2 bel lt2) trodAll_mk0))), rfl, bel.frame _, fun h => by cases h⟩

theorem auditSteps_row : Rows.AuditStepsSaid :=
  OpenClaim.holds_of_wide 5 Tryd.f5 rfl rfl rfl rfl rfl rfl rfl ⟨rfl, rfl, rfl, rfl, rfl⟩ rfl rfl rfl rfl rfl (by kernel_rfl) Tryd.func5 (by kernel_rfl)
    (of_decide_eq_true (by kernel_rfl)) (by unfold Func.isWrapper; rw [if_neg (of_decide_eq_false (by kernel_rfl))]; exact ⟨rfl, rfl⟩)
    (fun os started H enc _ => auditSteps_lifted os started H enc)

theorem auditSteps_holds : Rows.AuditStepsCardSaid :=
  Claim7.holds_tied_plain_at .later [] [.data] true Rows.auditStepsCard.stood.harness false auditSteps_row (fun _ h => by cases h) (by kernel_rfl) (fun _ h => by cases h) auditSteps_row_tie rfl ⟨rfl, rfl⟩ (by kernel_rfl) (by kernel_rfl)
    (fun f fn hf hfn => by
      obtain rfl : f = 5 := Option.some.inj ((show Tryd.prog.funcNamed "punnet/punnetlaw22.AuditSteps" = some 5 by kernel_rfl).symm.trans hf) |>.symm
      obtain rfl : fn = Tryd.f5 := (Option.some.inj (Tryd.func5.symm.trans hfn)).symm
      exact ⟨by kernel_rfl, fun j t ht => by
        rw [Tryd.params5] at ht
        have h3 : t = 24 ∨ t = 45 := by
          rcases j with _ | _ | _ | j
          · exact .inl (by simpa using ht.symm)
          · exact .inl (by simpa using ht.symm)
          · exact .inr (by simpa using ht.symm)
          · simp at ht
        rcases h3 with rfl | rfl
        · exact (show Tryd.prog.wantsStandIn 24 = false by kernel_rfl)
        · exact (show Tryd.prog.wantsStandIn 45 = false by kernel_rfl)⟩)
    (by kernel_rfl)
#print axioms auditSteps_holds
end Go.Proofs.YtonoaklajnfmiaaDoor
