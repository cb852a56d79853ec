/- The law AuditSteps, as it is called. -/
import Derived.Test.YtonoaklajnfmiaaDoorD5
import Derived.Test.YtonoaklajnfmiaaDoorT3
import Derived.Test.YtonoaklajnfmiaaDoorT5
set_option linter.unusedVariables false
set_option linter.unusedSimpArgs false
namespace Go.Proofs.YtonoaklajnfmiaaDoor
open Go.RowKit

theorem kindB_false (k : Int) (h : kindB k = false) : k < 0 ∨ (¬ k < 0 ∧ 3 < k) := by
  unfold kindB at h
  rcases Int.lt_or_le k 0 with g | g
  · exact .inl g
  · rw [decide_eq_true g, Bool.true_and] at h
    have := of_decide_eq_false h
    exact .inr ⟨by omega, by omega⟩
theorem kindB_true (k : Int) (h : kindB k = true) : 0 ≤ k ∧ k ≤ 3 := by simpa [kindB] using h

set_option maxRecDepth 100000 in
set_option maxHeartbeats 4000000 in
theorem auditSteps_any (a b : Int) (u v : Value) (l m : List (Int × Int)) (k f s c : Int) (w : World) (ha1 : -9223372036854775808 ≤ a) (ha2 : a ≤ 9223372036854775807) (hb1 : -9223372036854775808 ≤ b) (hb2 : b ≤ 9223372036854775807)
    (hf1 : -9223372036854775808 ≤ f) (hf2 : f ≤ 9223372036854775807) (hs1 : -9223372036854775808 ≤ s) (hs2 : s ≤ 9223372036854775807) (hu : RdAt w u l) (hv : RdAt w v m) (hg : GW w) :
    Calls Tryd.prog 5 #[.agg #[.int .i64 a, u], .agg #[.int .i64 b, v], .agg #[.int .i64 k, .int .i64 f, .int .i64 s, .int .i64 c]] w fun e w' => e = .returned (.bool true) ∧ Fr Nil1 w w' := by
  have hu' := hu
  have hv' := hv
  obtain ⟨A, ca, rfl, hA⟩ := hu'
  obtain ⟨B, cb, rfl, hB⟩ := hv'
  have f0 : Fr Nil1 w (((w.alloc (.cells #[.int .i64 a, .slice A l.length ca] 24)).alloc (.cells #[.int .i64 b, .slice B m.length cb] 24)).alloc (.cells #[.int .i64 k, .int .i64 f, .int .i64 s, .int .i64 c] 45)) := (((Fr.refl _ _).alloc _).alloc _).alloc _
  have HU := hid (hu.new f0)
  have HV := hid (hv.new f0)
  have HG := hid (hg.fr f0)
  have HF := hid f0
  have hbx := ((Has.new w [.int .i64 a, .slice A l.length ca] 24).alloc (.cells #[.int .i64 b, .slice B m.length cb] 24)).alloc (.cells #[.int .i64 k, .int .i64 f, .int .i64 s, .int .i64 c] 45)
  have hby := (Has.new (w.alloc (.cells #[.int .i64 a, .slice A l.length ca] 24)) [.int .i64 b, .slice B m.length cb] 24).alloc (.cells #[.int .i64 k, .int .i64 f, .int .i64 s, .int .i64 c] 45)
  have hbz := Has.new ((w.alloc (.cells #[.int .i64 a, .slice A l.length ca] 24)).alloc (.cells #[.int .i64 b, .slice B m.length cb] 24)) [.int .i64 k, .int .i64 f, .int .i64 s, .int .i64 c] 45
  rw [World.size_alloc] at hby
  rw [World.size_alloc, World.size_alloc] at hbz
  have HBX := hid hbx
  have HBY := hid hby
  have HBZ := hid hbz
  clear hu hv hg hA hB f0 hbx hby hbz
  by_cases h0 : 300 < l.length
  · skip
    go_enter Tryd.func5, Tryd.ntmps5
    go_wp2_with fail
    refine (awake_any _ HG.out).mono ?_
    rintro e w1 ⟨rfl, hf⟩
    have HF1 := hid (HF.out.trans hf)
    clear hf
    go_wp2_with fail
    go_ret
    exact ⟨rfl, HF1.out⟩
  · skip
    by_cases h1 : 300 < m.length
    · skip
      go_enter Tryd.func5, Tryd.ntmps5
      go_wp2_with fail
      refine (awake_any _ HG.out).mono ?_
      rintro e w1 ⟨rfl, hf⟩
      have HF1 := hid (HF.out.trans hf)
      clear hf
      go_wp2_with fail
      go_ret
      exact ⟨rfl, HF1.out⟩
    · skip
      by_cases h2 : f < -1000000
      · skip
        go_enter Tryd.func5, Tryd.ntmps5
        go_wp2_with fail
        refine (awake_any _ HG.out).mono ?_
        rintro e w1 ⟨rfl, hf⟩
        have HF1 := hid (HF.out.trans hf)
        clear hf
        go_wp2_with fail
        go_ret
        exact ⟨rfl, HF1.out⟩
      · skip
        by_cases h3 : 1000000 < s
        · skip
          go_enter Tryd.func5, Tryd.ntmps5
          go_wp2_with fail
          refine (awake_any _ HG.out).mono ?_
          rintro e w1 ⟨rfl, hf⟩
          have HF1 := hid (HF.out.trans hf)
          clear hf
          go_wp2_with fail
          go_ret
          exact ⟨rfl, HF1.out⟩
        · skip
          go_enter Tryd.func5, Tryd.ntmps5
          go_wp2_with fail
          refine (made_any a _ l _ ha1 ha2 (by omega) HU.out HG.out).mono ?_
          rintro e w1 ⟨p, g, rfl, hS, hR, hF, hk, hgg⟩
          have HS := hid hS
          have HR := hid hR
          have HV1 := hid (HV.out.new hF)
          have HF1 := hid hF
          obtain ⟨y0, y1, yf⟩ := (HBY.out.fr' hF id).two
          clear hS hR hF hk hgg
          go_wp2_with fail
          refine (made_any b _ m _ hb1 hb2 (by omega) HV1.out HS.out.g).mono ?_
          rintro e w2 ⟨q, g', rfl, hS', hR', hF', hk', hgg'⟩
          have HS1 := hid (HS.out.new hF')
          have HR1 := hid (HR.out.fr' hF' id)
          have HS2 := hid hS'
          have HR2 := hid hR'
          have HF2 := hid (HF1.out.trans hF')
          have hlx := hid (mkS_length (nSlots a) l)
          have hly := hid (mkS_length (nSlots b) m)
          clear hS' hR' hF' hk' hgg' y0 y1 yf HS HR HV1 HU HV HBX HBY HF1
          have hns : nSlots a ≤ 65536 := by unfold nSlots; omega
          have hnt : nSlots b ≤ 65536 := by unfold nSlots; omega
          generalize mkS (nSlots a) l = σ at *
          generalize mkS (nSlots b) m = τ at *
          obtain ⟨ns, hns'⟩ : ∃ n, nSlots a = n := ⟨_, rfl⟩
          obtain ⟨nt, hnt'⟩ : ∃ n, nSlots b = n := ⟨_, rfl⟩
          rw [hns'] at hlx hns ⊢
          rw [hnt'] at hly hnt ⊢
          clear hns' hnt'
          have HNS := hid hns
          have HNT := hid hnt
          clear hns hnt
          cases hkb : kindB k
          · skip
            have HKB := hid hkb
            have hkc := kindB_false k hkb
            clear hkb
            have z0 : w2.cell? ⟨w.heap.size + 1 + 1, 0, none⟩ = some (.int .i64 k) := (HBZ.out.fr' HF2.out id).cell 0
            have z1 : w2.cell? ⟨w.heap.size + 1 + 1, 1, none⟩ = some (.int .i64 f) := (HBZ.out.fr' HF2.out id).cell 1
            have z2 : w2.cell? ⟨w.heap.size + 1 + 1, 2, none⟩ = some (.int .i64 s) := (HBZ.out.fr' HF2.out id).cell 2
            have z3 : w2.cell? ⟨w.heap.size + 1 + 1, 3, none⟩ = some (.int .i64 c) := (HBZ.out.fr' HF2.out id).cell 3
            go_wp2_with fail
            refine (inside_arg _ _ k f s c _ HKB.out).mono ?_
            rintro e w3 ⟨rfl, hf⟩
            have HF3 := hid (HF2.out.trans hf)
            have HX3 := hid (hf)
            clear hf z0 z1 z2 z3
            have z0 : w3.cell? ⟨w.heap.size + 1 + 1, 0, none⟩ = some (.int .i64 k) := (HBZ.out.fr' HF3.out id).cell 0
            have z1 : w3.cell? ⟨w.heap.size + 1 + 1, 1, none⟩ = some (.int .i64 f) := (HBZ.out.fr' HF3.out id).cell 1
            have z2 : w3.cell? ⟨w.heap.size + 1 + 1, 2, none⟩ = some (.int .i64 s) := (HBZ.out.fr' HF3.out id).cell 2
            have z3 : w3.cell? ⟨w.heap.size + 1 + 1, 3, none⟩ = some (.int .i64 c) := (HBZ.out.fr' HF3.out id).cell 3
            go_wp2_with fail
            refine (even_arg _ k f s c _ HKB.out).mono ?_
            rintro e w4 ⟨rfl, hf⟩
            have HF4 := hid (HF3.out.trans hf)
            have HX4 := hid (HX3.out.trans hf)
            clear hf z0 z1 z2 z3
            have z0 : w4.cell? ⟨w.heap.size + 1 + 1, 0, none⟩ = some (.int .i64 k) := (HBZ.out.fr' HF4.out id).cell 0
            have z1 : w4.cell? ⟨w.heap.size + 1 + 1, 1, none⟩ = some (.int .i64 f) := (HBZ.out.fr' HF4.out id).cell 1
            have z2 : w4.cell? ⟨w.heap.size + 1 + 1, 2, none⟩ = some (.int .i64 s) := (HBZ.out.fr' HF4.out id).cell 2
            have z3 : w4.cell? ⟨w.heap.size + 1 + 1, 3, none⟩ = some (.int .i64 c) := (HBZ.out.fr' HF4.out id).cell 3
            go_wp2_with fail
            refine (inside_nil2 _ _ k f s c _ rfl).mono ?_
            rintro e w5 ⟨rfl, hf⟩
            have HF5 := hid (HF4.out.trans hf)
            have HX5 := hid (HX4.out.trans hf)
            clear hf z0 z1 z2 z3
            have z0 : w5.cell? ⟨w.heap.size + 1 + 1, 0, none⟩ = some (.int .i64 k) := (HBZ.out.fr' HF5.out id).cell 0
            have z1 : w5.cell? ⟨w.heap.size + 1 + 1, 1, none⟩ = some (.int .i64 f) := (HBZ.out.fr' HF5.out id).cell 1
            have z2 : w5.cell? ⟨w.heap.size + 1 + 1, 2, none⟩ = some (.int .i64 s) := (HBZ.out.fr' HF5.out id).cell 2
            have z3 : w5.cell? ⟨w.heap.size + 1 + 1, 3, none⟩ = some (.int .i64 c) := (HBZ.out.fr' HF5.out id).cell 3
            go_wp2_with fail
            refine (even_nil _ k f s c _ rfl).mono ?_
            rintro e w6 ⟨rfl, hf⟩
            have HF6 := hid (HF5.out.trans hf)
            have HFX := hid (HX5.out.trans hf)
            clear hf z0 z1 z2 z3
            rcases hkc with hkc | ⟨hkc, hkc2⟩
            · skip
              have z0 : w6.cell? ⟨w.heap.size + 1 + 1, 0, none⟩ = some (.int .i64 k) := (HBZ.out.fr' HF6.out id).cell 0
              have z1 : w6.cell? ⟨w.heap.size + 1 + 1, 1, none⟩ = some (.int .i64 f) := (HBZ.out.fr' HF6.out id).cell 1
              have z2 : w6.cell? ⟨w.heap.size + 1 + 1, 2, none⟩ = some (.int .i64 s) := (HBZ.out.fr' HF6.out id).cell 2
              have z3 : w6.cell? ⟨w.heap.size + 1 + 1, 3, none⟩ = some (.int .i64 c) := (HBZ.out.fr' HF6.out id).cell 3
              go_wp2_with fail
              refine (awake_any _ (HS1.out.new HFX.out).g).mono ?_
              rintro e w7 ⟨rfl, hf⟩
              have HL := hid (HF6.out.trans hf)
              clear hf
              go_wp2_with fail
              go_ret
              exact ⟨rfl, HF.out.trans HL.out⟩
            · skip
              have z0 : w6.cell? ⟨w.heap.size + 1 + 1, 0, none⟩ = some (.int .i64 k) := (HBZ.out.fr' HF6.out id).cell 0
              have z1 : w6.cell? ⟨w.heap.size + 1 + 1, 1, none⟩ = some (.int .i64 f) := (HBZ.out.fr' HF6.out id).cell 1
              have z2 : w6.cell? ⟨w.heap.size + 1 + 1, 2, none⟩ = some (.int .i64 s) := (HBZ.out.fr' HF6.out id).cell 2
              have z3 : w6.cell? ⟨w.heap.size + 1 + 1, 3, none⟩ = some (.int .i64 c) := (HBZ.out.fr' HF6.out id).cell 3
              go_wp2_with fail
              refine (awake_any _ (HS1.out.new HFX.out).g).mono ?_
              rintro e w7 ⟨rfl, hf⟩
              have HL := hid (HF6.out.trans hf)
              clear hf
              go_wp2_with fail
              go_ret
              exact ⟨rfl, HF.out.trans HL.out⟩
          · skip
            have HKB := hid hkb
            obtain ⟨hk0, hk3⟩ := kindB_true k hkb
            clear hkb
            have HIN := hid (fun w' (h : Fr Nil1 w2 w') => inside_any (HS1.out.new h) (HS2.out.new h) k f s c HKB.out hf1 hs2)
            have HEV := hid (fun w' (h : Fr Nil1 w2 w') => even_any (HS1.out.new h) k f s c HKB.out hf1 hf2 hs1 hs2)
            have HRE := hid (fun w' (h : Fr Nil1 w2 w') => hlx.out ▸ refEven_any g (HR1.out.fr' h id) (by rw [hlx.out]; exact HNS.out) (HS1.out.new h).g.size k f s c hf1 hf2 hs1 hs2)
            have HRI := hid (fun w' (h : Fr Nil1 w2 w') => refInside_any g g' (HR1.out.fr' h id) (HR2.out.fr' h id) (by rw [hlx.out]; exact HNS.out) (HS1.out.new h).g.size k f s c HKB.out (by omega) (by omega) hf2)
            rw [hlx.out, hly.out] at HRI
            generalize insV σ τ k f s c = iv at *
            generalize evB σ k f s = eb at *
            generalize evE σ k f s = ee at *
            have z0 : w2.cell? ⟨w.heap.size + 1 + 1, 0, none⟩ = some (.int .i64 k) := (HBZ.out.fr' HF2.out id).cell 0
            have z1 : w2.cell? ⟨w.heap.size + 1 + 1, 1, none⟩ = some (.int .i64 f) := (HBZ.out.fr' HF2.out id).cell 1
            have z2 : w2.cell? ⟨w.heap.size + 1 + 1, 2, none⟩ = some (.int .i64 s) := (HBZ.out.fr' HF2.out id).cell 2
            have z3 : w2.cell? ⟨w.heap.size + 1 + 1, 3, none⟩ = some (.int .i64 c) := (HBZ.out.fr' HF2.out id).cell 3
            go_wp2_with fail
            refine (HIN.out _ (Fr.refl _ _)).mono ?_
            rintro e w3 ⟨rfl, hf⟩
            have HF3 := hid (HF2.out.trans hf)
            have HX3 := hid (hf)
            clear hf z0 z1 z2 z3
            have z0 : w3.cell? ⟨w.heap.size + 1 + 1, 0, none⟩ = some (.int .i64 k) := (HBZ.out.fr' HF3.out id).cell 0
            have z1 : w3.cell? ⟨w.heap.size + 1 + 1, 1, none⟩ = some (.int .i64 f) := (HBZ.out.fr' HF3.out id).cell 1
            have z2 : w3.cell? ⟨w.heap.size + 1 + 1, 2, none⟩ = some (.int .i64 s) := (HBZ.out.fr' HF3.out id).cell 2
            have z3 : w3.cell? ⟨w.heap.size + 1 + 1, 3, none⟩ = some (.int .i64 c) := (HBZ.out.fr' HF3.out id).cell 3
            go_wp2_with fail
            refine (HEV.out _ HX3.out).mono ?_
            rintro e w4 ⟨rfl, hf⟩
            have HF4 := hid (HF3.out.trans hf)
            have HX4 := hid (HX3.out.trans hf)
            clear hf z0 z1 z2 z3
            have z0 : w4.cell? ⟨w.heap.size + 1 + 1, 0, none⟩ = some (.int .i64 k) := (HBZ.out.fr' HF4.out id).cell 0
            have z1 : w4.cell? ⟨w.heap.size + 1 + 1, 1, none⟩ = some (.int .i64 f) := (HBZ.out.fr' HF4.out id).cell 1
            have z2 : w4.cell? ⟨w.heap.size + 1 + 1, 2, none⟩ = some (.int .i64 s) := (HBZ.out.fr' HF4.out id).cell 2
            have z3 : w4.cell? ⟨w.heap.size + 1 + 1, 3, none⟩ = some (.int .i64 c) := (HBZ.out.fr' HF4.out id).cell 3
            go_wp2_with fail
            refine (inside_nil2 _ _ k f s c _ rfl).mono ?_
            rintro e w5 ⟨rfl, hf⟩
            have HF5 := hid (HF4.out.trans hf)
            have HX5 := hid (HX4.out.trans hf)
            clear hf z0 z1 z2 z3
            have z0 : w5.cell? ⟨w.heap.size + 1 + 1, 0, none⟩ = some (.int .i64 k) := (HBZ.out.fr' HF5.out id).cell 0
            have z1 : w5.cell? ⟨w.heap.size + 1 + 1, 1, none⟩ = some (.int .i64 f) := (HBZ.out.fr' HF5.out id).cell 1
            have z2 : w5.cell? ⟨w.heap.size + 1 + 1, 2, none⟩ = some (.int .i64 s) := (HBZ.out.fr' HF5.out id).cell 2
            have z3 : w5.cell? ⟨w.heap.size + 1 + 1, 3, none⟩ = some (.int .i64 c) := (HBZ.out.fr' HF5.out id).cell 3
            go_wp2_with fail
            refine (even_nil _ k f s c _ rfl).mono ?_
            rintro e w6 ⟨rfl, hf⟩
            have HF6 := hid (HF5.out.trans hf)
            have HX6 := hid (HX5.out.trans hf)
            clear hf z0 z1 z2 z3
            have z0 : w6.cell? ⟨w.heap.size + 1 + 1, 0, none⟩ = some (.int .i64 k) := (HBZ.out.fr' HF6.out id).cell 0
            have z1 : w6.cell? ⟨w.heap.size + 1 + 1, 1, none⟩ = some (.int .i64 f) := (HBZ.out.fr' HF6.out id).cell 1
            have z2 : w6.cell? ⟨w.heap.size + 1 + 1, 2, none⟩ = some (.int .i64 s) := (HBZ.out.fr' HF6.out id).cell 2
            have z3 : w6.cell? ⟨w.heap.size + 1 + 1, 3, none⟩ = some (.int .i64 c) := (HBZ.out.fr' HF6.out id).cell 3
            go_wp2_with fail
            refine (HRE.out _ HX6.out).mono ?_
            rintro e w7 ⟨rfl, hf⟩
            have HF7 := hid (HF6.out.trans hf)
            have HX7 := hid (HX6.out.trans hf)
            clear hf z0 z1 z2 z3
            have z0 : w7.cell? ⟨w.heap.size + 1 + 1, 0, none⟩ = some (.int .i64 k) := (HBZ.out.fr' HF7.out id).cell 0
            have z1 : w7.cell? ⟨w.heap.size + 1 + 1, 1, none⟩ = some (.int .i64 f) := (HBZ.out.fr' HF7.out id).cell 1
            have z2 : w7.cell? ⟨w.heap.size + 1 + 1, 2, none⟩ = some (.int .i64 s) := (HBZ.out.fr' HF7.out id).cell 2
            have z3 : w7.cell? ⟨w.heap.size + 1 + 1, 3, none⟩ = some (.int .i64 c) := (HBZ.out.fr' HF7.out id).cell 3
            go_wp2_with fail
            refine (HRI.out _ HX7.out).mono ?_
            rintro e w8 ⟨rfl, hf⟩
            have HF8 := hid (HF7.out.trans hf)
            have HX8 := hid (HX7.out.trans hf)
            clear hf z0 z1 z2 z3
            go_wp2_with fail
            refine (awake_any _ (HS1.out.new HX8.out).g).mono ?_
            rintro e w9 ⟨rfl, hf⟩
            have HL := hid (HF8.out.trans hf)
            clear hf
            go_wp2_with fail
            go_ret
            exact ⟨rfl, HF.out.trans HL.out⟩
end Go.Proofs.YtonoaklajnfmiaaDoor
