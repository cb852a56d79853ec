/- The law AuditTurns, as it is called. -/
import Derived.Test.YtonoaklajnfmiaaDoorD5
set_option linter.unusedVariables false
set_option linter.unusedSimpArgs false
namespace Go.Proofs.YtonoaklajnfmiaaDoor
open Go.RowKit

set_option maxHeartbeats 2000000 in
theorem turned_range {f g : SF} {σ τ : List (Option Int)} {w : World} (h1 : SlotsR w f σ) (h2 : SlotsR w g τ) (hl : σ.length ≠ τ.length) :
    Calls Tryd.prog 9 #[.pointer (some ⟨f.s, 0, none⟩), .pointer (some ⟨g.s, 0, none⟩)] w fun e w' => e = .returned (.tuple #[.slice none 0 0, .int .i64 10]) ∧ Fr Nil1 w w' := by
  have hfr0 : Fr Nil1 w ((w.alloc (.cells #[.pointer (some ⟨f.s, 0, none⟩)] 26)).alloc (.cells #[.pointer (some ⟨g.s, 0, none⟩)] 26)) := ((Fr.refl _ _).alloc _).alloc _
  have H1 := hid (h1.new hfr0)
  have H2 := hid (h2.new hfr0)
  have HF := hid hfr0
  have hnl : ((σ.length : Int) != (τ.length : Int)) = true := by rw [bne_iff_ne]; omega
  clear h1 h2 hl hfr0
  go_enter Tryd.func9, Tryd.ntmps9
  go_wp2_with fail
  go_quiet ((go_at_call 28; first | (with_reducible exact quiet_eq (gapsCap_any (H1.out.new ((Fr.refl Nil1 _).drewN _)))) | (with_reducible exact quiet_eq (gapsCap_any (H2.out.new ((Fr.refl Nil1 _).drewN _))))))
  go_wp2_with fail
  go_ret2
  exact ⟨rfl, HF.out.drewN _⟩

set_option maxHeartbeats 4000000 in
theorem auditTurns_any (s t : Int) (u v : Value) (l m : List (Int × Int)) (w : World) (hs1 : -9223372036854775808 ≤ s) (hs2 : s ≤ 9223372036854775807) (ht1 : -9223372036854775808 ≤ t) (ht2 : t ≤ 9223372036854775807)
    (hu : RdAt w u l) (hv : RdAt w v m) (hg : GW w) :
    Calls Tryd.prog 3 #[.agg #[.int .i64 s, u], .agg #[.int .i64 t, v]] w fun e w' => e = .returned (.bool true) ∧ Fr Nil1 w w' := by
  have hu' := hu
  have hv' := hv
  obtain ⟨A, c, rfl, hA⟩ := hu'
  obtain ⟨B, d, rfl, hB⟩ := hv'
  have f0 : Fr Nil1 w ((w.alloc (.cells #[.int .i64 s, .slice A l.length c] 24)).alloc (.cells #[.int .i64 t, .slice B m.length d] 24)) := ((Fr.refl _ _).alloc _).alloc _
  have HU := hid (hu.new f0)
  have HV := hid (hv.new f0)
  have HG := hid (hg.fr f0)
  have HF := hid f0
  have hbx := (Has.new w [.int .i64 s, .slice A l.length c] 24).alloc (.cells #[.int .i64 t, .slice B m.length d] 24)
  have hby := Has.new (w.alloc (.cells #[.int .i64 s, .slice A l.length c] 24)) [.int .i64 t, .slice B m.length d] 24
  rw [World.size_alloc] at hby
  have HBX := hid hbx
  have HBY := hid hby
  clear hu hv hg hA hB f0 hbx hby
  by_cases h1 : 300 < l.length
  · go_enter Tryd.func3, Tryd.ntmps3
    go_wp2_with fail
    refine (awake_any _ HG.out).mono ?_
    rintro e w1 ⟨rfl, hf⟩
    have HF1 := hid (HF.out.trans hf)
    clear hf
    go_wp2_with fail
    go_ret
    exact ⟨rfl, HF1.out⟩
  · by_cases h2 : 300 < m.length
    · go_enter Tryd.func3, Tryd.ntmps3
      go_wp2_with fail
      refine (awake_any _ HG.out).mono ?_
      rintro e w1 ⟨rfl, hf⟩
      have HF1 := hid (HF.out.trans hf)
      clear hf
      go_wp2_with fail
      go_ret
      exact ⟨rfl, HF1.out⟩
    · go_enter Tryd.func3, Tryd.ntmps3
      go_wp2_with fail
      refine (made_any s _ l _ hs1 hs2 (by omega) HU.out HG.out).mono ?_
      rintro e w1 ⟨f, g, rfl, hS, hR, hF, hk, hgg⟩
      have HS := hid hS
      have HR := hid hR
      have HV1 := hid (HV.out.new hF)
      have HF1 := hid (HF.out.trans hF)
      obtain ⟨y0, y1, yf⟩ := (HBY.out.fr' hF id).two
      clear hS hR hF hk hgg
      go_wp2_with fail
      refine (made_any t _ m _ ht1 ht2 (by omega) HV1.out HS.out.g).mono ?_
      rintro e w2 ⟨f', g', rfl, hS', hR', hF', hk', hgg'⟩
      have HS1 := hid (HS.out.new hF')
      have HR1 := hid (HR.out.fr' hF' id)
      have HS2 := hid hS'
      have HR2 := hid hR'
      have HF2 := hid (HF1.out.trans hF')
      have hlx := hid (mkS_length (nSlots s) l)
      have hly := hid (mkS_length (nSlots t) m)
      clear hS' hR' hF' hk' hgg' y0 y1 yf HS HR HV1 HU HV HBX HBY
      have hns : nSlots s ≤ 65536 := by unfold nSlots; omega
      generalize mkS (nSlots s) l = σ at *
      generalize mkS (nSlots t) m = τ at *
      obtain ⟨ns, hns'⟩ : ∃ n, nSlots s = n := ⟨_, rfl⟩
      obtain ⟨nt, hnt'⟩ : ∃ n, nSlots t = n := ⟨_, rfl⟩
      rw [hns'] at hlx hns ⊢
      rw [hnt'] at hly ⊢
      clear hns' hnt'
      by_cases hl : ns = nt
      · subst hl
        go_wp2_with fail
        refine (turned_any HS1.out HS2.out (by rw [hlx.out, hly.out])).mono ?_
        rintro e w3 ⟨v3, rfl, hv3, hf3⟩
        have HV3 := hid hv3
        have HS31 := hid (HS1.out.new hf3)
        have HF3 := hid hf3
        obtain ⟨A3, c3, e3, _⟩ := hv3.rd (by have := trnTo_length σ τ σ.length; have := hlx.out; unfold turnedL; omega)
        rw [ints'_length] at e3
        subst e3
        clear hv3 hf3
        go_wp2_with fail
        refine (turned_nil1 _ _).mono ?_
        rintro e w4 ⟨rfl, hf4⟩
        have HF4 := hid (HF3.out.trans hf4)
        have HV4 := hid (HV3.out.new hf4)
        clear hf4
        go_wp2_with fail
        refine (turned_nil2 _ _).mono ?_
        rintro e w5 ⟨rfl, hf5⟩
        have HF5 := hid (HF4.out.trans hf5)
        have HV5 := hid (HV4.out.new hf5)
        clear hf5
        have hq0 : ((ns : Int) != (ns : Int)) = false := by rw [bne_eq_false_iff_eq]
        go_wp2_with fail
        have hh1 := HR1.out.fr' HF5.out id
        have hh2 := HR2.out.fr' HF5.out id
        have href := refTurned_any g g' hh1 hh2 (by rw [hlx.out, hly.out]) (by rw [hlx.out]; omega) (HS1.out.new HF5.out).g.size
        rw [hlx.out, hly.out] at href
        refine href.mono ?_
        rintro e w6 ⟨v6, rfl, hv6, hf6⟩
        have HV6 := hid hv6
        have HF6 := hid (HF5.out.trans hf6)
        have HV56 := hid (HV5.out.new hf6)
        clear hh1 hh2 href hv6 hf6
        have hb : (turnedL σ τ).length ≤ 9223372036854775807 := by have := trnTo_length σ τ σ.length; have := hlx.out; unfold turnedL; omega
        have HBb := hid hb
        clear hb
        go_wp2_with fail
        refine (ints_any _ _ _ _ _ (HV56.out.rd HBb.out) (HV6.out.rd HBb.out)).mono ?_
        rw [decide_eq_true rfl]
        rintro e w7 ⟨rfl, hf7⟩
        have HF7 := hid (HF6.out.trans hf7)
        clear hf7
        go_wp2_with fail
        refine (awake_any _ (HS1.out.new HF7.out).g).mono ?_
        rintro e w8 ⟨rfl, hf8⟩
        have HF8 := hid (HF7.out.trans hf8)
        clear hf8
        go_wp2_with fail
        go_ret
        exact ⟨rfl, HF2.out.trans HF8.out⟩
      · have hq0 : ((ns : Int) != (nt : Int)) = true := by rw [bne_iff_ne]; omega
        have HL := hid hl
        clear hl
        go_wp2_with fail
        refine (turned_range HS1.out HS2.out (by rw [hlx.out, hly.out]; exact HL.out)).mono ?_
        rintro e w3 ⟨rfl, hf3⟩
        have HF3 := hid hf3
        clear hf3
        go_wp2_with fail
        refine (turned_nil1 _ _).mono ?_
        rintro e w4 ⟨rfl, hf4⟩
        have HF4 := hid (HF3.out.trans hf4)
        clear hf4
        go_wp2_with fail
        refine (turned_nil2 _ _).mono ?_
        rintro e w5 ⟨rfl, hf5⟩
        have HF5 := hid (HF4.out.trans hf5)
        clear hf5
        go_wp2_with fail
        refine (awake_any _ (HS1.out.new HF5.out).g).mono ?_
        rintro e w8 ⟨rfl, hf8⟩
        have HF8 := hid (HF5.out.trans hf8)
        clear hf8
        go_wp2_with fail
        go_ret
        exact ⟨rfl, HF2.out.trans HF8.out⟩
end Go.Proofs.YtonoaklajnfmiaaDoor
