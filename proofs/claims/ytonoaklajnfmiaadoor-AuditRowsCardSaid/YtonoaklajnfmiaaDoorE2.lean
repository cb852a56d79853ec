/- The law AuditRows, as it is called. -/
import Derived.Test.YtonoaklajnfmiaaDoorD5
import Derived.Test.YtonoaklajnfmiaaDoorG3
import Derived.Test.YtonoaklajnfmiaaDoorG4
set_option linter.unusedVariables false
set_option linter.unusedSimpArgs false
namespace Go.Proofs.YtonoaklajnfmiaaDoor
open Go.RowKit

set_option maxRecDepth 100000 in
set_option maxHeartbeats 4000000 in
theorem auditRows_any (s : Int) (u v : Value) (l : List (Int × Int)) (counts : List Int) (w : World) (hs1 : -9223372036854775808 ≤ s) (hs2 : s ≤ 9223372036854775807)
    (hu : RdAt w u l) (hv : Rd w v (ints' counts)) (hg : GW w) :
    Calls Tryd.prog 4 #[.agg #[.int .i64 s, u], v] w fun e w' => e = .returned (.bool true) ∧ Fr Nil1 w w' := by
  obtain ⟨i0, hi, hz0, hz1, hz2⟩ := info_parts info_int
  have hu' := hu
  have hv' := hv
  obtain ⟨A, c, rfl, hA⟩ := hu'
  obtain ⟨B, d, rfl, hbB, hB⟩ := hv'
  rw [ints'_length] at hv hbB hB ⊢
  have f0 : Fr Nil1 w (w.alloc (.cells #[.int .i64 s, .slice A l.length c] 24)) := (Fr.refl _ _).alloc _
  have HU := hid (hu.new f0)
  have HV := hid (hv.new f0)
  have HG := hid (hg.fr f0)
  have HF := hid f0
  have HBX := hid (Has.new w [.int .i64 s, .slice A l.length c] 24)
  clear hu hv hg hA hB f0
  by_cases h1 : 300 < l.length
  · go_enter Tryd.func4, Tryd.ntmps4
    go_wp2_with fail
    refine (awake_any _ HG.out).mono ?_
    rintro e w1 ⟨rfl, hf⟩
    have HF1 := hid (HF.out.trans hf)
    clear hf
    go_wp2_with fail
    go_ret
    exact ⟨rfl, HF1.out⟩
  · by_cases h2 : 60 < counts.length
    · go_enter Tryd.func4, Tryd.ntmps4
      go_wp2_with fail
      refine (awake_any _ HG.out).mono ?_
      rintro e w1 ⟨rfl, hf⟩
      have HF1 := hid (HF.out.trans hf)
      clear hf
      go_wp2_with fail
      go_ret
      exact ⟨rfl, HF1.out⟩
    · go_enter Tryd.func4, Tryd.ntmps4
      go_wp2_with fail
      refine (made_any s _ l _ hs1 hs2 (by omega) HU.out HG.out).mono ?_
      rintro e w1 ⟨f, g, rfl, hS, hR, hF, hk, hgg⟩
      have HS := hid hS
      have HR := hid hR
      have HV1 := hid (HV.out.new hF)
      have HF1 := hid (HF.out.trans hF)
      have hlx := hid (mkS_length (nSlots s) l)
      clear hS hR hF hk hgg HU HV HBX
      have hns : nSlots s ≤ 65536 := by unfold nSlots; omega
      generalize mkS (nSlots s) l = σ at *
      obtain ⟨ns, hns'⟩ : ∃ n, nSlots s = n := ⟨_, rfl⟩
      rw [hns'] at hlx hns ⊢
      clear hns'
      have hnG := hid HS.out.g.size
      go_wp2_with fail
      go_loopw [7, 8] (fun x i wr => ∃ k : Nat, k ≤ ns ∧ i = .int .i64 k ∧ Hid (RowI wr w1.heap.size x (vals (occTo σ k)) ∧ Fr Nil1 w1 wr)) (fun _ i _ => ns - (intOf i).toNat)
      case atStart => exact ⟨0, by omega, rfl, hid ⟨RowI.nil _ _, Fr.refl _ _⟩⟩
      case round =>
        obtain ⟨k, hk, rfl, HW⟩ := hrel
        have hws : w1.heap.size ≤ wr.heap.size := HW.out.2.size
        have hol := occTo_length σ k
        have hvl : (vals (occTo σ k)).length ≤ 65536 := by rw [vals_length]; omega
        by_cases hlt : k < ns
        · have a0 := (HR.out.fr' HW.out.2 id).cell (k * 2)
          have a1 := (HR.out.fr' HW.out.2 id).cell (k * 2 + 1)
          rw [slotCells_get0 _ _ (by rw [hlx.out]; exact hlt)] at a0
          rw [slotCells_get1 _ _ (by rw [hlx.out]; exact hlt)] at a1
          cases hx : σ.getD k none with
          | none =>
            rw [hx] at a0 a1
            have HX := hid hx
            replace a0 : wr.cell? ⟨g, k * 2, none⟩ = some (.bool false) := a0
            clear hx
            go_wp2_with fail
            refine ⟨⟨k + 1, by omega, by go_num, ?_⟩, by simp [intOf]; omega⟩
            have e := occTo_none σ k 1 (fun j a b => by obtain rfl : j = k := by omega
                                                        rw [HX.out]; rfl)
            rw [e]
            exact HW
          | some y =>
            rw [hx] at a0 a1
            have HX := hid (occTo_some σ k y hx)
            replace a0 : wr.cell? ⟨g, k * 2, none⟩ = some (.bool true) := a0
            replace a1 : wr.cell? ⟨g, k * 2 + 1, none⟩ = some (.int .i64 y) := a1
            clear hx hol
            go_wp2_with (first | (at_builtin; refine wpList_append_own _ rfl _ _ 30 rfl w1.heap.size 3 i0 (.int .i64 0) 1 8 Tryd.underlying30 hi hz0 hz1 hz2 rfl (by decide) _ _ _ rfl (HW.out.1.alloc _) ⟨wr.heap.size, 0, none⟩ 1 1 [.int .i64 y] rfl rfl (cell_one_new _ _ _) (by simp [Value.oneCell']) (by unfold maxLen; omega) (by omega) (by simp; omega) ?_; intro v' w2 hown' hgrow _; have HOw := hid hown'; have HGr := hid hgrow; clear hown' hgrow))
            refine ⟨⟨k + 1, by omega, by go_num, ?_⟩, by simp [intOf]; omega⟩
            rw [HX.out]
            refine hid ⟨?_, (HW.out.2.alloc _).grown HGr.out (fun j e => by have := own_block HW.out.1 j e; have := hnG.out; omega) (fun j e h => by have := own_block HW.out.1 j e; omega)⟩
            have := HOw.out
            unfold RowI
            rw [show vals (occTo σ k ++ [(k, y)]) = vals (occTo σ k) ++ [y] by simp [vals], List.length_append, List.map_append]
            exact this
        · have hkn := hid (show k = ns by omega)
          have hW2 := HW.out
          rw [hkn.out, show occTo σ ns = occ σ by unfold occ; rw [hlx.out]] at hW2
          have HW2 := hid hW2
          have HRd := hid (hW2.1.rd (by rw [vals_length]; have := occTo_length σ σ.length; unfold occ; have := hlx.out; omega))
          have HRi := hid (refRising_any _ _ _ HRd.out)
          have HKE := hid (show keysE σ = if riseB (vals (occ σ)) = true then 0 else 18 from rfl)
          obtain ⟨A7, c7, e7, _⟩ := HRd.out
          subst e7
          clear HW hW2
          cases hr : riseB (vals (occ σ))
          · rw [hr] at HRi HKE
            have hke := hid (show keysE σ = 18 by rw [HKE.out, if_neg (by simp)])
            clear hr
            go_wp2_with fail
            refine HRi.out.mono ?_
            rintro e w2 ⟨rfl, hf2⟩
            have HF2 := hid (HW2.out.2.trans hf2)
            clear hf2
            go_wp2_with fail
            refine (auditRow_any (HS.out.new HF2.out) _ counts (HV1.out.new HF2.out)).mono ?_
            rintro e w3 ⟨rfl, hf3⟩
            have HF3 := hid (HF2.out.trans hf3)
            clear hf3
            go_wp2_with fail
            have hrow := refRow_any g (HR.out.fr' HF3.out id) (by rw [hlx.out]; exact hns) (HS.out.new HF3.out).g.size _ counts (HV1.out.new HF3.out)
            rw [hlx.out] at hrow
            refine hrow.mono ?_
            rintro e w4 ⟨rfl, hf4⟩
            have HF4 := hid (HF3.out.trans hf4)
            clear hf4 hrow
            go_wp2_with fail
            have hkey := auditKeys_any (HS.out.new HF4.out)
            rw [hke.out] at hkey
            refine hkey.mono ?_
            rintro e w5 ⟨rfl, hf5⟩
            have HF5 := hid (HF4.out.trans hf5)
            clear hf5 hkey
            go_wp2_with fail
            refine (auditRow_nil _ _).mono ?_
            rintro e w6 ⟨rfl, hf6⟩
            have HF6 := hid (HF5.out.trans hf6)
            clear hf6
            go_wp2_with fail
            refine (auditKeys_nil _).mono ?_
            rintro e w7 ⟨rfl, hf7⟩
            have HF7 := hid (HF6.out.trans hf7)
            clear hf7
            go_wp2_with fail
            refine (awake_any _ (HS.out.new HF7.out).g).mono ?_
            rintro e w8 ⟨rfl, hf8⟩
            have HF8 := hid (HF7.out.trans hf8)
            clear hf8
            go_wp2_with fail
            go_ret
            exact ⟨rfl, HF1.out.trans HF8.out⟩
          · rw [hr] at HRi HKE
            have hke := hid (show keysE σ = 0 by rw [HKE.out, if_pos rfl])
            clear hr
            go_wp2_with fail
            refine HRi.out.mono ?_
            rintro e w2 ⟨rfl, hf2⟩
            have HF2 := hid (HW2.out.2.trans hf2)
            clear hf2
            go_wp2_with fail
            refine (auditRow_any (HS.out.new HF2.out) _ counts (HV1.out.new HF2.out)).mono ?_
            rintro e w3 ⟨rfl, hf3⟩
            have HF3 := hid (HF2.out.trans hf3)
            clear hf3
            go_wp2_with fail
            have hrow := refRow_any g (HR.out.fr' HF3.out id) (by rw [hlx.out]; exact hns) (HS.out.new HF3.out).g.size _ counts (HV1.out.new HF3.out)
            rw [hlx.out] at hrow
            refine hrow.mono ?_
            rintro e w4 ⟨rfl, hf4⟩
            have HF4 := hid (HF3.out.trans hf4)
            clear hf4 hrow
            go_wp2_with fail
            have hkey := auditKeys_any (HS.out.new HF4.out)
            rw [hke.out] at hkey
            refine hkey.mono ?_
            rintro e w5 ⟨rfl, hf5⟩
            have HF5 := hid (HF4.out.trans hf5)
            clear hf5 hkey
            go_wp2_with fail
            refine (auditRow_nil _ _).mono ?_
            rintro e w6 ⟨rfl, hf6⟩
            have HF6 := hid (HF5.out.trans hf6)
            clear hf6
            go_wp2_with fail
            refine (auditKeys_nil _).mono ?_
            rintro e w7 ⟨rfl, hf7⟩
            have HF7 := hid (HF6.out.trans hf7)
            clear hf7
            go_wp2_with fail
            refine (awake_any _ (HS.out.new HF7.out).g).mono ?_
            rintro e w8 ⟨rfl, hf8⟩
            have HF8 := hid (HF7.out.trans hf8)
            clear hf8
            go_wp2_with fail
            go_ret
            exact ⟨rfl, HF1.out.trans HF8.out⟩
end Go.Proofs.YtonoaklajnfmiaaDoor
