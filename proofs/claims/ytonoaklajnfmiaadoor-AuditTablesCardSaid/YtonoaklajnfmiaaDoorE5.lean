/- The law AuditTables, as it is called. -/
import Derived.Test.YtonoaklajnfmiaaDoorE4
set_option linter.unusedVariables false
set_option linter.unusedSimpArgs false
namespace Go.Proofs.YtonoaklajnfmiaaDoor
open Go.RowKit Go.Maps

/-- A row that is read holds a number at a place. -/
theorem Rd.at {w : World} {A : Option Addr} {n c : Nat} {xs : List Int} (h : Rd w (.slice A n c) (ints' xs)) (j : Nat) (hj : j < xs.length) : ∃ ad, A = some ad ∧ w.cell? (ad.add j) = some (.int .i64 (xs.getD j 0)) := by
  obtain ⟨A', c', e', _, h'⟩ := h
  injection e' with e1 e2 e3
  subst e1
  obtain ⟨ad, rfl, hc⟩ := h' (by rw [ints'_length]; omega)
  exact ⟨ad, rfl, hc j _ (ints'_get _ j hj)⟩
theorem Fr.tab {f : TF} {w0 w w' : World} (h : Fr Nil1 w0 w) (hf : Fr f.mem w w') (ht : w0.heap.size ≤ f.t) (hm : w0.heap.size ≤ f.m) : Fr Nil1 w0 w' :=
  h.trans' hf (fun j _ hj hs => by rcases hs with rfl | rfl <;> omega)

set_option maxRecDepth 100000 in
set_option maxHeartbeats 8000000 in
theorem auditTables_long (a : Int) (u v1 v2 : Value) (l : List (Int × Int)) (ss fs : List Int) (w : World) (ha1 : -9223372036854775808 ≤ a) (ha2 : a ≤ 9223372036854775807) (hfs : ∀ j, j < fs.length → -9223372036854775808 ≤ fs.getD j 0 ∧ fs.getD j 0 ≤ 9223372036854775807)
    (hu : RdAt w u l) (hv1 : Rd w v1 (ints' ss)) (hv2 : Rd w v2 (ints' fs)) (hg : GW w) (hlong : 300 < l.length ∨ 100 < ss.length ∨ 100 < fs.length) :
    Calls Tryd.prog 6 #[.agg #[.int .i64 a, u], v1, v2] w fun e w' => e = .returned (.bool true) ∧ Fr Nil1 w w' := by
  have hu' := hu
  have hv1' := hv1
  have hv2' := hv2
  obtain ⟨A, ca, rfl, hA⟩ := hu'
  obtain ⟨B, cb, rfl, hbB, hB⟩ := hv1'
  obtain ⟨C, cc, rfl, hbC, hC⟩ := hv2'
  rw [ints'_length] at hv1 hv2 hbB hB hbC hC ⊢
  rw [ints'_length]
  have f0 : Fr Nil1 w (w.alloc (.cells #[.int .i64 a, .slice A l.length ca] 24)) := (Fr.refl _ _).alloc _
  have HU := hid (hu.new f0)
  have HV1 := hid (hv1.new f0)
  have HV2 := hid (hv2.new f0)
  have HG := hid (hg.fr f0)
  have HF := hid f0
  have HFS := hid hfs
  clear hu hv1 hv2 hg hA hB hC f0 hfs
  by_cases h1 : 300 < l.length
  · go_enter Tryd.func6, Tryd.ntmps6
    go_wp2_with fail
    refine (awake_any _ HG.out).mono ?_
    rintro e w1 ⟨rfl, hf⟩
    have HF1 := hid (HF.out.trans hf)
    clear hf
    go_wp2_with fail
    go_ret
    exact ⟨rfl, HF1.out⟩
  · by_cases h2 : 100 < ss.length
    · go_enter Tryd.func6, Tryd.ntmps6
      go_wp2_with fail
      refine (awake_any _ HG.out).mono ?_
      rintro e w1 ⟨rfl, hf⟩
      have HF1 := hid (HF.out.trans hf)
      clear hf
      go_wp2_with fail
      go_ret
      exact ⟨rfl, HF1.out⟩
    · by_cases h3 : 100 < fs.length
      · go_enter Tryd.func6, Tryd.ntmps6
        go_wp2_with fail
        refine (awake_any _ HG.out).mono ?_
        rintro e w1 ⟨rfl, hf⟩
        have HF1 := hid (HF.out.trans hf)
        clear hf
        go_wp2_with fail
        go_ret
        exact ⟨rfl, HF1.out⟩
      · exact absurd hlong (by omega)

set_option maxRecDepth 100000 in
set_option maxHeartbeats 8000000 in
theorem auditTables_go (a : Int) (u v1 v2 : Value) (l : List (Int × Int)) (ss fs : List Int) (w : World) (ha1 : -9223372036854775808 ≤ a) (ha2 : a ≤ 9223372036854775807) (hfs : ∀ j, j < fs.length → -9223372036854775808 ≤ fs.getD j 0 ∧ fs.getD j 0 ≤ 9223372036854775807)
    (hu : RdAt w u l) (hv1 : Rd w v1 (ints' ss)) (hv2 : Rd w v2 (ints' fs)) (hg : GW w) (h1 : ¬ 300 < l.length) (h2 : ¬ 100 < ss.length) (h3 : ¬ 100 < fs.length) :
    Calls Tryd.prog 6 #[.agg #[.int .i64 a, u], v1, v2] w fun e w' => e = .returned (.bool true) ∧ Fr Nil1 w w' := by
  have hu' := hu
  have hv1' := hv1
  have hv2' := hv2
  obtain ⟨A, ca, rfl, hA⟩ := hu'
  obtain ⟨B, cb, rfl, hbB, hB⟩ := hv1'
  obtain ⟨C, cc, rfl, hbC, hC⟩ := hv2'
  rw [ints'_length] at hv1 hv2 hbB hB hbC hC ⊢
  rw [ints'_length]
  have f0 : Fr Nil1 w (w.alloc (.cells #[.int .i64 a, .slice A l.length ca] 24)) := (Fr.refl _ _).alloc _
  have HU := hid (hu.new f0)
  have HV1 := hid (hv1.new f0)
  have HV2 := hid (hv2.new f0)
  have HG := hid (hg.fr f0)
  have HF := hid f0
  have HFS := hid hfs
  clear hu hv1 hv2 hg hA hB hC f0 hfs
  go_enter Tryd.func6, Tryd.ntmps6
  go_wp2_with fail
  refine (made_any a _ l _ ha1 ha2 (by omega) HU.out HG.out).mono ?_
  rintro e w1 ⟨p, g, rfl, hS, hR, hF, hk, hgg⟩
  have HS := hid hS
  have HR := hid hR
  have HW1 := hid (HV1.out.new hF)
  have HW2 := hid (HV2.out.new hF)
  have HF1 := hid (HF.out.trans hF)
  have hlx := hid (mkS_length (nSlots a) l)
  have hns : nSlots a ≤ 65536 := by unfold nSlots; omega
  clear hS hR hF hk hgg HU HV1 HV2
  generalize mkS (nSlots a) l = σ at *
  obtain ⟨ns, hns'⟩ : ∃ n, nSlots a = n := ⟨_, rfl⟩
  rw [hns'] at hlx hns ⊢
  clear hns'
  have HNS := hid hns
  clear hns
  go_wp2_with fail
  refine (tabNew_any _).mono ?_
  rintro e w2 ⟨rfl, hT, hf⟩
  have hT := hT HS.out.g.size
  have HT := hid hT
  have HN2 := hid hf
  obtain ⟨ft, hft⟩ : ∃ ft : TF, (⟨w1.heap.size + 1, w1.heap.size⟩ : TF) = ft := ⟨_, rfl⟩
  have hftt : w1.heap.size + 1 = ft.t := by rw [← hft]
  have hftm : w1.heap.size ≤ ft.m := by rw [← hft]; exact Nat.le_refl _
  have hftt' : w1.heap.size ≤ ft.t := by omega
  rw [hft] at HT
  rw [hftt]
  have HFT := hid (show w1.heap.size ≤ ft.t ∧ w1.heap.size ≤ ft.m from ⟨hftt', hftm⟩)
  clear hT hf hft hftt hftm hftt'
  go_wp2_with (first | (go_at_call 21; first | (with_reducible refine (auditTable_nil2 _ _).mono ?_; rintro e w3 ⟨rfl, rfl⟩) | (with_reducible refine (auditTable_nil1 _ _).mono ?_; rintro e w3 ⟨rfl, rfl⟩)))
  go_loopw [10] (fun i wr => ∃ k : Nat, k ≤ ss.length ∧ i = .int .i64 k ∧ Hid (TabR wr ft (tkTo ss k) ∧ Fr Nil1 w1 wr)) (fun i _ => ss.length - (intOf i).toNat)
  case atStart => exact ⟨0, by omega, rfl, hid ⟨HT.out, HN2.out⟩⟩
  case round =>
    obtain ⟨k, hk, rfl, HX⟩ := hrel
    by_cases hlt : k < ss.length
    · have hltI : (k : Int) < ss.length := by omega
      obtain ⟨ad, rfl, hc⟩ := (HW1.out.new HX.out.2).at k hlt
      have hlen := tkTo_length ss k
      have HST := hid (show tkTo ss (k + 1) = if mayS (ss.getD k 0) = true then tkTo ss k ++ [some (ss.getD k 0)] else tkTo ss k from rfl)
      generalize ss.getD k 0 = x at *
      cases hm : mayS x
      · have HK := hid (tabTake_bad (f := ft) (τ := tkTo ss k) (w := wr) x hm)
        have HS1 := hid (show tkTo ss (k + 1) = tkTo ss k by rw [HST.out, if_neg (by rw [hm]; simp)])
        clear hm hlen
        go_wp2_with (first | (go_at_call 22; refine HK.out.mono ?_; rintro e w3 ⟨rfl, rfl⟩))
        refine ⟨⟨k + 1, by omega, by go_num, ?_⟩, by simp [intOf]; omega⟩
        rw [HS1.out]
        exact HX
      · have HK := hid (tabTake_any HX.out.1 x hm (by omega))
        have HS1 := hid (show tkTo ss (k + 1) = tkTo ss k ++ [some x] by rw [HST.out, if_pos hm])
        clear hm hlen
        go_wp2_with (first | (go_at_call 22; refine HK.out.mono ?_; rintro e w3 ⟨rfl, hT3, hF3⟩; have HT3 := hid hT3; have HF3 := hid (HX.out.2.tab hF3 HFT.out.1 HFT.out.2); clear hT3 hF3))
        refine ⟨⟨k + 1, by omega, by go_num, ?_⟩, by simp [intOf]; omega⟩
        rw [HS1.out]
        exact hid ⟨HT3.out, HF3.out⟩
    · have hks := hid (show k = ss.length by omega)
      have HX2 := hid (hks.out ▸ HX.out)
      have htl := tkTo_length ss ss.length
      clear HX hks HT HN2
      generalize tkTo ss ss.length = τ0 at *
      go_wp2_with fail
      go_loopw [11] (fun i wr => ∃ k : Nat, k ≤ fs.length ∧ i = .int .i64 k ∧ Hid (TabR wr ft (frTo τ0 fs k) ∧ Fr Nil1 w1 wr)) (fun i _ => fs.length - (intOf i).toNat)
      case atStart => exact ⟨0, by omega, rfl, HX2⟩
      case round =>
        obtain ⟨j, hj, rfl, HY⟩ := hrel
        by_cases hlt2 : j < fs.length
        · have hltI2 : (j : Int) < fs.length := by omega
          obtain ⟨ad, rfl, hc⟩ := (HW2.out.new HY.out.2).at j hlt2
          obtain ⟨b1, b2⟩ := HFS.out j hlt2
          have HST := hid (show frTo τ0 fs (j + 1) = if liveB (frTo τ0 fs j) (fs.getD j 0) = true then (frTo τ0 fs j).set ((fs.getD j 0).toNat - 1) none else frTo τ0 fs j from rfl)
          generalize fs.getD j 0 = x at *
          cases hm : liveB (frTo τ0 fs j) x
          · have HK := hid (tabFree_bad HY.out.1 x b1 b2 hm)
            have HS1 := hid (show frTo τ0 fs (j + 1) = frTo τ0 fs j by rw [HST.out, if_neg (by rw [hm]; simp)])
            clear hm b1 b2
            go_wp2_with (first | (go_at_call 23; refine HK.out.mono ?_; rintro e w3 ⟨rfl, rfl⟩))
            refine ⟨⟨j + 1, by omega, by go_num, ?_⟩, by simp [intOf]; omega⟩
            rw [HS1.out]
            exact HY
          · have HK := hid (tabFree_any HY.out.1 x b1 b2 hm)
            have HS1 := hid (show frTo τ0 fs (j + 1) = (frTo τ0 fs j).set (x.toNat - 1) none by rw [HST.out, if_pos hm])
            clear hm b1 b2
            go_wp2_with (first | (go_at_call 23; refine HK.out.mono ?_; rintro e w3 ⟨rfl, hT3, hF3⟩; have HT3 := hid hT3; have HF3 := hid (HY.out.2.tab hF3 HFT.out.1 HFT.out.2); clear hT3 hF3))
            refine ⟨⟨j + 1, by omega, by go_num, ?_⟩, by simp [intOf]; omega⟩
            rw [HS1.out]
            exact hid ⟨HT3.out, HF3.out⟩
        · have hjs := hid (show j = fs.length by omega)
          have HY2 := hid (hjs.out ▸ HY.out)
          have hfl := frTo_length τ0 fs fs.length
          clear HY hjs
          generalize frTo τ0 fs fs.length = τ at *
          have hTT := HY2.out.1
          have hNN := HY2.out.2
          have HSS := hid (HS.out.new hNN)
          have HRR := hid (HR.out.fr' hNN id)
          have HTT := hid hTT
          have HTLn := hid (tabLen_any hTT)
          have HAT := hid (auditTable_any (HS.out.new hNN) hTT (by omega))
          have HWT := hid (wTo_tabE σ τ ss.length (by omega))
          have HTL := hid (show τ.length ≤ ss.length by omega)
          clear hTT hNN hfl htl
          go_wp2_with fail
          go_loop [12, 13] (fun n i => ∃ q : Nat, q ≤ ns ∧ i = .int .i64 q ∧ n = .int .i64 (cntOn (onOf σ) q : Nat)) (fun _ i => ns - (intOf i).toNat)
          case atStart => exact ⟨0, by omega, rfl, rfl⟩
          case round =>
            obtain ⟨q, hq, rfl, rfl⟩ := hrel
            have hcl := cntOn_le (onOf σ) q
            by_cases hlt3 : q < ns
            · have hltI3 : (q : Int) < ns := by omega
              have q2 : IntKind.i64.wrap ((q : Int) + 1) = (q : Int) + 1 := IntWalk.i64_in _ (by have := HNS.out; omega)
              have a0 := HRR.out.cell (q * 2)
              rw [slotCells_get0 _ _ (by rw [hlx.out]; exact hlt3)] at a0
              have HCN := hid (show cntOn (onOf σ) (q + 1) = cntOn (onOf σ) q + (onOf σ q).toNat from rfl)
              have hns5 := HNS.out
              cases hon : onOf σ q
              · rw [show (σ.getD q none).isSome = false from hon] at a0
                rw [hon] at HCN
                clear hon
                generalize cntOn (onOf σ) q = cq at *
                clear hns5
                go_wp2_with fail
                exact ⟨⟨q + 1, by omega, by go_num, by rw [HCN.out]; rfl⟩, by simp [intOf]; omega⟩
              · rw [show (σ.getD q none).isSome = true from hon] at a0
                rw [hon] at HCN
                clear hon
                generalize cntOn (onOf σ) q = cq at *
                have q1 : IntKind.i64.wrap ((cq : Int) + 1) = (cq : Int) + 1 := IntWalk.i64_in _ (by omega)
                clear hns5
                go_wp2_with fail
                exact ⟨⟨q + 1, by omega, by go_num, by rw [HCN.out]; rfl⟩, by simp [intOf]; omega⟩
            · have hqs := hid (show q = σ.length by have := hlx.out; omega)
              rw [hqs.out]
              have hltI3 : ¬ ((σ.length : Nat) : Int) < ns := by have := hlx.out; omega
              have HW0 := hid (show wTo σ τ 0 = if cntOn (onOf σ) σ.length ≠ (occ τ).length then 23 else 0 from rfl)
              have HWS := hid (fun j => show wTo σ τ (j + 1) = if (liveB τ ((j : Int) + 1) && !okH σ τ ((j : Int) + 1)) = true then 23 else wTo σ τ j from rfl)
              by_cases hcm : cntOn (onOf σ) σ.length = (occ τ).length
              · have hcb : ((cntOn (onOf σ) σ.length : Nat) : Int) = ((occ τ).length : Nat) := by rw [hcm]
                have HWV := hid (show wTo σ τ 0 = 0 by rw [HW0.out, if_neg (fun c => c hcm)])
                have hcb2 : (((cntOn (onOf σ) σ.length : Nat) : Int) != ((occ τ).length : Nat)) = false := by rw [bne_eq_false_iff_eq]; exact hcb
                clear hcm hcb
                generalize cntOn (onOf σ) σ.length = cq at *
                generalize (occ τ).length = mo at *
                go_wp2_with (first | (go_at_call 24; refine HTLn.out.mono ?_; rintro e w4 ⟨rfl, rfl⟩))
                go_loop [14, 15, 16, 17] (fun wv h _ _ => ∃ (j : Nat) (x : Int), j ≤ ss.length ∧ x = j + 1 ∧ h = .int .i64 x ∧ wv = .int .i64 (wTo σ τ j)) (fun _ h _ _ => ss.length + 1 - (intOf h).toNat)
                case atStart => exact ⟨0, 1, by omega, rfl, rfl, by rw [HWV.out]⟩
                case round =>
                  obtain ⟨j, x, hj, hxj, rfl, rfl⟩ := hrel
                  have HXJ := hid hxj
                  have HWj := hid (HWS.out j)
                  rw [← hxj] at HWj
                  by_cases hlt4 : j < ss.length
                  · have hltI4 : x ≤ ss.length := by omega
                    have q4 : IntKind.i64.wrap (x + 1) = x + 1 := IntWalk.i64_in _ (by omega)
                    have HSl := hid (tabSlot_any HTT.out x (by omega) (by omega))
                    have HSE := hid (show staleE τ x = if liveB τ x = true then 0 else 17 from rfl)
                    have hxp : 1 ≤ x := by omega
                    clear hxj
                    cases hlv : liveB τ x
                    · rw [hlv] at HSE HWj
                      have HW1 := hid (show wTo σ τ (j + 1) = wTo σ τ j by rw [HWj.out, if_neg (by simp)])
                      rw [show staleE τ x = 17 by rw [HSE.out, if_neg (by simp)]] at HSl
                      clear hlv
                      generalize slotV τ x = sv at *
                      generalize wTo σ τ j = wv at *
                      go_wp2_with (first | (go_at_call 25; refine HSl.out.mono ?_; rintro e w4 ⟨rfl, rfl⟩))
                      exact ⟨⟨j + 1, x + 1, by omega, by have := HXJ.out; omega, by go_num, by rw [HW1.out]⟩, by have := HXJ.out; simp [intOf]; omega⟩
                    · obtain ⟨s, hs⟩ : ∃ s, slotAt τ x = some s := by
                        unfold liveB at hlv
                        cases e : slotAt τ x with
                        | none => rw [e] at hlv; cases hlv
                        | some y => exact ⟨y, rfl⟩
                      obtain ⟨s0, s1⟩ := HTT.out.wf x s hs
                      have hsv : slotV τ x = s := by unfold slotV; rw [hs]; rfl
                      obtain ⟨sn, rfl⟩ := Int.eq_ofNat_of_zero_le s0
                      rw [hlv] at HSE HWj
                      rw [show staleE τ x = 0 by rw [HSE.out, if_pos rfl], hsv] at HSl
                      have HOK := hid (show okH σ τ x = (atB σ (sn : Int) && decide (atV σ (sn : Int) = x)) by unfold okH; rw [hsv])
                      have HAB := hid (show atB σ (sn : Int) = (σ.getD sn none).isSome by unfold atB onOf; rw [decide_eq_true (by omega), Bool.true_and, Int.toNat_natCast])
                      have HAV := hid (show atV σ (sn : Int) = (σ.getD sn none).getD 0 by unfold atV; rw [if_pos (by omega), Int.toNat_natCast])
                      have HBAD := hid (show okH σ τ x = false → wTo σ τ (j + 1) = 23 from fun h => by rw [HWj.out, h]; rfl)
                      have HGOOD := hid (show okH σ τ x = true → wTo σ τ (j + 1) = wTo σ τ j from fun h => by rw [HWj.out, h]; rfl)
                      clear hlv hs s1 hsv
                      generalize wTo σ τ j = wv at *
                      by_cases g1 : sn < ns
                      · have g1I : (sn : Int) < ns := by omega
                        have g1N : ¬ (ns : Int) ≤ sn := by omega
                        have a0 := HRR.out.cell (sn * 2)
                        have a1 := HRR.out.cell (sn * 2 + 1)
                        rw [slotCells_get0 _ _ (by rw [hlx.out]; exact g1)] at a0
                        rw [slotCells_get1 _ _ (by rw [hlx.out]; exact g1)] at a1
                        cases hgx : σ.getD sn none with
                        | none =>
                          rw [hgx] at a0 a1 HAB HAV
                          have HW1 := hid (HBAD.out (by rw [HOK.out, HAB.out]; rfl))
                          replace a0 : wr.cell? ⟨g, sn * 2, none⟩ = some (.bool false) := a0
                          clear hgx a1
                          go_wp2_with (first | (go_at_call 25; refine HSl.out.mono ?_; rintro e w4 ⟨rfl, rfl⟩))
                          exact ⟨⟨j + 1, x + 1, by omega, by have := HXJ.out; omega, by go_num, by rw [HW1.out]⟩, by have := HXJ.out; simp [intOf]; omega⟩
                        | some y =>
                          rw [hgx] at a0 a1 HAB HAV
                          replace a0 : wr.cell? ⟨g, sn * 2, none⟩ = some (.bool true) := a0
                          replace a1 : wr.cell? ⟨g, sn * 2 + 1, none⟩ = some (.int .i64 y) := a1
                          clear hgx
                          by_cases hy : y = x
                          · have hyb : (y != x) = false := by rw [bne_eq_false_iff_eq]; exact hy
                            have HW1 := hid (HGOOD.out (by rw [HOK.out, HAB.out, HAV.out, decide_eq_true (by exact hy)]; rfl))
                            clear hy
                            go_wp2_with (first | (go_at_call 25; refine HSl.out.mono ?_; rintro e w4 ⟨rfl, rfl⟩))
                            exact ⟨⟨j + 1, x + 1, by omega, by have := HXJ.out; omega, by go_num, by rw [HW1.out]⟩, by have := HXJ.out; simp [intOf]; omega⟩
                          · have hyb : (y != x) = true := by rw [bne_iff_ne]; exact hy
                            have HW1 := hid (HBAD.out (by rw [HOK.out, HAB.out, HAV.out, decide_eq_false (by exact hy)]; rfl))
                            clear hy
                            go_wp2_with (first | (go_at_call 25; refine HSl.out.mono ?_; rintro e w4 ⟨rfl, rfl⟩))
                            exact ⟨⟨j + 1, x + 1, by omega, by have := HXJ.out; omega, by go_num, by rw [HW1.out]⟩, by have := HXJ.out; simp [intOf]; omega⟩
                      · have g1I : (ns : Int) ≤ sn := by omega
                        have HW1 := hid (HBAD.out (by rw [HOK.out, HAB.out, List.getD_eq_getElem?_getD, List.getElem?_eq_none (by rw [hlx.out]; omega)]; rfl))
                        go_wp2_with (first | (go_at_call 25; refine HSl.out.mono ?_; rintro e w4 ⟨rfl, rfl⟩))
                        exact ⟨⟨j + 1, x + 1, by omega, by have := HXJ.out; omega, by go_num, by rw [HW1.out]⟩, by have := HXJ.out; simp [intOf]; omega⟩
                  · have hje := hid (show j = ss.length by omega)
                    have hltI4 : ¬ x ≤ ss.length := by omega
                    have HWE := hid (show wTo σ τ j = tabE σ τ by rw [hje.out, HWT.out])
                    rw [HWE.out]
                    clear hxj
                    go_wp2_with (first | (go_at_call 21; refine HAT.out.mono ?_; rintro e w4 ⟨rfl, hf4⟩; have HF4 := hid hf4; clear hf4))
                    refine (awake_any _ (HSS.out.new HF4.out).g).mono ?_
                    rintro e w5 ⟨rfl, hf5⟩
                    have HL := hid ((HY2.out.2.trans HF4.out).trans hf5)
                    clear hf5
                    go_wp2_with fail
                    go_ret
                    exact ⟨rfl, HF1.out.trans HL.out⟩
              · have HWV := hid (show wTo σ τ 0 = 23 by rw [HW0.out, if_pos hcm])
                have hcb2 : (((cntOn (onOf σ) σ.length : Nat) : Int) != ((occ τ).length : Nat)) = true := by rw [bne_iff_ne]; omega
                clear hcm
                generalize cntOn (onOf σ) σ.length = cq at *
                generalize (occ τ).length = mo at *
                go_wp2_with (first | (go_at_call 24; refine HTLn.out.mono ?_; rintro e w4 ⟨rfl, rfl⟩))
                go_loop [14, 15, 16, 17] (fun wv h _ _ => ∃ (j : Nat) (x : Int), j ≤ ss.length ∧ x = j + 1 ∧ h = .int .i64 x ∧ wv = .int .i64 (wTo σ τ j)) (fun _ h _ _ => ss.length + 1 - (intOf h).toNat)
                case atStart => exact ⟨0, 1, by omega, rfl, rfl, by rw [HWV.out]⟩
                case round =>
                  obtain ⟨j, x, hj, hxj, rfl, rfl⟩ := hrel
                  have HXJ := hid hxj
                  have HWj := hid (HWS.out j)
                  rw [← hxj] at HWj
                  by_cases hlt4 : j < ss.length
                  · have hltI4 : x ≤ ss.length := by omega
                    have q4 : IntKind.i64.wrap (x + 1) = x + 1 := IntWalk.i64_in _ (by omega)
                    have HSl := hid (tabSlot_any HTT.out x (by omega) (by omega))
                    have HSE := hid (show staleE τ x = if liveB τ x = true then 0 else 17 from rfl)
                    have hxp : 1 ≤ x := by omega
                    clear hxj
                    cases hlv : liveB τ x
                    · rw [hlv] at HSE HWj
                      have HW1 := hid (show wTo σ τ (j + 1) = wTo σ τ j by rw [HWj.out, if_neg (by simp)])
                      rw [show staleE τ x = 17 by rw [HSE.out, if_neg (by simp)]] at HSl
                      clear hlv
                      generalize slotV τ x = sv at *
                      generalize wTo σ τ j = wv at *
                      go_wp2_with (first | (go_at_call 25; refine HSl.out.mono ?_; rintro e w4 ⟨rfl, rfl⟩))
                      exact ⟨⟨j + 1, x + 1, by omega, by have := HXJ.out; omega, by go_num, by rw [HW1.out]⟩, by have := HXJ.out; simp [intOf]; omega⟩
                    · obtain ⟨s, hs⟩ : ∃ s, slotAt τ x = some s := by
                        unfold liveB at hlv
                        cases e : slotAt τ x with
                        | none => rw [e] at hlv; cases hlv
                        | some y => exact ⟨y, rfl⟩
                      obtain ⟨s0, s1⟩ := HTT.out.wf x s hs
                      have hsv : slotV τ x = s := by unfold slotV; rw [hs]; rfl
                      obtain ⟨sn, rfl⟩ := Int.eq_ofNat_of_zero_le s0
                      rw [hlv] at HSE HWj
                      rw [show staleE τ x = 0 by rw [HSE.out, if_pos rfl], hsv] at HSl
                      have HOK := hid (show okH σ τ x = (atB σ (sn : Int) && decide (atV σ (sn : Int) = x)) by unfold okH; rw [hsv])
                      have HAB := hid (show atB σ (sn : Int) = (σ.getD sn none).isSome by unfold atB onOf; rw [decide_eq_true (by omega), Bool.true_and, Int.toNat_natCast])
                      have HAV := hid (show atV σ (sn : Int) = (σ.getD sn none).getD 0 by unfold atV; rw [if_pos (by omega), Int.toNat_natCast])
                      have HBAD := hid (show okH σ τ x = false → wTo σ τ (j + 1) = 23 from fun h => by rw [HWj.out, h]; rfl)
                      have HGOOD := hid (show okH σ τ x = true → wTo σ τ (j + 1) = wTo σ τ j from fun h => by rw [HWj.out, h]; rfl)
                      clear hlv hs s1 hsv
                      generalize wTo σ τ j = wv at *
                      by_cases g1 : sn < ns
                      · have g1I : (sn : Int) < ns := by omega
                        have g1N : ¬ (ns : Int) ≤ sn := by omega
                        have a0 := HRR.out.cell (sn * 2)
                        have a1 := HRR.out.cell (sn * 2 + 1)
                        rw [slotCells_get0 _ _ (by rw [hlx.out]; exact g1)] at a0
                        rw [slotCells_get1 _ _ (by rw [hlx.out]; exact g1)] at a1
                        cases hgx : σ.getD sn none with
                        | none =>
                          rw [hgx] at a0 a1 HAB HAV
                          have HW1 := hid (HBAD.out (by rw [HOK.out, HAB.out]; rfl))
                          replace a0 : wr.cell? ⟨g, sn * 2, none⟩ = some (.bool false) := a0
                          clear hgx a1
                          go_wp2_with (first | (go_at_call 25; refine HSl.out.mono ?_; rintro e w4 ⟨rfl, rfl⟩))
                          exact ⟨⟨j + 1, x + 1, by omega, by have := HXJ.out; omega, by go_num, by rw [HW1.out]⟩, by have := HXJ.out; simp [intOf]; omega⟩
                        | some y =>
                          rw [hgx] at a0 a1 HAB HAV
                          replace a0 : wr.cell? ⟨g, sn * 2, none⟩ = some (.bool true) := a0
                          replace a1 : wr.cell? ⟨g, sn * 2 + 1, none⟩ = some (.int .i64 y) := a1
                          clear hgx
                          by_cases hy : y = x
                          · have hyb : (y != x) = false := by rw [bne_eq_false_iff_eq]; exact hy
                            have HW1 := hid (HGOOD.out (by rw [HOK.out, HAB.out, HAV.out, decide_eq_true (by exact hy)]; rfl))
                            clear hy
                            go_wp2_with (first | (go_at_call 25; refine HSl.out.mono ?_; rintro e w4 ⟨rfl, rfl⟩))
                            exact ⟨⟨j + 1, x + 1, by omega, by have := HXJ.out; omega, by go_num, by rw [HW1.out]⟩, by have := HXJ.out; simp [intOf]; omega⟩
                          · have hyb : (y != x) = true := by rw [bne_iff_ne]; exact hy
                            have HW1 := hid (HBAD.out (by rw [HOK.out, HAB.out, HAV.out, decide_eq_false (by exact hy)]; rfl))
                            clear hy
                            go_wp2_with (first | (go_at_call 25; refine HSl.out.mono ?_; rintro e w4 ⟨rfl, rfl⟩))
                            exact ⟨⟨j + 1, x + 1, by omega, by have := HXJ.out; omega, by go_num, by rw [HW1.out]⟩, by have := HXJ.out; simp [intOf]; omega⟩
                      · have g1I : (ns : Int) ≤ sn := by omega
                        have HW1 := hid (HBAD.out (by rw [HOK.out, HAB.out, List.getD_eq_getElem?_getD, List.getElem?_eq_none (by rw [hlx.out]; omega)]; rfl))
                        go_wp2_with (first | (go_at_call 25; refine HSl.out.mono ?_; rintro e w4 ⟨rfl, rfl⟩))
                        exact ⟨⟨j + 1, x + 1, by omega, by have := HXJ.out; omega, by go_num, by rw [HW1.out]⟩, by have := HXJ.out; simp [intOf]; omega⟩
                  · have hje := hid (show j = ss.length by omega)
                    have hltI4 : ¬ x ≤ ss.length := by omega
                    have HWE := hid (show wTo σ τ j = tabE σ τ by rw [hje.out, HWT.out])
                    rw [HWE.out]
                    clear hxj
                    go_wp2_with (first | (go_at_call 21; refine HAT.out.mono ?_; rintro e w4 ⟨rfl, hf4⟩; have HF4 := hid hf4; clear hf4))
                    refine (awake_any _ (HSS.out.new HF4.out).g).mono ?_
                    rintro e w5 ⟨rfl, hf5⟩
                    have HL := hid ((HY2.out.2.trans HF4.out).trans hf5)
                    clear hf5
                    go_wp2_with fail
                    go_ret
                    exact ⟨rfl, HF1.out.trans HL.out⟩

theorem auditTables_any (a : Int) (u v1 v2 : Value) (l : List (Int × Int)) (ss fs : List Int) (w : World) (ha1 : -9223372036854775808 ≤ a) (ha2 : a ≤ 9223372036854775807) (hfs : ∀ j, j < fs.length → -9223372036854775808 ≤ fs.getD j 0 ∧ fs.getD j 0 ≤ 9223372036854775807)
    (hu : RdAt w u l) (hv1 : Rd w v1 (ints' ss)) (hv2 : Rd w v2 (ints' fs)) (hg : GW w) :
    Calls Tryd.prog 6 #[.agg #[.int .i64 a, u], v1, v2] w fun e w' => e = .returned (.bool true) ∧ Fr Nil1 w w' := by
  by_cases h1 : 300 < l.length
  · exact auditTables_long a u v1 v2 l ss fs w ha1 ha2 hfs hu hv1 hv2 hg (.inl h1)
  · by_cases h2 : 100 < ss.length
    · exact auditTables_long a u v1 v2 l ss fs w ha1 ha2 hfs hu hv1 hv2 hg (.inr (.inl h2))
    · by_cases h3 : 100 < fs.length
      · exact auditTables_long a u v1 v2 l ss fs w ha1 ha2 hfs hu hv1 hv2 hg (.inr (.inr h3))
      · exact auditTables_go a u v1 v2 l ss fs w ha1 ha2 hfs hu hv1 hv2 hg h1 h2 h3
end Go.Proofs.YtonoaklajnfmiaaDoor
