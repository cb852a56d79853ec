/- audit.Row: how an array, and counts of its segments, are wrong. -/
import Derived.Test.YtonoaklajnfmiaaDoorB5
import Derived.Test.YtonoaklajnfmiaaDoorC2
set_option linter.unusedVariables false
set_option linter.unusedSimpArgs false
namespace Go.Proofs.YtonoaklajnfmiaaDoor
open Go.RowKit

def bump (h : List Int) (i : Int) : List Int := h.set (i / 8).toNat (h.getD (i / 8).toNat 0 + 1)
def cntF (m : Nat) (l : List Int) : List Int := l.foldl bump (List.replicate m 0)
/-- How many are occupied in each segment. -/
def cntL (σ : List (Option Int)) : List Int := cntF (σ.length / 8) (idxs (occ σ))
theorem cntF_length (m : Nat) (l : List Int) : (cntF m l).length = m := by
  have : ∀ (l h : List Int), (l.foldl bump h).length = h.length := by
    intro l
    induction l with
    | nil => intro h; rfl
    | cons p r ih => intro h; rw [List.foldl_cons, ih]; simp [bump]
  rw [cntF, this, List.length_replicate]
theorem cntF_snoc (m : Nat) (l : List Int) (k : Nat) (hk : k < l.length) : cntF m (l.take (k + 1)) = bump (cntF m (l.take k)) (l.getD k 0) := by
  unfold cntF
  rw [List.take_succ_eq_append_getElem hk, List.foldl_append]
  simp [List.getD_eq_getElem?_getD, List.getElem?_eq_getElem hk]
theorem cntF_bound (m : Nat) (l : List Int) : ∀ k, 0 ≤ (cntF m l).getD k 0 ∧ (cntF m l).getD k 0 ≤ l.length := by
  have : ∀ (l h : List Int) (b : Int), (∀ k, 0 ≤ h.getD k 0 ∧ h.getD k 0 ≤ b) → ∀ k, 0 ≤ (l.foldl bump h).getD k 0 ∧ (l.foldl bump h).getD k 0 ≤ b + l.length := by
    intro l
    induction l with
    | nil => intro h b hh k; simpa using hh k
    | cons p r ih =>
      intro h b hh k
      rw [List.foldl_cons]
      have := ih (bump h p) (b + 1) (fun k => by
        have h1 := hh k
        have h2 := hh (p / 8).toNat
        have hb : 0 ≤ b := by omega
        unfold bump
        rw [List.getD_eq_getElem?_getD, List.getElem?_set]
        split
        · split
          · simp only [Option.getD_some]; omega
          · simp only [Option.getD_none]; omega
        · rw [← List.getD_eq_getElem?_getD]; omega) k
      simp only [List.length_cons] at this ⊢
      omega
  intro k
  have := this l (List.replicate m 0) 0 (fun k => by
    rw [List.getD_eq_getElem?_getD, List.getElem?_replicate]
    split <;> simp) k
  unfold cntF
  omega
theorem mayB_mul (n : Nat) (h : mayB (n : Int) = true) : n = 8 * (n / 8) := by
  unfold mayB at h
  rw [Bool.and_eq_true, Int.toNat_natCast] at h
  have := h.2
  unfold mayN at this
  simp only [Bool.or_eq_true, beq_iff_eq] at this
  omega
def rowE (σ : List (Option Int)) (counts : List Int) : Int :=
  if mayB σ.length = false then 19 else if cntL σ ≠ counts then 20 else if 7 < maxL (cntL σ) then 22 else if 32 < σ.length ∧ minL (cntL σ) < 1 then 21 else 0
theorem idxs_range (σ : List (Option Int)) : ∀ k, k < (idxs (occ σ)).length → 0 ≤ (idxs (occ σ)).getD k 0 ∧ (idxs (occ σ)).getD k 0 < σ.length := by
  have h : ∀ n p, p ∈ occTo σ n → p.1 < n := by
    intro n
    induction n with
    | zero => intro p hp; cases hp
    | succ n ih =>
      intro p hp
      unfold occTo at hp
      rw [List.mem_append] at hp
      rcases hp with hp | hp
      · have := ih p hp; omega
      · cases e : σ.getD n none with
        | none => rw [e] at hp; cases hp
        | some x => rw [e] at hp; simp at hp; subst hp; simp
  intro k hk
  unfold idxs at hk ⊢
  rw [List.length_map] at hk
  rw [List.getD_eq_getElem?_getD, List.getElem?_map, List.getElem?_eq_getElem hk]
  have := h σ.length _ (List.getElem_mem hk)
  simp only [Option.map_some, Option.getD_some]
  omega
theorem Has.rd {w : World} {g : Nat} {xs : List Int} {T : TypeId} (h : Has w g (ints' xs) T) (hb : xs.length ≤ 9223372036854775807) : Rd w (.slice (some ⟨g, 0, none⟩) xs.length xs.length) (ints' xs) := by
  refine ⟨some ⟨g, 0, none⟩, xs.length, by rw [ints'_length], by rw [ints'_length]; exact hb, fun _ => ⟨_, rfl, fun j u hu => ?_⟩⟩
  rw [add_flat, Nat.zero_add, h.cell]
  exact hu
theorem ints'_set (xs : List Int) (k : Nat) (x : Int) : (ints' xs).set k (.int .i64 x) = ints' (xs.set k x) := by simp [ints', List.map_set]

set_option maxHeartbeats 400000 in
theorem auditRow_nil (v : Value) (w : World) : Calls Tryd.prog 13 #[.pointer none, v] w fun e w' => e = .returned (.int .i64 2) ∧ Fr Nil1 w w' := by
  go_enter Tryd.func13, Tryd.ntmps13
  go_wp2_with fail
  go_ret
  exact ⟨rfl, Fr.refl _ _⟩

set_option maxHeartbeats 4000000 in
theorem auditRow_any {f : SF} {σ : List (Option Int)} {w : World} (h : SlotsR w f σ) (v : Value) (counts : List Int) (hv : Rd w v (ints' counts)) :
    Calls Tryd.prog 13 #[.pointer (some ⟨f.s, 0, none⟩), v] w fun e w' => e = .returned (.int .i64 (rowE σ counts)) ∧ Fr Nil1 w w' := by
  cases hm : mayB σ.length
  · have HE := hid (show rowE σ counts = 19 by unfold rowE; rw [if_pos hm])
    have HH := hid h
    have HM := hid (fun w => hm ▸ levelMay_any (σ.length : Int) w)
    clear h hm hv
    go_enter Tryd.func13, Tryd.ntmps13
    go_wp2_with (first | (go_at_call 28; refine (gapsCap_any HH.out).mono ?_; rintro e w1 ⟨rfl, rfl⟩) | (go_at_call 31; refine (HM.out _).mono ?_; rintro e w1 ⟨rfl, rfl⟩))
    go_ret
    rw [HE.out]
    exact ⟨rfl, Fr.refl _ _⟩
  · have hcap : 32 ≤ σ.length ∧ σ.length ≤ 4096 := by
      unfold mayB at hm
      rw [Bool.and_eq_true] at hm
      have h2 := hm.2
      rw [Int.toNat_natCast] at h2
      rcases Nat.lt_or_ge σ.length 32 with g | g
      · rw [mayN_big _ (.inl g)] at h2; cases h2
      · rcases Nat.lt_or_ge 4096 σ.length with g' | g'
        · rw [mayN_big _ (.inr g')] at h2; cases h2
        · exact ⟨g, g'⟩
    obtain ⟨hc1, hc2⟩ := hcap
    have HMul := hid (mayB_mul _ hm)
    have HMm := hid hm
    have HM := hid (fun w => hm ▸ levelMay_any (σ.length : Int) w)
    have hmk := mk_row (P := Tryd.prog) 30 3 (.int .i64 0) 8 Tryd.underlying30 info_int rfl (by decide) ((σ.length : Int) / 8) (by omega) (by omega)
    have hto : (((σ.length : Int) / 8)).toNat = σ.length / 8 := by omega
    rw [hto] at hmk
    have hfr0 : Fr Nil1 w (w.alloc (.cells (madeCells #[.int .i64 0] (σ.length / 8)) 3)) := (Fr.refl _ _).alloc _
    have HH := hid h
    have HH1 := hid (h.new hfr0)
    have HV := hid hv
    have HF0 := hid hfr0
    have HD := hid (Has.made w (.int .i64 0) (σ.length / 8) 3)
    have HG := hid h.g.size
    have hidl : (idxs (occ σ)).length ≤ 65536 := by rw [idxs, List.length_map]; exact Nat.le_trans (occTo_length σ _) h.bits.n2
    have HIR := hid (idxs_range σ)
    clear h hv hm hto hfr0
    go_enter Tryd.func13, Tryd.ntmps13
    go_wp2_with (first | (go_at_call 28; refine (gapsCap_any HH.out).mono ?_; rintro e w1 ⟨rfl, rfl⟩) | (go_at_call 31; refine (HM.out _).mono ?_; rintro e w1 ⟨rfl, rfl⟩) | (go_at_call 32; refine (gapsPlaces_any HH1.out).mono ?_; rintro e w1 ⟨pv, rfl, hR, hF⟩; have HR := hid hR; have HF := hid hF; clear hR hF; obtain ⟨pA, pc, hpv⟩ : ∃ A c, pv = Value.slice A (idxs (occ σ)).length c := (by obtain ⟨A, c, e, _⟩ := (RowI.rd HR.out (by omega)); rw [ints'_length] at e; exact ⟨A, c, e⟩); subst hpv))
    have hbase : (w.alloc (.cells (madeCells #[.int .i64 0] (σ.length / 8)) 3)).heap.size = w.heap.size + 1 := by simp
    have HR1 := hid (show RowI w1 (w.heap.size + 1) (.slice pA (idxs (occ σ)).length pc) (idxs (occ σ)) from hbase ▸ HR.out)
    have HF1 := hid (HF0.out.trans HF.out)
    have HD1 := hid (show Has w1 w.heap.size (ints' (cntF (σ.length / 8) ((idxs (occ σ)).take 0))) 3 by
      have := HD.out.fr' HF.out id
      simpa [cntF, ints'] using this)
    have HcL := hid (show cntL σ = cntF (σ.length / 8) (idxs (occ σ)) from rfl)
    have HrE := hid (show rowE σ counts = if mayB σ.length = false then 19 else if cntL σ ≠ counts then 20 else if 7 < maxL (cntL σ) then 22 else if 32 < σ.length ∧ minL (cntL σ) < 1 then 21 else 0 from rfl)
    clear hbase HR HF0 HF HD HH1 hmk
    generalize idxs (occ σ) = L at *
    generalize cntL σ = cl at *
    obtain ⟨m, hm⟩ : ∃ m, σ.length / 8 = m := ⟨_, rfl⟩
    rw [hm] at HD1 HcL ⊢
    have hm4 : 4 ≤ m := by omega
    have hm5 : m ≤ 512 := by omega
    have hm8 : σ.length = 8 * m := by have := HMul.out; omega
    have HM8' := hid hm8
    clear hm8
    have HM8 := hid hm
    clear hm
    go_loopw [7, 23] (fun x i wr => ∃ j : Nat, j ≤ L.length ∧ i = .int .i64 j ∧ Hid (Has wr w.heap.size (ints' (cntF m (L.take j))) 3 ∧ RowI wr (w.heap.size + 1) (.slice pA L.length pc) L ∧ Fr Nil1 w wr)) (fun _ i _ => L.length - (intOf i).toNat)
    case atStart => exact ⟨0, by omega, rfl, hid ⟨HD1.out, HR1.out, HF1.out⟩⟩
    case round =>
      clear HD1 HR1 HF1
      obtain ⟨j, hj, rfl, HW⟩ := hrel
      have hcl := cntF_length m (L.take j)
      by_cases hlt : j < L.length
      · obtain ⟨A, c, e, _, hA⟩ := HW.out.2.1.rd (by omega)
        rw [ints'_length] at e hA
        obtain ⟨ad, rfl, hc⟩ := hA (by omega)
        obtain ⟨e1, _⟩ : pA = some ad ∧ pc = c := by injection e with e1 e2 e3; exact ⟨e1, e3⟩
        subst e1
        have c0 := hc j _ (ints'_get L j hlt)
        obtain ⟨r0, r1⟩ := HIR.out j hlt
        have HSn := hid (cntF_snoc m L j hlt)
        generalize L.getD j 0 = x at *
        have hx8 : x / 8 < m := by have := HM8'.out; omega
        have hx0 : 0 ≤ x / 8 := by omega
        have d0 := HW.out.1.cell (x / 8).toNat
        rw [ints'_get _ _ (by omega)] at d0
        have df := HW.out.1.frozen
        obtain ⟨b0, b1⟩ := cntF_bound m (L.take j) (x / 8).toNat
        have hlt3 : (L.take j).length ≤ 65536 := by rw [List.length_take]; omega
        have HCL := hid hcl
        have HNG := hid (show NG ≤ w.heap.size from HG.out)
        have HUP := hid (show bump (cntF m (L.take j)) x = (cntF m (L.take j)).set (x / 8).toNat ((cntF m (L.take j)).getD (x / 8).toNat 0 + 1) from rfl)
        have HSet := hid (HW.out.1.set (x / 8).toNat (.int .i64 ((cntF m (L.take j)).getD (x / 8).toNat 0 + 1)))
        clear hc e hcl
        generalize hy : (cntF m (L.take j)).getD (x / 8).toNat 0 = y at *
        have HY := hid hy
        clear hy
        go_wp2_with fail
        refine ⟨⟨j + 1, by omega, by go_num, ?_⟩, by simp [intOf]; omega⟩
        refine hid ⟨?_, ?_, ?_⟩
        · rw [HSn.out, HUP.out, ← ints'_set]
          exact HSet.out
        · exact HW.out.2.1.fr ((Fr.refl (fun k => k = w.heap.size) wr).setCell ⟨w.heap.size, (x / 8).toNat, none⟩ (.int .i64 (y + 1)) HNG.out (fun _ => rfl)) (fun k hk e => by omega)
        · exact HW.out.2.2.setNew ⟨w.heap.size, (x / 8).toNat, none⟩ (.int .i64 (y + 1)) HNG.out (Nat.le_refl _)
      · have hjl : j = L.length := by omega
        have hTk := hid (show L.take j = L by rw [hjl, List.take_length])
        have HW2 := hid (show Has wr w.heap.size (ints' cl) 3 by have := HW.out.1; rw [hTk.out, ← HcL.out] at this; exact this)
        have hclm : cl.length = m := by rw [HcL.out]; exact cntF_length _ _
        have HCLM := hid hclm
        have HRd := hid (show Rd wr (.slice (some ⟨w.heap.size, 0, none⟩) m m) (ints' cl) by
          have := HW2.out.rd (by omega)
          rw [hclm] at this
          exact this)
        have HV1 := hid (HV.out.new HW.out.2.2)
        have HFw := hid HW.out.2.2
        have HS1 := hid (HH.out.new HW.out.2.2)
        clear hcl hjl hTk hclm HW HW2
        by_cases hc : cl = counts
        · have hce := hid hc
          have HEq := hid (show Calls Tryd.prog 33 #[.slice (some ⟨w.heap.size, 0, none⟩) m m, v] wr fun e w' => e = .returned (.bool true) ∧ Fr Nil1 wr w' by
            have := slicesEqual_any cl counts _ _ wr HRd.out HV1.out
            rwa [decide_eq_true hc] at this)
          clear hc
          by_cases hmx : 7 < maxL cl
          · have hre := hid (show rowE σ counts = 22 by rw [HrE.out, if_neg (by rw [HMm.out]; simp), if_neg (fun h => h hce.out), if_pos hmx])
            have HMax := hid (fun w' (h : Rd w' (.slice (some ⟨w.heap.size, 0, none⟩) m m) (ints' cl)) => slicesMax_any cl _ w' h (by have := HCLM.out; omega))
            generalize maxL cl = mx at *
            go_wp2_with (first | (go_at_call 33; refine HEq.out.mono ?_; rintro e w2 ⟨rfl, hF2⟩; have HF2 := hid hF2; clear hF2) | (go_at_call 34; refine (HMax.out _ (HRd.out.new HF2.out)).mono ?_; rintro e w3 ⟨rfl, rfl⟩))
            go_ret
            rw [hre.out]
            exact ⟨rfl, HFw.out.trans HF2.out⟩
          · by_cases hmn : 32 < σ.length ∧ minL cl < 1
            · have hre := hid (show rowE σ counts = 21 by rw [HrE.out, if_neg (by rw [HMm.out]; simp), if_neg (fun h => h hce.out), if_neg hmx, if_pos hmn])
              have HMax := hid (fun w' (h : Rd w' (.slice (some ⟨w.heap.size, 0, none⟩) m m) (ints' cl)) => slicesMax_any cl _ w' h (by have := HCLM.out; omega))
              have HMin := hid (fun w' (h : Rd w' (.slice (some ⟨w.heap.size, 0, none⟩) m m) (ints' cl)) => slicesMin_any cl _ w' h (by have := HCLM.out; omega))
              obtain ⟨hm1, hm2⟩ := hmn
              have hm1' : (32 : Int) < σ.length := by omega
              generalize maxL cl = mx at *
              generalize minL cl = mn at *
              go_wp2_with (first | (go_at_call 33; refine HEq.out.mono ?_; rintro e w2 ⟨rfl, hF2⟩; have HF2 := hid hF2; clear hF2) | (go_at_call 34; refine (HMax.out _ (HRd.out.new HF2.out)).mono ?_; rintro e w3 ⟨rfl, rfl⟩) | (go_at_call 35; refine (HMin.out _ (HRd.out.new HF2.out)).mono ?_; rintro e w3 ⟨rfl, rfl⟩) | (go_at_call 28; refine (gapsCap_any (HS1.out.new HF2.out)).mono ?_; rintro e w1 ⟨rfl, rfl⟩))
              go_ret
              rw [hre.out]
              exact ⟨rfl, HFw.out.trans HF2.out⟩
            · have hre := hid (show rowE σ counts = 0 by rw [HrE.out, if_neg (by rw [HMm.out]; simp), if_neg (fun h => h hce.out), if_neg hmx, if_neg hmn])
              have HMax := hid (fun w' (h : Rd w' (.slice (some ⟨w.heap.size, 0, none⟩) m m) (ints' cl)) => slicesMax_any cl _ w' h (by have := HCLM.out; omega))
              have HMin := hid (fun w' (h : Rd w' (.slice (some ⟨w.heap.size, 0, none⟩) m m) (ints' cl)) => slicesMin_any cl _ w' h (by have := HCLM.out; omega))
              generalize maxL cl = mx at *
              generalize minL cl = mn at *
              by_cases hm1 : 32 < σ.length
              · have hm1' : (32 : Int) < σ.length := by omega
                have hm2 : ¬ mn < 1 := fun h => hmn ⟨hm1, h⟩
                clear hmn
                go_wp2_with (first | (go_at_call 33; refine HEq.out.mono ?_; rintro e w2 ⟨rfl, hF2⟩; have HF2 := hid hF2; clear hF2) | (go_at_call 34; refine (HMax.out _ (HRd.out.new HF2.out)).mono ?_; rintro e w3 ⟨rfl, rfl⟩) | (go_at_call 35; refine (HMin.out _ (HRd.out.new HF2.out)).mono ?_; rintro e w3 ⟨rfl, rfl⟩) | (go_at_call 28; refine (gapsCap_any (HS1.out.new HF2.out)).mono ?_; rintro e w1 ⟨rfl, rfl⟩))
                go_ret
                rw [hre.out]
                exact ⟨rfl, HFw.out.trans HF2.out⟩
              · clear hmn
                go_wp2_with (first | (go_at_call 33; refine HEq.out.mono ?_; rintro e w2 ⟨rfl, hF2⟩; have HF2 := hid hF2; clear hF2) | (go_at_call 34; refine (HMax.out _ (HRd.out.new HF2.out)).mono ?_; rintro e w3 ⟨rfl, rfl⟩) | (go_at_call 35; refine (HMin.out _ (HRd.out.new HF2.out)).mono ?_; rintro e w3 ⟨rfl, rfl⟩) | (go_at_call 28; refine (gapsCap_any (HS1.out.new HF2.out)).mono ?_; rintro e w1 ⟨rfl, rfl⟩))
                go_ret
                rw [hre.out]
                exact ⟨rfl, HFw.out.trans HF2.out⟩
        · have HEq := hid (show Calls Tryd.prog 33 #[.slice (some ⟨w.heap.size, 0, none⟩) m m, v] wr fun e w' => e = .returned (.bool false) ∧ Fr Nil1 wr w' by
            have := slicesEqual_any cl counts _ _ wr HRd.out HV1.out
            rwa [decide_eq_false hc] at this)
          have hre := hid (show rowE σ counts = 20 by rw [HrE.out, if_neg (by rw [HMm.out]; simp), if_pos hc])
          clear hc
          go_wp2_with (first | (go_at_call 33; refine HEq.out.mono ?_; rintro e w2 ⟨rfl, hF2⟩; have HF2 := hid hF2; clear hF2))
          go_ret
          rw [hre.out]
          exact ⟨rfl, HFw.out.trans HF2.out⟩
end Go.Proofs.YtonoaklajnfmiaaDoor
