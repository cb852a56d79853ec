/- SetBeside, as it is called: the walk. -/
import Derived.Test.YticlkdjiaoflgaaGreatDoorSN
import Derived.Test.YticlkdjiaoflgaaGreatDoorR9
import Derived.Deep.Cut
set_option linter.unusedVariables false
set_option linter.unusedSimpArgs false
namespace Go.Proofs.YticlkdjiaoflgaaGreatDoor
open Go.RowKit

section
variable {w0 w : World} {s : Nat} {ks : List Int}
theorem SS.floorIs (H : SS w0 s ks w) {key x : Int} {b : Bool} (h : (floorK ks key).getD 0 = x ∧ (floorK ks key).isSome = b) : Calls Tryz.prog 12 #[.pointer (some ⟨s, 0, none⟩), .int .i64 key] w fun e w' => e = .returned (.tuple #[.int .i64 x, .bool b]) ∧ Fr Nil1 w w' := by
  have := H.floor key
  rwa [h.1, h.2] at this
theorem SS.ceilIs (H : SS w0 s ks w) {key x : Int} {b : Bool} (h : (ceilK ks key).getD 0 = x ∧ (ceilK ks key).isSome = b) : Calls Tryz.prog 13 #[.pointer (some ⟨s, 0, none⟩), .int .i64 key] w fun e w' => e = .returned (.tuple #[.int .i64 x, .bool b]) ∧ Fr Nil1 w w' := by
  have := H.ceil key
  rwa [h.1, h.2] at this
end
/-- How far keys are counted that are less. -/
def LessC (L k c : Nat) : Prop := (k ≤ L → c = k) ∧ (L ≤ k → c = L)
set_option maxRecDepth 100000 in
set_option maxHeartbeats 4000000 in
theorem setBeside_any (v : Value) (key : Int) (l : List AcS) (w : World) (hv : RdAs w v l) (hg : GW w) : Calls Tryz.prog 3 #[v, .int .i64 key] w fun e w' => e = .returned (.bool true) ∧ Fr Nil1 w w' := by
  have HAw := hid (fun w' (hf : Fr Nil1 w w') => awake_any w' (hg.fr hf))
  have HV := hid hv
  obtain ⟨A, c, rfl, _, _⟩ := hv
  by_cases h200 : 200 < l.length
  · have HPm := hid (played_many _ l w HV.out h200)
    have HA0 := hid (HAw.out w (Fr.refl _ _))
    have hI : (200 : Int) < (l.length : Int) := by omega
    clear HAw HV hg
    go_enter Tryz.func3, Tryz.ntmps3
    go_wp2_with (first
      | (go_at_call 10; refine HPm.out.mono ?_; rintro e w1 ⟨rfl, rfl⟩)
      | (go_at_call 11; refine HA0.out.mono ?_; rintro e w1 ⟨rfl, H1⟩))
    go_ret
    exact ⟨rfl, H1⟩
  have HPl := hid (played_any _ l w HV.out (by omega) hg)
  clear hg HV
  go_enter Tryz.func3, Tryz.ntmps3
  go_upto_region 4 with (go_at_call 10; refine HPl.out.mono ?_; rintro e w1 ⟨s, ks, rfl, H1⟩)
  have HU := hid H1.out.1.up
  by_cases hm : key ∈ ks
  · have hL := (mem_lessC HU.out).1 hm
    have HFl := hid (SS.floorIs H1.out.1 (key := key) (x := key) (b := true) (by unfold floorK; rw [if_pos hm]; exact ⟨rfl, rfl⟩))
    have HCe := hid (fun w' (hf : Fr Nil1 w1 w') => SS.ceilIs (H1.out.1.new hf) (key := key) (x := key) (b := true) (by unfold ceilK; rw [hL]; exact ⟨rfl, rfl⟩))
    have HHa := hid (fun w' (hf : Fr Nil1 w1 w') => SS.hasT (H1.out.1.new hf) hm)
    clear hm hL
    go_wp2_with (first
      | (go_at_call 11; refine (HAw.out _ (H1.out.1.fr.trans (H2.out.trans (H3.out.trans H4.out)))).mono ?_; rintro e w5 ⟨rfl, H5⟩)
      | (go_at_call 14; refine (HHa.out _ (H2.out.trans H3.out)).mono ?_; rintro e w4 ⟨rfl, h4⟩; have H4 := hid h4; clear h4)
      | (go_at_call 13; refine (HCe.out _ H2.out).mono ?_; rintro e w3 ⟨rfl, h3⟩; have H3 := hid h3; clear h3)
      | (go_at_call 12; refine HFl.out.mono ?_; rintro e w2 ⟨rfl, h2⟩; have H2 := hid h2; clear h2))
    go_ret
    exact ⟨rfl, H1.out.1.fr.trans (H2.out.trans (H3.out.trans (H4.out.trans H5)))⟩
  · obtain ⟨L, hL⟩ : ∃ L, lessC ks key = L := ⟨_, rfl⟩
    obtain ⟨n, hn⟩ : ∃ n, ks.length = n := ⟨_, rfl⟩
    have hLn : L ≤ n := by rw [← hL, ← hn]; exact lessC_le _ _
    have HLn := hid (And.intro hL hn)
    have HM := hid hm
    obtain ⟨fx, hfx⟩ : ∃ x, (floorK ks key).getD 0 = x := ⟨_, rfl⟩
    obtain ⟨fb, hfb⟩ : ∃ b, (floorK ks key).isSome = b := ⟨_, rfl⟩
    obtain ⟨cx, hcx⟩ : ∃ x, (ceilK ks key).getD 0 = x := ⟨_, rfl⟩
    obtain ⟨cb, hcb⟩ : ∃ b, (ceilK ks key).isSome = b := ⟨_, rfl⟩
    have HF : Hid ((L = 0 ∧ fx = 0 ∧ fb = false) ∨ (0 < L ∧ ks[L - 1]? = some fx ∧ fb = true)) := hid (by
      unfold floorK at hfx hfb
      rw [if_neg hm, hL] at hfx hfb
      by_cases h0 : L = 0
      · rw [if_pos h0] at hfx hfb
        exact .inl ⟨h0, hfx.symm, hfb.symm⟩
      · rw [if_neg h0] at hfx hfb
        obtain ⟨y, hy⟩ : ∃ y, ks[L - 1]? = some y := ⟨_, List.getElem?_eq_getElem (by rw [hn]; omega)⟩
        rw [hy] at hfx hfb
        exact .inr ⟨by omega, by rw [hy]; exact congrArg some hfx, hfb.symm⟩)
    have HC : Hid ((L = n ∧ cx = 0 ∧ cb = false) ∨ (L < n ∧ ks[L]? = some cx ∧ cb = true)) := hid (by
      unfold ceilK at hcx hcb
      rw [hL] at hcx hcb
      by_cases h0 : L = n
      · rw [List.getElem?_eq_none (by rw [hn]; omega)] at hcx hcb
        exact .inl ⟨h0, hcx.symm, hcb.symm⟩
      · obtain ⟨y, hy⟩ : ∃ y, ks[L]? = some y := ⟨_, List.getElem?_eq_getElem (by rw [hn]; omega)⟩
        rw [hy] at hcx hcb
        exact .inr ⟨by omega, by rw [hy]; exact congrArg some hcx, hcb.symm⟩)
    have HFl := hid (SS.floorIs H1.out.1 (key := key) ⟨hfx, hfb⟩)
    have HCe := hid (fun w' (hf : Fr Nil1 w1 w') => SS.ceilIs (H1.out.1.new hf) (key := key) ⟨hcx, hcb⟩)
    have HHa := hid (fun w' (hf : Fr Nil1 w1 w') => SS.hasF (H1.out.1.new hf) hm)
    have HKs := hid (fun w' (hf : Fr Nil1 w1 w') => SS.keys (H1.out.1.new hf))
    rw [hn] at HKs
    have hn200 : n ≤ 200 := by have := H1.out.2; omega
    clear hm hL hn hfx hfb hcx hcb
    go_upto_region 9 with (first
      | (go_at_call 15; refine (HKs.out _ (H2.out.trans (H3.out.trans H4.out))).mono ?_; rintro e w5 ⟨A5, c5, rfl, H5⟩)
      | (go_at_call 14; refine (HHa.out _ (H2.out.trans H3.out)).mono ?_; rintro e w4 ⟨rfl, h4⟩; have H4 := hid h4; clear h4)
      | (go_at_call 13; refine (HCe.out _ H2.out).mono ?_; rintro e w3 ⟨rfl, h3⟩; have H3 := hid h3; clear h3)
      | (go_at_call 12; refine HFl.out.mono ?_; rintro e w2 ⟨rfl, h2⟩; have H2 := hid h2; clear h2))
    have HG := hid (H1.out.1.fr.trans (H2.out.trans (H3.out.trans (H4.out.trans H5.out.2))))
    have HR := hid H5.out.1
    clear HFl HCe HHa HKs H2 H3 H4 H5
    go_wp2_with fail
    go_loopw [4, 12, 13] (fun _ c i wx => ∃ (k d : Nat), k ≤ n ∧ d ≤ k ∧ i = .int .i64 k ∧ c = .int .i64 d ∧ Hid (LessC L k d) ∧ w5 = wx) (fun _ _ i _ => n - (intOf i).toNat)
    case atStart => exact ⟨0, 0, by omega, by omega, rfl, rfl, hid ⟨fun _ => rfl, fun h => by omega⟩, rfl⟩
    case round =>
      obtain ⟨k, d, hk, hd, rfl, rfl, HL, rfl⟩ := hrel
      obtain ⟨A', c', e', _, hA⟩ := HR.out
      injection e' with e1 e2 e3
      subst e1
      by_cases hlt : k < n
      · have hltI : (k : Int) < n := by omega
        obtain ⟨ad, had, hc⟩ := hA (by rw [ints'_length, HLn.out.2]; omega)
        subst had
        obtain ⟨x, hx⟩ : ∃ x, ks[k]? = some x := ⟨_, List.getElem?_eq_getElem (by rw [HLn.out.2]; exact hlt)⟩
        have hcell := hc k _ (ints'_get ks k (by rw [HLn.out.2]; exact hlt))
        rw [List.getD_eq_getElem?_getD, hx, Option.getD_some] at hcell
        have hiff := lessC_iff HU.out (key := key) hx
        rw [HLn.out.1] at hiff
        have hne : (x == key) = false := beq_eq_false_iff_ne.2 (fun e => HM.out (e ▸ List.mem_of_getElem? hx))
        by_cases hkL : k < L
        · have d1 : decide (x < key) = true := decide_eq_true (hiff.2 hkL)
          have HN := hid (show LessC L (k + 1) (d + 1) from ⟨fun _ => by have := HL.out.1 (by omega); omega, fun h => by have := HL.out.1 (by omega); omega⟩)
          clear hiff hc hA hx e2 e3
          go_wp2_with fail
          exact ⟨⟨k + 1, d + 1, by omega, by omega, by go_num, by go_num, HN, trivial⟩, by simp [intOf]; omega⟩
        · have d1 : decide (x < key) = false := decide_eq_false (fun h => hkL (hiff.1 h))
          have HN := hid (show LessC L (k + 1) d from ⟨fun h => by omega, fun h => HL.out.2 (by omega)⟩)
          clear hiff hc hA hx e2 e3
          go_wp2_with fail
          exact ⟨⟨k + 1, d, by omega, by omega, by go_num, by go_num, HN, trivial⟩, by simp [intOf]; omega⟩
      · have hltI : ¬ (k : Int) < n := by omega
        obtain rfl : d = L := HL.out.2 (by omega)
        have hwalk := hid hA
        clear hA e2 e3
        have HF' := HF.out
        have HC' := HC.out
        have fin : ∀ (P : Prop), P → P := fun _ h => h
        rcases HF' with ⟨h0, rfl, rfl⟩ | ⟨h0, hf1, rfl⟩
        · have g0 : ¬ (0 : Int) < (d : Int) := by omega
          have g0' : ¬ 0 < d := by omega
          rcases HC' with ⟨h1, rfl, rfl⟩ | ⟨h1, hc1, rfl⟩
          · have g1 : ¬ (d : Int) < (n : Int) := by omega
            have g1' : ¬ d < n := by omega
            clear h0 h1 fin
            go_wp2_with (go_at_call 11; refine (HAw.out _ HG.out).mono ?_; rintro e w9 ⟨rfl, H9⟩)
            go_ret
            exact ⟨rfl, HG.out.trans H9⟩
          · have g1 : (d : Int) < (n : Int) := by omega
            obtain ⟨ad, had, hc⟩ := hwalk.out (by rw [ints'_length, HLn.out.2]; omega)
            subst had
            have hcell := hc d _ (ints'_get ks d (by rw [HLn.out.2]; exact h1))
            rw [List.getD_eq_getElem?_getD, hc1, Option.getD_some] at hcell
            clear h0 hc hc1 fin
            go_wp2_with (go_at_call 11; refine (HAw.out _ HG.out).mono ?_; rintro e w9 ⟨rfl, H9⟩)
            go_ret
            exact ⟨rfl, HG.out.trans H9⟩
        · obtain ⟨m, rfl⟩ : ∃ m, d = m + 1 := ⟨d - 1, by omega⟩
          have g0 : (0 : Int) < ((m + 1 : Nat) : Int) := by omega
          obtain ⟨ad, had, hc⟩ := hwalk.out (by rw [ints'_length, HLn.out.2]; omega)
          subst had
          obtain ⟨B0, O0, rfl⟩ : ∃ B O, ad = (⟨B, O, none⟩ : Addr) := ⟨_, _, flat_of_cell (hc 0 _ (ints'_get ks 0 (by rw [HLn.out.2]; omega)))⟩
          have hcell0 := hc m _ (ints'_get ks m (by rw [HLn.out.2]; omega))
          rw [List.getD_eq_getElem?_getD, show m = m + 1 - 1 by omega, hf1, Option.getD_some, show m + 1 - 1 = m by omega, add_flat] at hcell0
          rcases HC' with ⟨h1, rfl, rfl⟩ | ⟨h1, hc1, rfl⟩
          · have g1 : ¬ ((m + 1 : Nat) : Int) < (n : Int) := by omega
            have g1' : ¬ m + 1 < n := by omega
            clear h0 h1 hc hf1 fin
            go_wp2_with (go_at_call 11; refine (HAw.out _ HG.out).mono ?_; rintro e w9 ⟨rfl, H9⟩)
            go_ret
            exact ⟨rfl, HG.out.trans H9⟩
          · have g1 : ((m + 1 : Nat) : Int) < (n : Int) := by omega
            have g2 : (m : Int) + 1 < (n : Int) := by omega
            have g3 : (0 : Int) ≤ (m : Int) + 1 := by omega
            have hcell := hc (m + 1) _ (ints'_get ks (m + 1) (by rw [HLn.out.2]; exact h1))
            rw [List.getD_eq_getElem?_getD, hc1, Option.getD_some, add_flat] at hcell
            clear h0 hc hc1 hf1 fin
            go_wp2_with (go_at_call 11; refine (HAw.out _ HG.out).mono ?_; rintro e w9 ⟨rfl, H9⟩)
            go_ret
            exact ⟨rfl, HG.out.trans H9⟩
end Go.Proofs.YticlkdjiaoflgaaGreatDoor
