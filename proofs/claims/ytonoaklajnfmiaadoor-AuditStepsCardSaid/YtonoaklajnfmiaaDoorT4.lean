/- audit.Even, and the document's. -/
import Derived.Test.YtonoaklajnfmiaaDoorT1
import Derived.Test.YtonoaklajnfmiaaDoorS3
import Derived.Test.YtonoaklajnfmiaaDoorS4
import Derived.Test.YtonoaklajnfmiaaDoorC2
import Derived.Test.YtonoaklajnfmiaaDoorG1
import Derived.Test.YtonoaklajnfmiaaDoorG2
set_option linter.unusedVariables false
set_option linter.unusedSimpArgs false
namespace Go.Proofs.YtonoaklajnfmiaaDoor
open Go.RowKit

/-- Is a window none? -/
def evBad (n f s : Int) : Prop := s < 1 ∨ 512 < s ∨ f < 0 ∨ 512 - s < f ∨ n < 8 * (f + s)
instance (n f s : Int) : Decidable (evBad n f s) := by unfold evBad; infer_instance
/-- The occupied ones of a window, the even ones of it. -/
def evHave (σ : List (Option Int)) (f s : Int) : List Int := inTo σ (8 * f.toNat) (8 * s.toNat)
def evWant (σ : List (Option Int)) (f s : Int) : List Int := plcL (evHave σ f s).length f.toNat s.toNat
/-- Is a step's window spread evenly? -/
def evB (σ : List (Option Int)) (k f s : Int) : Bool := if k = 0 then true else if evBad σ.length f s then false else decide (evHave σ f s = evWant σ f s)
def evE (σ : List (Option Int)) (k f s : Int) : Int := if k = 0 then 0 else if evBad σ.length f s then 10 else 0
theorem evHave_length (σ : List (Option Int)) (f s : Int) : (evHave σ f s).length ≤ 8 * s.toNat := inTo_length _ _ _
theorem evWant_length (σ : List (Option Int)) (f s : Int) (hs : 1 ≤ s) : (evWant σ f s).length = (evHave σ f s).length := plcL_length _ _ _ (by omega)

theorem even_nil (x : Value) (k f s c : Int) (w : World) (hx : x = .agg #[.int .i64 k, .int .i64 f, .int .i64 s, .int .i64 c]) :
    Calls Tryd.prog 17 #[.pointer none, x] w fun e w' => e = .returned (.tuple #[.bool false, .int .i64 2]) ∧ Fr Nil1 w w' := by
  subst hx
  have HF := hid (show Fr Nil1 w (w.alloc (.cells #[.int .i64 k, .int .i64 f, .int .i64 s, .int .i64 c] 45)) from (Fr.refl _ _).alloc _)
  go_enter Tryd.func17, Tryd.ntmps17
  go_wp2_with fail
  go_ret2
  exact ⟨rfl, HF.out⟩

theorem even_arg (b : Nat) (k f s c : Int) (w : World) (hk : kindB k = false) :
    Calls Tryd.prog 17 #[.pointer (some ⟨b, 0, none⟩), .agg #[.int .i64 k, .int .i64 f, .int .i64 s, .int .i64 c]] w fun e w' => e = .returned (.tuple #[.bool false, .int .i64 1]) ∧ Fr Nil1 w w' := by
  have HF := hid (show Fr Nil1 w (w.alloc (.cells #[.int .i64 k, .int .i64 f, .int .i64 s, .int .i64 c] 45)) from (Fr.refl _ _).alloc _)
  have HK := hid (fun w => hk ▸ auditKind_any k f s c w)
  clear hk
  go_enter Tryd.func17, Tryd.ntmps17
  go_wp2_with (first | (go_at_call 39; refine (HK.out _).mono ?_; rintro e w1 ⟨rfl, hF⟩; have HF1 := hid (HF.out.trans hF); clear hF))
  go_ret2
  exact ⟨rfl, HF1.out⟩

theorem ev_bad {σ : List (Option Int)} {k f s : Int} (hk : ¬ k = 0) (h : evBad σ.length f s) : evB σ k f s = false ∧ evE σ k f s = 10 := by unfold evB evE; rw [if_neg hk, if_neg hk, if_pos h, if_pos h]; exact ⟨rfl, rfl⟩
theorem ev_good {σ : List (Option Int)} {k f s : Int} (hk : ¬ k = 0) (h : ¬ evBad σ.length f s) : evB σ k f s = decide (evHave σ f s = evWant σ f s) ∧ evE σ k f s = 0 := by unfold evB evE; rw [if_neg hk, if_neg hk, if_neg h, if_neg h]; exact ⟨rfl, rfl⟩
/-- No occupied slot: nothing comes. -/
theorem inTo_none (σ : List (Option Int)) (a k : Nat) : ∀ d, (∀ j, a + k ≤ j → j < a + k + d → onOf σ j = false) → inTo σ a (k + d) = inTo σ a k
  | 0, _ => rfl
  | d + 1, h => by
    show inTo σ a (k + d) ++ (if onOf σ (a + (k + d)) then [((a + (k + d) : Nat) : Int)] else []) = _
    rw [inTo_none σ a k d (fun j h1 h2 => h j h1 (by omega)), h (a + (k + d)) (by omega) (by omega)]
    simp

set_option maxHeartbeats 4000000 in
theorem even_any {p : SF} {σ : List (Option Int)} {w : World} (h1 : SlotsR w p σ) (k f s c : Int) (hk : kindB k = true) (hf1 : -9223372036854775808 ≤ f) (hf2 : f ≤ 9223372036854775807) (hs1 : -9223372036854775808 ≤ s) (hs2 : s ≤ 9223372036854775807) :
    Calls Tryd.prog 17 #[.pointer (some ⟨p.s, 0, none⟩), .agg #[.int .i64 k, .int .i64 f, .int .i64 s, .int .i64 c]] w fun e w' => e = .returned (.tuple #[.bool (evB σ k f s), .int .i64 (evE σ k f s)]) ∧ Fr Nil1 w w' := by
  obtain ⟨i0, hi, hz0, hz1, hz2⟩ := info_parts info_int
  have f0 : Fr Nil1 w (w.alloc (.cells #[.int .i64 k, .int .i64 f, .int .i64 s, .int .i64 c] 45)) := (Fr.refl _ _).alloc _
  have HF := hid f0
  have HBX := hid (Has.new w [.int .i64 k, .int .i64 f, .int .i64 s, .int .i64 c] 45)
  have H1 := hid (h1.new f0)
  have HK := hid (fun w => hk ▸ auditKind_any k f s c w)
  have HG := hid h1.g.size
  have HN := hid h1.bits.n2
  clear h1 hk f0
  by_cases hk0 : k = 0
  · have HV := hid (show evB σ k f s = true ∧ evE σ k f s = 0 by unfold evB evE; rw [if_pos hk0, if_pos hk0]; exact ⟨rfl, rfl⟩)
    have hkb : (k == 0) = true := by rw [beq_iff_eq]; exact hk0
    clear hk0
    go_enter Tryd.func17, Tryd.ntmps17
    go_wp2_with (first | (go_at_call 39; refine (HK.out _).mono ?_; rintro e w1 ⟨rfl, hF⟩; have HF1 := hid hF; have a0 : w1.cell? ⟨w.heap.size, 0, none⟩ = some (.int .i64 k) := (HBX.out.fr' hF id).cell 0; have a1 : w1.cell? ⟨w.heap.size, 1, none⟩ = some (.int .i64 f) := (HBX.out.fr' hF id).cell 1; have a2 : w1.cell? ⟨w.heap.size, 2, none⟩ = some (.int .i64 s) := (HBX.out.fr' hF id).cell 2; clear hF))
    go_ret2
    rw [HV.out.1, HV.out.2]
    exact ⟨rfl, HF.out.trans HF1.out⟩
  · have hkb : (k == 0) = false := by rw [beq_eq_false_iff_ne]; exact hk0
    by_cases c0 : s < 1
    · have HV := hid (ev_bad hk0 (show evBad σ.length f s by unfold evBad; omega))
      have d0 : decide (s < 1) = true := decide_eq_true c0
      clear hk0
      go_enter Tryd.func17, Tryd.ntmps17
      go_wp2_with (first | (go_at_call 39; refine (HK.out _).mono ?_; rintro e w1 ⟨rfl, hF⟩; have HF1 := hid hF; have a0 : w1.cell? ⟨w.heap.size, 0, none⟩ = some (.int .i64 k) := (HBX.out.fr' hF id).cell 0; have a1 : w1.cell? ⟨w.heap.size, 1, none⟩ = some (.int .i64 f) := (HBX.out.fr' hF id).cell 1; have a2 : w1.cell? ⟨w.heap.size, 2, none⟩ = some (.int .i64 s) := (HBX.out.fr' hF id).cell 2; clear hF))
      go_quiet ((go_at_call 28; with_reducible exact quiet_eq (gapsCap_any (H1.out.new (HF1.out.drewN _)))))
      go_wp2_with fail
      go_ret2
      rw [HV.out.1, HV.out.2]
      exact ⟨rfl, HF.out.trans (HF1.out.drewN _)⟩
    · skip
      by_cases c1 : 512 < s
      · have HV := hid (ev_bad hk0 (show evBad σ.length f s by unfold evBad; omega))
        have d1 : decide (512 < s) = true := decide_eq_true c1
        have d0 : decide (s < 1) = false := decide_eq_false c0
        clear hk0
        go_enter Tryd.func17, Tryd.ntmps17
        go_wp2_with (first | (go_at_call 39; refine (HK.out _).mono ?_; rintro e w1 ⟨rfl, hF⟩; have HF1 := hid hF; have a0 : w1.cell? ⟨w.heap.size, 0, none⟩ = some (.int .i64 k) := (HBX.out.fr' hF id).cell 0; have a1 : w1.cell? ⟨w.heap.size, 1, none⟩ = some (.int .i64 f) := (HBX.out.fr' hF id).cell 1; have a2 : w1.cell? ⟨w.heap.size, 2, none⟩ = some (.int .i64 s) := (HBX.out.fr' hF id).cell 2; clear hF))
        go_quiet ((go_at_call 28; with_reducible exact quiet_eq (gapsCap_any (H1.out.new (HF1.out.drewN _)))))
        go_wp2_with fail
        go_ret2
        rw [HV.out.1, HV.out.2]
        exact ⟨rfl, HF.out.trans (HF1.out.drewN _)⟩
      · skip
        by_cases c2 : f < 0
        · have HV := hid (ev_bad hk0 (show evBad σ.length f s by unfold evBad; omega))
          have d2 : decide (f < 0) = true := decide_eq_true c2
          have d0 : decide (s < 1) = false := decide_eq_false c0
          have d1 : decide (512 < s) = false := decide_eq_false c1
          clear hk0
          go_enter Tryd.func17, Tryd.ntmps17
          go_wp2_with (first | (go_at_call 39; refine (HK.out _).mono ?_; rintro e w1 ⟨rfl, hF⟩; have HF1 := hid hF; have a0 : w1.cell? ⟨w.heap.size, 0, none⟩ = some (.int .i64 k) := (HBX.out.fr' hF id).cell 0; have a1 : w1.cell? ⟨w.heap.size, 1, none⟩ = some (.int .i64 f) := (HBX.out.fr' hF id).cell 1; have a2 : w1.cell? ⟨w.heap.size, 2, none⟩ = some (.int .i64 s) := (HBX.out.fr' hF id).cell 2; clear hF))
          go_quiet ((go_at_call 28; with_reducible exact quiet_eq (gapsCap_any (H1.out.new (HF1.out.drewN _)))))
          go_wp2_with fail
          go_ret2
          rw [HV.out.1, HV.out.2]
          exact ⟨rfl, HF.out.trans (HF1.out.drewN _)⟩
        · skip
          by_cases c3 : 512 - s < f
          · have HV := hid (ev_bad hk0 (show evBad σ.length f s by unfold evBad; omega))
            have d3 : decide (512 - s < f) = true := decide_eq_true c3
            have d0 : decide (s < 1) = false := decide_eq_false c0
            have d1 : decide (512 < s) = false := decide_eq_false c1
            have d2 : decide (f < 0) = false := decide_eq_false c2
            have q1 : IntKind.i64.wrap (512 - s) = 512 - s := IntWalk.i64_in _ (by omega)
            clear hk0
            go_enter Tryd.func17, Tryd.ntmps17
            go_wp2_with (first | (go_at_call 39; refine (HK.out _).mono ?_; rintro e w1 ⟨rfl, hF⟩; have HF1 := hid hF; have a0 : w1.cell? ⟨w.heap.size, 0, none⟩ = some (.int .i64 k) := (HBX.out.fr' hF id).cell 0; have a1 : w1.cell? ⟨w.heap.size, 1, none⟩ = some (.int .i64 f) := (HBX.out.fr' hF id).cell 1; have a2 : w1.cell? ⟨w.heap.size, 2, none⟩ = some (.int .i64 s) := (HBX.out.fr' hF id).cell 2; clear hF))
            go_quiet ((go_at_call 28; with_reducible exact quiet_eq (gapsCap_any (H1.out.new (HF1.out.drewN _)))))
            go_wp2_with fail
            go_ret2
            rw [HV.out.1, HV.out.2]
            exact ⟨rfl, HF.out.trans (HF1.out.drewN _)⟩
          · skip
            by_cases c4 : (σ.length : Int) < 8 * (f + s)
            · have HV := hid (ev_bad hk0 (show evBad σ.length f s by unfold evBad; omega))
              have d4 : decide ((σ.length : Int) < 8 * (f + s)) = true := decide_eq_true c4
              have d0 : decide (s < 1) = false := decide_eq_false c0
              have d1 : decide (512 < s) = false := decide_eq_false c1
              have d2 : decide (f < 0) = false := decide_eq_false c2
              have d3 : decide (512 - s < f) = false := decide_eq_false c3
              have q1 : IntKind.i64.wrap (512 - s) = 512 - s := IntWalk.i64_in _ (by omega)
              have q2 : IntKind.i64.wrap (f + s) = f + s := IntWalk.i64_in _ (by omega)
              have q3 : IntKind.i64.wrap (8 * (f + s)) = 8 * (f + s) := IntWalk.i64_in _ (by omega)
              clear hk0
              go_enter Tryd.func17, Tryd.ntmps17
              go_wp2_with (first | (go_at_call 39; refine (HK.out _).mono ?_; rintro e w1 ⟨rfl, hF⟩; have HF1 := hid hF; have a0 : w1.cell? ⟨w.heap.size, 0, none⟩ = some (.int .i64 k) := (HBX.out.fr' hF id).cell 0; have a1 : w1.cell? ⟨w.heap.size, 1, none⟩ = some (.int .i64 f) := (HBX.out.fr' hF id).cell 1; have a2 : w1.cell? ⟨w.heap.size, 2, none⟩ = some (.int .i64 s) := (HBX.out.fr' hF id).cell 2; clear hF))
              go_quiet ((go_at_call 28; with_reducible exact quiet_eq (gapsCap_any (H1.out.new (HF1.out.drewN _)))))
              go_wp2_with fail
              go_ret2
              rw [HV.out.1, HV.out.2]
              exact ⟨rfl, HF.out.trans (HF1.out.drewN _)⟩
            · skip
              have HV := hid (ev_good hk0 (show ¬ evBad σ.length f s by unfold evBad; omega))
              have d0 : decide (s < 1) = false := decide_eq_false c0
              have d1 : decide (512 < s) = false := decide_eq_false c1
              have d2 : decide (f < 0) = false := decide_eq_false c2
              have d3 : decide (512 - s < f) = false := decide_eq_false c3
              have d4 : decide ((σ.length : Int) < 8 * (f + s)) = false := decide_eq_false c4
              have q1 : IntKind.i64.wrap (512 - s) = 512 - s := IntWalk.i64_in _ (by omega)
              have q2 : IntKind.i64.wrap (f + s) = f + s := IntWalk.i64_in _ (by omega)
              have q3 : IntKind.i64.wrap (8 * (f + s)) = 8 * (f + s) := IntWalk.i64_in _ (by omega)
              clear hk0
              go_enter Tryd.func17, Tryd.ntmps17
              go_wp2_with (first | (go_at_call 39; refine (HK.out _).mono ?_; rintro e w1 ⟨rfl, hF⟩; have HF1 := hid hF; have a0 : w1.cell? ⟨w.heap.size, 0, none⟩ = some (.int .i64 k) := (HBX.out.fr' hF id).cell 0; have a1 : w1.cell? ⟨w.heap.size, 1, none⟩ = some (.int .i64 f) := (HBX.out.fr' hF id).cell 1; have a2 : w1.cell? ⟨w.heap.size, 2, none⟩ = some (.int .i64 s) := (HBX.out.fr' hF id).cell 2; clear hF))
              go_quiet ((go_at_call 28; with_reducible exact quiet_eq (gapsCap_any (H1.out.new (HF1.out.drewN _)))))
              obtain ⟨w2, hw2⟩ : ∃ w2, w1.drewN nq = w2 := ⟨_, rfl⟩
              have HF2 := hid (show Fr Nil1 (w.alloc (.cells #[.int .i64 k, .int .i64 f, .int .i64 s, .int .i64 c] 45)) w2 from hw2 ▸ HF1.out.drewN _)
              rw [hw2]
              replace a0 : w2.cell? ⟨w.heap.size, 0, none⟩ = some (.int .i64 k) := (HBX.out.fr' HF2.out id).cell 0
              replace a1 : w2.cell? ⟨w.heap.size, 1, none⟩ = some (.int .i64 f) := (HBX.out.fr' HF2.out id).cell 1
              replace a2 : w2.cell? ⟨w.heap.size, 2, none⟩ = some (.int .i64 s) := (HBX.out.fr' HF2.out id).cell 2
              have HS2 := hid (H1.out.new HF2.out)
              have f0 : 0 ≤ 8 * f := by omega
              have q4 : IntKind.i64.wrap (8 * f) = 8 * f := IntWalk.i64_in _ (by omega)
              have q5 : IntKind.i64.wrap (8 * s) = 8 * s := IntWalk.i64_in _ (by omega)
              have q6 : IntKind.i64.wrap (8 * f + 8 * s) = 8 * f + 8 * s := IntWalk.i64_in _ (by omega)
              clear hw2 HF1
              clear d0 d1 d2 d3 d4
              go_wp2_with (first | (go_at_call 43; refine (gapsNext_any HS2.out _ (by omega)).mono ?_; rintro e w3 ⟨rfl, rfl⟩))
              go_loopw [6, 8] (fun v x wr => ∃ a : Nat, 8 * f ≤ a ∧ a ≤ 8 * f + 8 * s ∧ x = .int .i64 (nxt (onOf σ) σ.length a) ∧ Hid (RowI wr w2.heap.size v (inTo σ (8 * f.toNat) (a - 8 * f.toNat)) ∧ Fr Nil1 w2 wr)) (fun _ x _ => leftOf σ.length x)
              case atStart => exact ⟨8 * f.toNat, by omega, by omega, by rw [show ((8 * f.toNat : Nat) : Int) = 8 * f by omega], hid ⟨by rw [Nat.sub_self]; exact RowI.nil _ _, Fr.refl _ _⟩⟩
              case round =>
                obtain ⟨a, ha1, ha2, rfl, HR⟩ := hrel
                have HBR := hid (HBX.out.fr' (HF2.out.trans HR.out.2) id)
                have b1 : wr.cell? ⟨w.heap.size, 1, none⟩ = some (.int .i64 f) := HBR.out.cell 1
                have b2 : wr.cell? ⟨w.heap.size, 2, none⟩ = some (.int .i64 s) := HBR.out.cell 2
                have hws : w2.heap.size ≤ wr.heap.size := HR.out.2.size
                have HSr := hid (HS2.out.new HR.out.2)
                have hlen := inTo_length σ (8 * f.toNat) (a - 8 * f.toNat)
                -- behind the loop
                have FIN := hid (show inTo σ (8 * f.toNat) (a - 8 * f.toNat) = evHave σ f s → ∀ v, RowI wr w2.heap.size v (inTo σ (8 * f.toNat) (a - 8 * f.toNat)) → RowI wr w2.heap.size v (evHave σ f s) from fun e v h => e ▸ h)
                have hhl := evHave_length σ f s
                have hF : f = (f.toNat : Int) := by omega
                have hS : s = (s.toNat : Int) := by omega
                have HPl := hid (fun w' (h : Fr Nil1 w2 w') => spPlacesL_any (evHave σ f s).length f.toNat s.toNat (by omega) (by omega) hhl (by omega) w' (by have := HG.out; have := HF.out.size; have := HF2.out.size; have := h.size; omega))
                rw [← hF, ← hS] at HPl
                have HWL := hid (evWant_length σ f s (by omega))
                have HWE := hid (show plcL (evHave σ f s).length f.toNat s.toNat = evWant σ f s from rfl)
                have HRd := hid (fun v (h : RowI wr w2.heap.size v (evHave σ f s)) => h.rd (by omega))
                have hst : ∀ r : Nat, a ≤ r → (∀ j, a ≤ j → j < r → onOf σ j = false) → inTo σ (8 * f.toNat) (r - 8 * f.toNat) = inTo σ (8 * f.toNat) (a - 8 * f.toNat) := by
                  intro r hr hno
                  have e := inTo_none σ (8 * f.toNat) (a - 8 * f.toNat) (r - a) (fun j h1 h2 => hno j (by omega) (by omega))
                  rwa [show a - 8 * f.toNat + (r - a) = r - 8 * f.toNat by omega] at e
                have HST := hid hst
                clear hst hF hS
                rcases nxt_cases (onOf σ) σ.length (a : Int) with ⟨hn, hno⟩ | ⟨r, hn, g1, g2, g3, g4⟩
                · have HE := hid (show inTo σ (8 * f.toNat) (a - 8 * f.toNat) = evHave σ f s by
                    have e := HST.out (8 * f.toNat + 8 * s.toNat) (by omega) (fun j h1 h2 => hno j (by omega) (by omega))
                    rw [← e, show 8 * f.toNat + 8 * s.toNat - 8 * f.toNat = 8 * s.toNat by omega]
                    rfl)
                  have HV1 := hid (FIN.out HE.out _ HR.out.1)
                  have HRd1 := hid (HRd.out _ HV1.out)
                  rw [hn]
                  clear hn hno FIN HRd
                  generalize evHave σ f s = xs at *
                  obtain ⟨A, cc, e1, _, _⟩ := HRd1.out
                  rw [ints'_length] at e1
                  subst e1
                  go_wp2_with (first | (go_at_call 44; refine (HPl.out _ HR.out.2).mono ?_; rintro e w3 ⟨v3, rfl, hR3, hF3⟩; rw [HWE.out] at hR3; have HR3 := hid (hR3.rd (by have := HWL.out; omega)); have HF3 := hid hF3; clear hR3 hF3) | (go_at_call 33; refine (slicesEqual_any _ _ _ _ _ (HRd1.out.new HF3.out) HR3.out).mono ?_; rintro e w4 ⟨rfl, hF4⟩; have HF4 := hid (((HF2.out.trans HR.out.2).trans HF3.out).trans hF4); clear hF4))
                  go_ret2
                  rw [HV.out.1, HV.out.2]
                  exact ⟨rfl, HF.out.trans HF4.out⟩
                · by_cases hr : r < 8 * f.toNat + 8 * s.toNat
                  · have HEr := hid (HST.out r (by omega) (fun j h1 h2 => g4 j (by omega) h2))
                    have HE1 := hid (show inTo σ (8 * f.toNat) (r + 1 - 8 * f.toNat) = inTo σ (8 * f.toNat) (a - 8 * f.toNat) ++ [(r : Int)] by
                      rw [show r + 1 - 8 * f.toNat = (r - 8 * f.toNat) + 1 by omega]
                      rw [show inTo σ (8 * f.toNat) (r - 8 * f.toNat + 1) = inTo σ (8 * f.toNat) (r - 8 * f.toNat) ++ if onOf σ (8 * f.toNat + (r - 8 * f.toNat)) then [((8 * f.toNat + (r - 8 * f.toNat) : Nat) : Int)] else [] from rfl]
                      rw [HEr.out, show 8 * f.toNat + (r - 8 * f.toNat) = r by omega, g3]
                      rfl)
                    have hr1 : (r : Int) < 8 * f + 8 * s := by omega
                    have hr0 : 0 ≤ (r : Int) := by omega
                    rw [hn]
                    clear hn g3 g4 FIN HRd HPl
                    go_wp2_with (first | (at_builtin; refine wpList_append_own _ rfl _ _ 30 rfl w2.heap.size 3 i0 (.int .i64 0) 1 8 Tryd.underlying30 hi hz0 hz1 hz2 rfl (by decide) _ _ _ rfl (HR.out.1.alloc _) ⟨wr.heap.size, 0, none⟩ 1 1 [.int .i64 (r : Int)] rfl rfl (cell_one_new _ _ _) (by simp [Value.oneCell']) (by unfold maxLen; omega) (by omega) (by simp; omega) ?_; intro v' w3 hown' hgrow _; have HOw := hid hown'; have HGr := hid ((HR.out.2.alloc _).grown hgrow (fun j e => by have := own_block HR.out.1 j e; have := HG.out; have := HF.out.size; have := HF2.out.size; omega) (fun j e h => by have := own_block HR.out.1 j e; omega)); clear hown' hgrow) | (go_at_call 43; refine (gapsNext_any (HS2.out.new HGr.out) _ (by omega)).mono ?_; rintro e w4 ⟨rfl, rfl⟩))
                    refine ⟨⟨r + 1, by omega, by omega, by go_num, ?_⟩, ?_⟩
                    · rw [HE1.out]
                      refine hid ⟨?_, HGr.out⟩
                      have := HOw.out
                      unfold RowI
                      rw [List.length_append, List.map_append]
                      exact this
                    · apply leftOf_lt _ _ _ g2
                      rcases nxt_cases (onOf σ) σ.length ((r : Int) + 1) with ⟨hn, _⟩ | ⟨q, hn, g1, _⟩
                      · exact .inl hn
                      · exact .inr ⟨q, hn, by omega⟩
                  · have HE := hid (show inTo σ (8 * f.toNat) (a - 8 * f.toNat) = evHave σ f s by
                      have e := HST.out (8 * f.toNat + 8 * s.toNat) (by omega) (fun j h1 h2 => g4 j (by omega) (by omega))
                      rw [← e, show 8 * f.toNat + 8 * s.toNat - 8 * f.toNat = 8 * s.toNat by omega]
                      rfl)
                    have HV1 := hid (FIN.out HE.out _ HR.out.1)
                    have HRd1 := hid (HRd.out _ HV1.out)
                    have hr1 : ¬ (r : Int) < 8 * f + 8 * s := by omega
                    rw [hn]
                    clear hn g3 g4 FIN HRd
                    generalize evHave σ f s = xs at *
                    obtain ⟨A, cc, e1, _, _⟩ := HRd1.out
                    rw [ints'_length] at e1
                    subst e1
                    go_wp2_with (first | (go_at_call 44; refine (HPl.out _ HR.out.2).mono ?_; rintro e w3 ⟨v3, rfl, hR3, hF3⟩; rw [HWE.out] at hR3; have HR3 := hid (hR3.rd (by have := HWL.out; omega)); have HF3 := hid hF3; clear hR3 hF3) | (go_at_call 33; refine (slicesEqual_any _ _ _ _ _ (HRd1.out.new HF3.out) HR3.out).mono ?_; rintro e w4 ⟨rfl, hF4⟩; have HF4 := hid (((HF2.out.trans HR.out.2).trans HF3.out).trans hF4); clear hF4))
                    go_ret2
                    rw [HV.out.1, HV.out.2]
                    exact ⟨rfl, HF.out.trans HF4.out⟩
end Go.Proofs.YtonoaklajnfmiaaDoor
