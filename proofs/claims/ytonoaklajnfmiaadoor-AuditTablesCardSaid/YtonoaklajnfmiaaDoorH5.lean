/- audit.Table. -/
import Derived.Test.YtonoaklajnfmiaaDoorH4
import Derived.Test.YtonoaklajnfmiaaDoorB4
set_option linter.unusedVariables false
set_option linter.unusedSimpArgs false
namespace Go.Proofs.YtonoaklajnfmiaaDoor
open Go.RowKit Go.Maps

/-- Does a handle's element stand where its table says? -/
def okH (σ τ : List (Option Int)) (h : Int) : Bool := atB σ (slotV τ h) && decide (atV σ (slotV τ h) = h)
/-- How an array of handles, and their table, are wrong. -/
def tabE (σ τ : List (Option Int)) : Int := if cntOn (onOf σ) σ.length ≠ (occ τ).length then 23 else if (hnds τ).all (okH σ τ) = true then 0 else 23
theorem tabE_len {σ τ : List (Option Int)} (h : cntOn (onOf σ) σ.length ≠ (occ τ).length) : tabE σ τ = 23 := by unfold tabE; rw [if_pos h]
theorem tabE_bad {σ τ : List (Option Int)} (x : Int) (hx : liveB τ x = true) (h : okH σ τ x = false) : tabE σ τ = 23 := by
  unfold tabE
  split
  · rfl
  · rw [if_neg]
    intro c
    rw [List.all_eq_true] at c
    have := c x ((hnds_mem τ x).2 hx)
    rw [h] at this
    cases this
theorem tabE_ok {σ τ : List (Option Int)} (hl : cntOn (onOf σ) σ.length = (occ τ).length) (h : ∀ x, liveB τ x = true → okH σ τ x = true) : tabE σ τ = 0 := by
  unfold tabE
  rw [if_neg (fun c => c hl), if_pos]
  rw [List.all_eq_true]
  intro x hx
  exact h x ((hnds_mem τ x).1 hx)

theorem auditTable_nil1 (p : Option Addr) (w : World) : Calls Tryd.prog 21 #[.pointer none, .pointer p] w fun e w' => e = .returned (.int .i64 2) ∧ w = w' := by
  go_enter Tryd.func21, Tryd.ntmps21
  go_wp2_with fail
  go_ret
  exact ⟨rfl, rfl⟩
theorem auditTable_nil2 (b : Nat) (w : World) : Calls Tryd.prog 21 #[.pointer (some ⟨b, 0, none⟩), .pointer none] w fun e w' => e = .returned (.int .i64 2) ∧ w = w' := by
  go_enter Tryd.func21, Tryd.ntmps21
  go_wp2_with fail
  go_ret
  exact ⟨rfl, rfl⟩

set_option maxHeartbeats 2000000 in
theorem auditTable_any {p : SF} {σ : List (Option Int)} {f : TF} {τ : List (Option Int)} {w : World} (h1 : SlotsR w p σ) (h2 : TabR w f τ) (hn : τ.length ≤ 65536) :
    Calls Tryd.prog 21 #[.pointer (some ⟨p.s, 0, none⟩), .pointer (some ⟨f.t, 0, none⟩)] w fun e w' => e = .returned (.int .i64 (tabE σ τ)) ∧ Fr Nil1 w w' := by
  have HL := hid (gapsLen_any h1)
  have HT := hid (tabLen_any h2)
  have H1 := hid h1
  have H2 := hid h2
  have hol : (occ τ).length ≤ 65536 := Nat.le_trans (occTo_length τ _) hn
  have HA := hid (tabAll_any h2 hol h1.g.size)
  have HHl := hid (hnds_length τ)
  have HM := hid (fun x (h : x ∈ hnds τ) => (hnds_mem τ x).1 h)
  have HM2 := hid (fun x (h : liveB τ x = true) => (hnds_mem τ x).2 h)
  have HN := hid hn
  have HTL := hid (tabE_len (σ := σ) (τ := τ))
  have HTO := hid (tabE_ok (σ := σ) (τ := τ))
  have HTB := hid (fun x a b => tabE_bad (σ := σ) (τ := τ) x a b)
  obtain ⟨c, hc⟩ : ∃ c, cntOn (onOf σ) σ.length = c := ⟨_, rfl⟩
  obtain ⟨m, hm⟩ : ∃ m, (occ τ).length = m := ⟨_, rfl⟩
  rw [hc] at HL HTL HTO
  rw [hm] at HT HTL HTO HHl hol
  obtain ⟨z, hz⟩ : ∃ z, tabE σ τ = z := ⟨_, rfl⟩
  rw [hz] at HTL HTO HTB ⊢
  clear h1 h2 hn hc hm hz
  by_cases hl : c = m
  · have hb : ((c : Int) != (m : Int)) = false := by rw [bne_eq_false_iff_eq]; omega
    have HE := hid hl
    clear hl
    go_enter Tryd.func21, Tryd.ntmps21
    go_wp2_with (first | (go_at_call 46; refine HL.out.mono ?_; rintro e w1 ⟨rfl, rfl⟩) | (go_at_call 24; refine HT.out.mono ?_; rintro e w1 ⟨rfl, rfl⟩) | (go_at_call 47; refine HA.out.mono ?_; rintro e w1 ⟨v, rfl, hR, hF⟩; have HR := hid (hR.rd (by have := HHl.out; omega)); have HF := hid hF; obtain ⟨A, cc, e1, _⟩ := HR.out; rw [ints'_length, HHl.out] at e1; subst e1; clear hR hF))
    go_loop [4, 6, 7, 8, 9, 10, 25] (fun _ _ _ _ _ _ i => ∃ j : Nat, j ≤ m ∧ i = .int .i64 j ∧ Hid (∀ t, t < j → okH σ τ ((hnds τ).getD t 0) = true)) (fun _ _ _ _ _ _ i => m - (intOf i).toNat)
    case atStart => exact ⟨0, by omega, rfl, hid (fun t ht => by omega)⟩
    case round =>
      obtain ⟨j, hj, rfl, HRj⟩ := hrel
      by_cases hlt : j < m
      · have hltI : (j : Int) < m := by omega
        obtain ⟨ad, rfl, hcell⟩ : ∃ ad, A = some ad ∧ w1.cell? (ad.add j) = some (.int .i64 ((hnds τ).getD j 0)) := by
          obtain ⟨A', c', e', _, h'⟩ := HR.out
          injection e' with e1 e2 e3
          subst e1
          obtain ⟨ad, rfl, hc⟩ := h' (by rw [ints'_length, HHl.out]; omega)
          exact ⟨ad, rfl, hc j _ (ints'_get _ j (by rw [HHl.out]; omega))⟩
        have hlive : liveB τ ((hnds τ).getD j 0) = true := by
          apply HM.out
          rw [List.getD_eq_getElem?_getD, List.getElem?_eq_getElem (by rw [HHl.out]; omega)]
          exact List.getElem_mem _
        have HJ := hid (fun h : okH σ τ ((hnds τ).getD j 0) = true => fun t (ht : t < j + 1) => show okH σ τ ((hnds τ).getD t 0) = true from by
          rcases Nat.lt_or_ge t j with g | g
          · exact HRj.out t g
          · obtain rfl : t = j := by omega
            exact h)
        generalize (hnds τ).getD j 0 = x at *
        obtain ⟨x1, x2⟩ := TabR.live_bound x hlive
        have HS := hid (tabSlot_any (H2.out.new HF.out) x (by have := HN.out; omega) (by have := HN.out; omega))
        rw [show staleE τ x = 0 by unfold staleE; rw [if_pos hlive]] at HS
        have HAt := hid (gapsAt_any (H1.out.new HF.out) (slotV τ x))
        have HOK := hid (show okH σ τ x = (atB σ (slotV τ x) && decide (atV σ (slotV τ x) = x)) from rfl)
        have HB := hid (HTB.out x hlive)
        generalize slotV τ x = s at *
        generalize atV σ s = y at *
        generalize hab : atB σ s = ab at *
        clear hab hlive x1 x2
        cases ab
        · have HZ := hid (HB.out (by rw [HOK.out]; rfl))
          go_wp2_with (first | (go_at_call 25; refine HS.out.mono ?_; rintro e w2 ⟨rfl, rfl⟩) | (go_at_call 30; refine HAt.out.mono ?_; rintro e w2 ⟨rfl, rfl⟩))
          go_ret
          rw [HZ.out]
          exact ⟨rfl, HF.out⟩
        · by_cases hy : y = x
          · have hyb : (y != x) = false := by rw [bne_eq_false_iff_eq]; exact hy
            have HZ := hid (HJ.out (by rw [HOK.out, decide_eq_true hy]; rfl))
            clear hy
            go_wp2_with (first | (go_at_call 25; refine HS.out.mono ?_; rintro e w2 ⟨rfl, rfl⟩) | (go_at_call 30; refine HAt.out.mono ?_; rintro e w2 ⟨rfl, rfl⟩))
            exact ⟨⟨j + 1, by omega, by go_num, HZ⟩, by simp [intOf]; omega⟩
          · have hyb : (y != x) = true := by rw [bne_iff_ne]; exact hy
            have HZ := hid (HB.out (by rw [HOK.out, decide_eq_false hy]; rfl))
            clear hy
            go_wp2_with (first | (go_at_call 25; refine HS.out.mono ?_; rintro e w2 ⟨rfl, rfl⟩) | (go_at_call 30; refine HAt.out.mono ?_; rintro e w2 ⟨rfl, rfl⟩))
            go_ret
            rw [HZ.out]
            exact ⟨rfl, HF.out⟩
      · have HZ := hid (HTO.out HE.out (fun x hx => by
          obtain ⟨i, hi, hxe⟩ := List.getElem_of_mem (HM2.out x hx)
          have := HRj.out i (by have := HHl.out; omega)
          rwa [List.getD_eq_getElem?_getD, List.getElem?_eq_getElem hi, Option.getD_some, hxe] at this))
        have hltI : ¬ (j : Int) < m := by omega
        go_wp2_with fail
        go_ret
        rw [HZ.out]
        exact ⟨rfl, HF.out⟩
  · have hb : ((c : Int) != (m : Int)) = true := by rw [bne_iff_ne]; omega
    have HZ := hid (HTL.out hl)
    clear hl
    go_enter Tryd.func21, Tryd.ntmps21
    go_wp2_with (first | (go_at_call 46; refine HL.out.mono ?_; rintro e w1 ⟨rfl, rfl⟩) | (go_at_call 24; refine HT.out.mono ?_; rintro e w1 ⟨rfl, rfl⟩))
    go_ret
    rw [HZ.out]
    exact ⟨rfl, Fr.refl _ _⟩
end Go.Proofs.YtonoaklajnfmiaaDoor
