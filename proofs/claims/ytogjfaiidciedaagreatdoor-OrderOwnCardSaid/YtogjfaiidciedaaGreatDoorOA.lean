/- handle.Table: Move, Taken; order.List's pieces. -/
import Derived.Test.YtogjfaiidciedaaGreatDoorH2
import Derived.Test.YtogjfaiidciedaaGreatDoorGS
set_option linter.unusedVariables false
set_option linter.unusedSimpArgs false
namespace Go.Proofs.YtogjfaiidciedaaGreatDoor
open Go.RowKit Go.Maps

theorem ownsMap_tight {w : World} {P : Program} {k : TypeId} {R : Value → Option (DataW Unit × List MemPlace)} {b n m : Nat} {D : DataW Unit} (h : w.ownsMap P k R b n D) (hm : Maps.size D ≤ m) : w.ownsMap P k R b m D := by
  obtain ⟨es, clock, h1, h2, h3, h4⟩ := h
  refine ⟨es, clock, h1, h2, ?_, h4⟩
  subst h4
  simpa [Maps.size, length_sorted] using hm
theorem tabMove_bad {f : TF} {τ : List (Option Int)} {w : World} (h : TabR w f τ) (x s : Int) (h1 : -9223372036854775808 ≤ x) (h2 : x ≤ 9223372036854775807) (hx : liveB τ x = false) :
    Calls Tryz.prog 63 #[.pointer (some ⟨f.t, 0, none⟩), .int .i64 x, .int .i64 s] w fun e w' => e = .returned (.int .i64 17) ∧ w = w' := by
  have hs : staleE τ x = 17 := by unfold staleE; rw [if_neg (by rw [hx]; simp)]
  have HL := hid (hs ▸ tabLook_any h x h1 h2)
  clear h hx hs
  go_enter Tryz.func63, Tryz.ntmps63
  go_wp2_with (first | (go_at_call 47; refine HL.out.mono ?_; rintro e w1 ⟨rfl, rfl⟩))
  go_ret
  exact ⟨rfl, rfl⟩
set_option maxHeartbeats 1000000 in
theorem tabMove_any {f : TF} {τ : List (Option Int)} {w : World} (h : TabR w f τ) (x s : Int) (h1 : -9223372036854775808 ≤ x) (h2 : x ≤ 9223372036854775807) (hx : liveB τ x = true) (hs : mayS s = true) (hn : τ.length < 1000000000) :
    Calls Tryz.prog 63 #[.pointer (some ⟨f.t, 0, none⟩), .int .i64 x, .int .i64 s] w fun e w' => e = .returned (.int .i64 0) ∧ TabR w' f (τ.set (x.toNat - 1) (some s)) ∧ Fr f.mem w w' := by
  have hse : staleE τ x = 0 := by unfold staleE; rw [if_pos hx]
  have HL := hid (hse ▸ tabLook_any h x h1 h2)
  have HM := hid (hs ▸ handleMay_any s w)
  have hb : 0 ≤ s ∧ s < 4096 := by simpa [mayS] using hs
  have hkey : keyOf Tryz.prog 3 (.int .i64 x) = some (.int .i64 x) := keyOf_int_mk Tryz.underlying3 (WalkArith.wf_i64 (by omega))
  have hel := plainElem_int (H := Unit) (P := Tryz.prog) (e := 3) Tryz.underlying3 (a := s) (WalkArith.wf_i64 (by omega))
  obtain ⟨c0, c1, cf⟩ := h.row.two
  obtain ⟨D, hown, hD⟩ := h.map
  have HH := hid h
  have HO := hid hown
  have HV := hid (hD.move (hown.tidy lawInt) x s hx)
  have HBd := hid (TabR.live_bound x hx)
  have HB := hid hb
  have HS := hid (show Maps.size (D.put (.int .i64 x) (.lit (.int .i64 s))) ≤ τ.length by
    rw [size_put (hown.tidy lawInt), hD.has, hx, if_pos rfl]
    exact hown.size_le)
  have hne := h.ne
  have hnm : τ.length < maxLen := by unfold maxLen; omega
  clear h hs hown hD hx hse hn hb
  go_enter Tryz.func63, Tryz.ntmps63
  go_wp2_with (first | (go_at_call 47; refine HL.out.mono ?_; rintro e w1 ⟨rfl, rfl⟩) | (go_at_call 89; refine HM.out.mono ?_; rintro e w1 ⟨rfl, rfl⟩) | (at_mapUpdate; refine wpList_mapUpdate_own _ rfl _ _ _ 66 rfl 3 3 lawInt Tryz.underlying66 _ f.m τ.length D rfl HO.out hnm _ _ _ rfl rfl hkey _ [] hel ?_; intro w3 hown3 hgrow3; have HO3 := hid hown3; have HG3 := hid hgrow3; clear hown3 hgrow3) | go_in)
  go_ret
  refine ⟨rfl, ⟨HH.out.gt, HH.out.gm, ?_, ⟨_, ?_, HV.out⟩, fun y t e => ?_⟩, (Fr.refl _ _).grown HG3.out (fun k e => by cases e; exact HH.out.gm) (fun k e _ => by cases e; exact .inr rfl)⟩
  · rw [List.length_set]
    exact (HG3.out.block f.t HH.out.row.lt (fun e => hne (Option.some.inj e))).trans HH.out.row
  · rw [List.length_set]
    exact ownsMap_tight HO3.out HS.out
  · rw [slotAt_set τ x (some s) HBd.out.1 HBd.out.2] at e
    split at e
    · cases e; exact HB.out
    · exact HH.out.wf y t e
end Go.Proofs.YtogjfaiidciedaaGreatDoor
