/- handle.Table: New, Live, look, Slot, Len, Take, Free. -/
import Derived.StillTailTactics
import Derived.Test.YtogjfaiidciedaaGreatDoorH1
import Derived.Test.YtogjfaiidciedaaGreatDoorGB
set_option linter.unusedVariables false
set_option linter.unusedSimpArgs false
namespace Go.Proofs.YtogjfaiidciedaaGreatDoor
open Go.RowKit Go.Maps

theorem lawInt : Keyed Tryz.prog 3 := int_keyed Tryz.underlying3
theorem zeroInt (w : World) : (zeroValue 3).run Tryz.prog w = .ok (.int .i64 0) w := by kernel_rfl
/-- Where a table lies: its row, its map. -/
structure TF where
  t : Nat
  m : Nat
/-- A table's rows read as a list of slots. -/
structure TabR (w : World) (f : TF) (τ : List (Option Int)) : Prop where
  gt : NG ≤ f.t
  gm : NG ≤ f.m
  row : Has w f.t [.map (some f.m), .int .i64 τ.length] 68
  map : ∃ D : DataW Unit, w.ownsMap Tryz.prog 3 (plainElem Tryz.prog 3) f.m τ.length D ∧ DView D τ
  wf : ∀ h s, slotAt τ h = some s → 0 ≤ s ∧ s < 4096
def TF.mem (f : TF) (k : Nat) : Prop := k = f.t ∨ k = f.m
theorem ownsMap_blk {H : Type} {w w' : World} {P : Program} {k : TypeId} {R : Value → Option (DataW H × List MemPlace)} {b n : Nat} {D : DataW H} (h : w.ownsMap P k R b n D) (hb : w'.heap[b]? = w.heap[b]?) : w'.ownsMap P k R b n D := by
  obtain ⟨es, clock, h1, r⟩ := h
  exact ⟨es, clock, hb.trans h1, r⟩
namespace TabR
variable {w w' : World} {f : TF} {τ : List (Option Int)}
theorem ne (h : TabR w f τ) : f.t ≠ f.m := by
  intro e
  obtain ⟨D, ⟨es, clock, h1, _⟩, _⟩ := h.map
  have h2 := h.row
  unfold Has at h2
  rw [e, h1] at h2
  cases h2
theorem lt (h : TabR w f τ) : ∀ k, f.mem k → k < w.heap.size := by
  rintro k (rfl | rfl)
  · exact h.row.lt
  · obtain ⟨D, h1, _⟩ := h.map; exact h1.lt
theorem ge (h : TabR w f τ) : ∀ k, f.mem k → NG ≤ k := by
  rintro k (rfl | rfl)
  · exact h.gt
  · exact h.gm
theorem blk (h : TabR w f τ) (hb : ∀ k, f.mem k → w'.heap[k]? = w.heap[k]?) : TabR w' f τ := by
  obtain ⟨D, h1, h2⟩ := h.map
  exact ⟨h.gt, h.gm, (hb f.t (.inl rfl)).trans h.row, ⟨D, ownsMap_blk h1 (hb f.m (.inr rfl)), h2⟩, h.wf⟩
theorem fr {S : Nat → Prop} (h : TabR w f τ) (hf : Fr S w w') (hS : ∀ k, f.mem k → ¬ S k) : TabR w' f τ :=
  h.blk (fun k hk => hf.block k (h.lt k hk) (fun s => (hS k hk s).elim))
theorem new (h : TabR w f τ) (hf : Fr Nil1 w w') : TabR w' f τ := h.fr hf (fun _ _ s => s)
theorem live_bound (x : Int) (h : liveB τ x = true) : 1 ≤ x ∧ x ≤ τ.length := by
  rcases Int.lt_or_le x 1 with g | g
  · rw [liveB, slotAt_out τ x (.inl g)] at h; cases h
  · rcases Int.lt_or_le τ.length x with g' | g'
    · rw [liveB, slotAt_out τ x (.inr g')] at h; cases h
    · exact ⟨g, g'⟩
end TabR

theorem tabNew_any (w : World) : Calls Tryz.prog 41 #[] w fun e w' => e = .returned (.pointer (some ⟨w.heap.size + 1, 0, none⟩)) ∧ (NG ≤ w.heap.size → TabR w' ⟨w.heap.size + 1, w.heap.size⟩ []) ∧ Fr Nil1 w w' := by
  have hmm := @run_makeMap Tryz.prog
  go_enter Tryz.func41, Tryz.ntmps41
  go_wp2_with fail
  go_ret
  refine ⟨rfl, fun hG => ⟨by show NG ≤ w.heap.size + 1; omega, hG, ?_, ⟨.map [], ?_, DView.empty⟩, fun h s e => by rw [slotAt_out [] h (by simp; omega)] at e; cases e⟩, ((Fr.refl _ _).alloc _).alloc _⟩
  · have := Has.new (w.alloc (.map #[] 0)) [.map (some w.heap.size), .int .i64 0] 68
    rw [World.size_alloc] at this
    exact this
  · exact (World.ownsMap_made w Tryz.prog 3 _).alloc _

theorem tabLive_any {f : TF} {τ : List (Option Int)} {w : World} (h : TabR w f τ) (x : Int) (h1 : -9223372036854775808 ≤ x) (h2 : x ≤ 9223372036854775807) :
    Calls Tryz.prog 31 #[.pointer (some ⟨f.t, 0, none⟩), .int .i64 x] w fun e w' => e = .returned (.bool (liveB τ x)) ∧ w = w' := by
  obtain ⟨c0, c1, _⟩ := h.row.two
  obtain ⟨D, hown, hD⟩ := h.map
  have hkey : keyOf Tryz.prog 3 (.int .i64 x) = some (.int .i64 x) := keyOf_int_mk Tryz.underlying3 (WalkArith.wf_i64 (by omega))
  have HH := hid (hD.has x)
  have HO := hid hown
  clear hown hD h
  go_enter Tryz.func31, Tryz.ntmps31
  go_wp2_with (first | (at_lookup; refine wpList_lookup_own_ok_int _ rfl _ _ 66 rfl 3 3 .i64 lawInt Tryz.underlying66 Tryz.underlying3 (zeroInt _) f.m τ.length D rfl HO.out _ _ rfl hkey ?_; intro c hat hwc))
  go_ret
  rw [HH.out]
  exact ⟨rfl, rfl⟩

theorem tabLook_any {f : TF} {τ : List (Option Int)} {w : World} (h : TabR w f τ) (x : Int) (h1 : -9223372036854775808 ≤ x) (h2 : x ≤ 9223372036854775807) :
    Calls Tryz.prog 47 #[.pointer (some ⟨f.t, 0, none⟩), .int .i64 x] w fun e w' => e = .returned (.int .i64 (staleE τ x)) ∧ w = w' := by
  have HL := hid (tabLive_any h x h1 h2)
  have HS := hid (show staleE τ x = if liveB τ x = true then 0 else 17 from rfl)
  generalize staleE τ x = z at *
  clear h
  cases hl : liveB τ x
  · rw [hl] at HL HS
    have HS2 := hid (show z = 17 by rw [HS.out, if_neg (by simp)])
    clear hl
    go_enter Tryz.func47, Tryz.ntmps47
    go_wp2_with (first | (go_at_call 31; refine HL.out.mono ?_; rintro e w1 ⟨rfl, rfl⟩))
    go_ret
    rw [HS2.out]
    exact ⟨rfl, rfl⟩
  · rw [hl] at HL HS
    have HS2 := hid (show z = 0 by rw [HS.out, if_pos rfl])
    clear hl
    go_enter Tryz.func47, Tryz.ntmps47
    go_wp2_with (first | (go_at_call 31; refine HL.out.mono ?_; rintro e w1 ⟨rfl, rfl⟩))
    go_ret
    rw [HS2.out]
    exact ⟨rfl, rfl⟩

theorem tabSlot_any {f : TF} {τ : List (Option Int)} {w : World} (h : TabR w f τ) (x : Int) (h1 : -9223372036854775808 ≤ x) (h2 : x ≤ 9223372036854775807) :
    Calls Tryz.prog 28 #[.pointer (some ⟨f.t, 0, none⟩), .int .i64 x] w fun e w' => e = .returned (.tuple #[.int .i64 (slotV τ x), .int .i64 (staleE τ x)]) ∧ w = w' := by
  have HL := hid (tabLook_any h x h1 h2)
  have HS := hid (show staleE τ x = if liveB τ x = true then 0 else 17 from rfl)
  obtain ⟨c0, c1, _⟩ := h.row.two
  obtain ⟨D, hown, hD⟩ := h.map
  have hkey : keyOf Tryz.prog 3 (.int .i64 x) = some (.int .i64 x) := keyOf_int_mk Tryz.underlying3 (WalkArith.wf_i64 (by omega))
  have HA := hid (hD.at' x)
  have HO := hid hown
  generalize staleE τ x = z at *
  clear hown hD h
  cases hl : liveB τ x
  · rw [hl] at HS
    have HS2 := hid (show z = 17 by rw [HS.out, if_neg (by simp)])
    have HV := hid (show slotV τ x = 0 by unfold slotV; unfold liveB at hl; cases e : slotAt τ x with | none => rfl | some y => rw [e] at hl; cases hl)
    rw [HS2.out] at HL ⊢
    clear hl HS
    go_enter Tryz.func28, Tryz.ntmps28
    go_wp2_with (first | (go_at_call 47; refine HL.out.mono ?_; rintro e w1 ⟨rfl, rfl⟩))
    go_ret2
    rw [HV.out]
    exact ⟨rfl, rfl⟩
  · rw [hl] at HS
    have HS2 := hid (show z = 0 by rw [HS.out, if_pos rfl])
    have HV := hid (show ∀ c : Int, D.atKey (.int .i64 x) (.lit (.int .i64 0)) = .lit (.int .i64 c) → slotV τ x = c by
      intro c hc
      unfold slotV
      unfold liveB at hl
      cases e : slotAt τ x with
      | none => rw [e] at hl; cases hl
      | some y =>
        rw [HA.out y e] at hc
        exact (Lit.int.inj (DataW.lit.inj hc)).2)
    rw [HS2.out] at HL ⊢
    clear hl HS
    go_enter Tryz.func28, Tryz.ntmps28
    go_wp2_with (first | (go_at_call 47; refine HL.out.mono ?_; rintro e w1 ⟨rfl, rfl⟩) | (at_lookup; refine wpList_lookup_own_int _ rfl _ _ 66 rfl 3 3 .i64 lawInt Tryz.underlying66 Tryz.underlying3 (zeroInt _) f.m τ.length D rfl HO.out _ _ rfl hkey ?_; intro c hat hwc; have HC := hid (HV.out c hat); clear hat hwc))
    go_ret2
    rw [HC.out]
    exact ⟨rfl, rfl⟩

theorem tabLen_any {f : TF} {τ : List (Option Int)} {w : World} (h : TabR w f τ) :
    Calls Tryz.prog 25 #[.pointer (some ⟨f.t, 0, none⟩)] w fun e w' => e = .returned (.int .i64 ((occ τ).length : Nat)) ∧ w = w' := by
  obtain ⟨c0, c1, _⟩ := h.row.two
  obtain ⟨D, hown, hD⟩ := h.map
  have HO := hid hown
  have HS := hid hD.size
  clear hown hD h
  go_enter Tryz.func25, Tryz.ntmps25
  go_wp2_with (first | (at_len; refine wpList_len_own _ rfl _ 66 rfl 3 3 Tryz.underlying66 _ f.m τ.length D rfl HO.out ?_))
  go_ret
  rw [HS.out]
  exact ⟨rfl, rfl⟩

def mayS (s : Int) : Bool := decide (0 ≤ s) && decide (s < 4096)
theorem handleMay_any (s : Int) (w : World) : Calls Tryz.prog 89 #[.int .i64 s] w fun e w' => e = .returned (.bool (mayS s)) ∧ w = w' := by
  by_cases h1 : 0 ≤ s
  · have e : mayS s = decide (s < 4096) := by unfold mayS; rw [decide_eq_true h1, Bool.true_and]
    rw [e]
    clear e
    go_enter Tryz.func89, Tryz.ntmps89
    go_wp2_with fail
    go_ret
    exact ⟨rfl, rfl⟩
  · have e : mayS s = false := by unfold mayS; rw [decide_eq_false h1, Bool.false_and]
    rw [e]
    clear e
    go_enter Tryz.func89, Tryz.ntmps89
    go_wp2_with fail
    go_ret
    exact ⟨rfl, rfl⟩

theorem tabTake_bad {f : TF} {τ : List (Option Int)} {w : World} (s : Int) (hs : mayS s = false) :
    Calls Tryz.prog 64 #[.pointer (some ⟨f.t, 0, none⟩), .int .i64 s] w fun e w' => e = .returned (.tuple #[.int .i64 0, .int .i64 10]) ∧ w = w' := by
  have HM := hid (hs ▸ handleMay_any s w)
  clear hs
  go_enter Tryz.func64, Tryz.ntmps64
  go_wp2_with (first | (go_at_call 89; refine HM.out.mono ?_; rintro e w1 ⟨rfl, rfl⟩))
  go_ret2
  exact ⟨rfl, rfl⟩

set_option maxRecDepth 100000 in
set_option maxHeartbeats 1000000 in
theorem tabTake_any {f : TF} {τ : List (Option Int)} {w : World} (h : TabR w f τ) (s : Int) (hs : mayS s = true) (hn : τ.length < 1000000000) :
    Calls Tryz.prog 64 #[.pointer (some ⟨f.t, 0, none⟩), .int .i64 s] w fun e w' => e = .returned (.tuple #[.int .i64 (τ.length + 1 : Nat), .int .i64 0]) ∧ TabR w' f (τ ++ [some s]) ∧ Fr f.mem w w' := by
  obtain ⟨c0, c1, cf⟩ := h.row.two
  have HM := hid (hs ▸ handleMay_any s w)
  have hb : 0 ≤ s ∧ s < 4096 := by simpa [mayS] using hs
  have HH := hid h
  have hne := h.ne
  have hgt := h.gt
  clear h hs
  go_enter Tryz.func64, Tryz.ntmps64
  go_wp2_with (first | (go_at_call 89; refine HM.out.mono ?_; rintro e w1 ⟨rfl, rfl⟩))
  obtain ⟨w2, hw2⟩ : ∃ w2, (w.setCell ⟨f.t, 1, none⟩ (.int .i64 ((τ.length : Int) + 1))).drew = w2 := ⟨_, rfl⟩
  have hr : Has w2 f.t [.map (some f.m), .int .i64 (τ.length + 1 : Nat)] 68 := hw2 ▸ (HH.out.row.set 1 (.int .i64 ((τ.length : Int) + 1))).drew
  obtain ⟨D, hown, hD⟩ := HH.out.map
  have hfr : Fr f.mem w w2 := hw2 ▸ ((Fr.refl _ w).setCell _ _ hgt (fun _ => .inl rfl)).drew
  have hown2 : w2.ownsMap Tryz.prog 3 (plainElem Tryz.prog 3) f.m τ.length D := hw2 ▸ (hown.setCell (a := ⟨f.t, 1, none⟩) (fun e => hne e.symm) _).drew
  obtain ⟨g0, g1, gf⟩ := hr.two
  have HR := hid hr
  have HD := hid hD
  have HO := hid hown2
  have HFr := hid hfr
  have hkey : keyOf Tryz.prog 3 (.int .i64 (τ.length + 1 : Nat)) = some (.int .i64 (τ.length + 1 : Nat)) := keyOf_int_mk Tryz.underlying3 (WalkArith.wf_i64 (by omega))
  have hel := plainElem_int (H := Unit) (P := Tryz.prog) (e := 3) Tryz.underlying3 (a := s) (WalkArith.wf_i64 (by omega))
  have HT := hid (hown2.tidy lawInt)
  have hnm : τ.length < maxLen := by unfold maxLen; omega
  clear hr hD hown hown2 hfr
  refine wp_region_still_tail 9 (by kernel_rfl) (by kernel_rfl) ?_
  simp only [List.take_succ_cons, List.take_zero, List.drop_succ_cons, List.drop_zero]
  change wpStill _ _ (w.setCell ⟨f.t, 1, none⟩ (.int .i64 ((τ.length : Int) + 1))).drew (fun a' => wpList _ _ _ _ a' (w.setCell ⟨f.t, 1, none⟩ (.int .i64 ((τ.length : Int) + 1))).drew) _ _
  rw [hw2]
  clear hw2 c0 c1 cf
  repeat still_step
  refine wpStill_nil ?_
  have HB := hid hb
  clear hn hb
  go_wp2_with (first | (at_mapUpdate; refine wpList_mapUpdate_own _ rfl _ _ _ 66 rfl 3 3 lawInt Tryz.underlying66 _ f.m τ.length D rfl HO.out hnm _ _ _ rfl rfl hkey _ [] hel ?_; intro w3 hown3 hgrow3; have hr3 : Has w3 f.t [.map (some f.m), .int .i64 (τ.length + 1 : Nat)] 68 := (hgrow3.block f.t HR.out.lt (fun e => hne (Option.some.inj e))).trans HR.out; obtain ⟨k0, k1, kf⟩ := hr3.two; have HR3 := hid hr3; have HO3 := hid hown3; have HG3 := hid hgrow3; clear hr3 hown3 hgrow3) | go_in)
  go_ret2
  refine ⟨rfl, ⟨HH.out.gt, HH.out.gm, ?_, ⟨_, ?_, HD.out.push HT.out s⟩, fun x y e => ?_⟩, HFr.out.grown HG3.out (fun k e => by cases e; exact HH.out.gm) (fun k e _ => by cases e; exact .inr rfl)⟩
  · rw [List.length_append]
    exact HR3.out
  · rw [List.length_append]
    exact HO3.out
  · rw [slotAt_snoc] at e
    split at e
    · cases e; exact HB.out
    · exact HH.out.wf x y e

theorem tabFree_bad {f : TF} {τ : List (Option Int)} {w : World} (h : TabR w f τ) (x : Int) (h1 : -9223372036854775808 ≤ x) (h2 : x ≤ 9223372036854775807) (hx : liveB τ x = false) :
    Calls Tryz.prog 36 #[.pointer (some ⟨f.t, 0, none⟩), .int .i64 x] w fun e w' => e = .returned (.int .i64 17) ∧ w = w' := by
  have hs : staleE τ x = 17 := by unfold staleE; rw [if_neg (by rw [hx]; simp)]
  have HL := hid (hs ▸ tabLook_any h x h1 h2)
  clear h hx hs
  go_enter Tryz.func36, Tryz.ntmps36
  go_wp2_with (first | (go_at_call 47; refine HL.out.mono ?_; rintro e w1 ⟨rfl, rfl⟩))
  go_ret
  exact ⟨rfl, rfl⟩

theorem tabFree_any {f : TF} {τ : List (Option Int)} {w : World} (h : TabR w f τ) (x : Int) (h1 : -9223372036854775808 ≤ x) (h2 : x ≤ 9223372036854775807) (hx : liveB τ x = true) :
    Calls Tryz.prog 36 #[.pointer (some ⟨f.t, 0, none⟩), .int .i64 x] w fun e w' => e = .returned (.int .i64 0) ∧ TabR w' f (τ.set (x.toNat - 1) none) ∧ Fr f.mem w w' := by
  have hs : staleE τ x = 0 := by unfold staleE; rw [if_pos hx]
  have HL := hid (hs ▸ tabLook_any h x h1 h2)
  have hkey : keyOf Tryz.prog 3 (.int .i64 x) = some (.int .i64 x) := keyOf_int_mk Tryz.underlying3 (WalkArith.wf_i64 (by omega))
  obtain ⟨c0, c1, cf⟩ := h.row.two
  obtain ⟨D, hown, hD⟩ := h.map
  have HH := hid h
  have HO := hid hown
  have HV := hid (hD.del (hown.tidy lawInt) x hx)
  have HBd := hid (TabR.live_bound x hx)
  have hne := h.ne
  clear h hs hown hD hx
  go_enter Tryz.func36, Tryz.ntmps36
  go_wp2_with (first | (go_at_call 47; refine HL.out.mono ?_; rintro e w1 ⟨rfl, rfl⟩) | (at_delete; refine wpList_delete_own _ rfl _ _ 66 3 rfl 3 lawInt Tryz.underlying66 _ f.m τ.length D rfl HO.out _ _ rfl hkey ?_; intro w3 hown3 hturn3; have HO3 := hid hown3; have HG3 := hid hturn3.grown; clear hown3 hturn3) | go_in)
  go_ret
  refine ⟨rfl, ⟨HH.out.gt, HH.out.gm, ?_, ⟨_, ?_, HV.out⟩, fun y s e => ?_⟩, (Fr.refl _ _).grown HG3.out (fun k e => by cases e; exact HH.out.gm) (fun k e _ => by cases e; exact .inr rfl)⟩
  · rw [List.length_set]
    exact (HG3.out.block f.t HH.out.row.lt (fun e => hne (Option.some.inj e))).trans HH.out.row
  · rw [List.length_set]
    exact HO3.out
  · rw [slotAt_set τ x none HBd.out.1 HBd.out.2] at e
    split at e
    · cases e
    · exact HH.out.wf y s e
end Go.Proofs.YtogjfaiidciedaaGreatDoor
