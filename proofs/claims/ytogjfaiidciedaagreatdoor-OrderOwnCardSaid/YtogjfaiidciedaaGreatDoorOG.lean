/- order.List: Label, Before, Len, Handles, First, After, Ahead, Delete. -/
import Derived.Test.YtogjfaiidciedaaGreatDoorOF
set_option linter.unusedVariables false
set_option linter.unusedSimpArgs false
namespace Go.Proofs.YtogjfaiidciedaaGreatDoor
open Go.RowKit Go.Maps
variable {w0 w : World} {L bl p : Nat} {tf : TF} {F : PF} {σ : List (Option Int)} {h : Nat} {τ : List (Option Int)}

theorem ordLabel_any (H : OrdR w0 L bl p tf F σ h τ w) (x : Int) (h1 : -9223372036854775808 ≤ x) (h2 : x ≤ 9223372036854775807) :
    Calls Tryz.prog 13 #[.pointer (some ⟨L, 0, none⟩), .int .i64 x] w fun e w' => e = .returned (.tuple #[.int .i64 (slotV τ x), .int .i64 (staleE τ x)]) ∧ w = w' := by
  have HS := hid (tabSlot_any H.tab x h1 h2)
  obtain ⟨l0, l1, lf⟩ := H.lst.two
  generalize slotV τ x = a at *
  generalize staleE τ x = b at *
  clear H
  go_enter Tryz.func13, Tryz.ntmps13
  go_wp2_with (go_at_call 28; refine HS.out.mono ?_; rintro e w1 ⟨rfl, rfl⟩)
  go_ret2
  exact ⟨rfl, rfl⟩
theorem ordLen_any (H : OrdR w0 L bl p tf F σ h τ w) : Calls Tryz.prog 21 #[.pointer (some ⟨L, 0, none⟩)] w fun e w' => e = .returned (.int .i64 (its σ).length) ∧ w = w' := by
  have HS := hid (RowG.len H.row)
  obtain ⟨l0, l1, lf⟩ := H.lst.two
  generalize (its σ).length = a at *
  clear H
  go_enter Tryz.func21, Tryz.ntmps21
  go_wp2_with (go_at_call 27; refine HS.out.mono ?_; rintro e w1 ⟨rfl, rfl⟩)
  go_ret
  exact ⟨rfl, rfl⟩
theorem ordHandles_any (H : OrdR w0 L bl p tf F σ h τ w) : Calls Tryz.prog 11 #[.pointer (some ⟨L, 0, none⟩)] w fun e w' => ∃ v, e = .returned v ∧ Hid (RowI w' w.heap.size v (its σ) ∧ OrdR w0 L bl p tf F σ h τ w' ∧ Fr Nil1 w w') := by
  have HS := hid (RowG.items H.row order_hear)
  obtain ⟨l0, l1, lf⟩ := H.lst.two
  have HH := hid H
  clear H
  go_enter Tryz.func11, Tryz.ntmps11
  go_wp2_with (go_at_call 35; refine HS.out.mono ?_; rintro e w1 ⟨v, rfl, H1⟩)
  go_ret
  exact ⟨v, rfl, hid ⟨H1.out.1, HH.out.new H1.out.2.2, H1.out.2.2⟩⟩
/-- A store of a step into a block of one's own. -/
theorem st4_fr (w2 : World) (b : Nat) (S : St) (hNG : NG ≤ b) : Fr (fun k => k = b) w2 ((((w2.setCell ⟨b, 0, none⟩ (.int .i64 S.k)).setCell ⟨b, 1, none⟩ (.int .i64 S.f)).setCell ⟨b, 2, none⟩ (.int .i64 S.s)).setCell ⟨b, 3, none⟩ (.int .i64 S.c)) :=
  (((((Fr.refl (fun k => k = b) w2)).setCell ⟨b, 0, none⟩ _ hNG (fun _ => rfl)).setCell ⟨b, 1, none⟩ _ hNG (fun _ => rfl)).setCell ⟨b, 2, none⟩ _ hNG (fun _ => rfl)).setCell ⟨b, 3, none⟩ _ hNG (fun _ => rfl)
/-- What stands behind an act of a list: the state, and what it turned. -/
structure OrdW (w0 w : World) (L bl p : Nat) (tf : TF) (F F' : PF) (σ' : List (Option Int)) (h' : Nat) (τ' : List (Option Int)) (w' : World) : Prop where
  r : OrdR w0 L bl p tf F' σ' h' τ' w'
  mem : ∀ k, F'.mem k → F.mem k ∨ w.heap.size ≤ k
  fr : Fr (OrS F bl L tf) w w'
theorem OrdR.noBlk (H : OrdR w0 L bl p tf F σ h τ w) : ¬ OrS F bl L tf w.heap.size := by
  rintro (hk | hk)
  · have := H.row.r.lt _ hk; omega
  · have := (H.row.bb _ hk).2.1; omega
/-- Behind the result's own block. -/
theorem OrdW.out {F' : PF} {σ' : List (Option Int)} {h' : Nat} {τ' : List (Option Int)} {w2 w3 : World} {o : Obj} (H : OrdR w0 L bl p tf F σ h τ w) (H2 : OrdW w0 (w.alloc o) L bl p tf F F' σ' h' τ' w2) (hf : Fr (fun k => k = w.heap.size) w2 w3) : OrdW w0 w L bl p tf F F' σ' h' τ' w3 := by
  have hs := H2.fr.size
  rw [World.size_alloc] at hs
  refine ⟨H2.r.frS hf (fun k hk => ?_), fun k hk => ?_, ((((Fr.refl (OrS F bl L tf) w).alloc o).trans H2.fr).trans' hf (fun j _ hj e => by have e' : j = w.heap.size := e; omega))⟩
  · have e : k = w.heap.size := hk
    subst e
    refine ⟨fun hk => ?_, H.row.fr.size⟩
    rcases hk with hk | hk
    · rcases H2.mem _ hk with g | g
      · exact H.noBlk (.inl g)
      · rw [World.size_alloc] at g; omega
    · exact H.noBlk (.inr hk)
  · rcases H2.mem k hk with g | g
    · exact .inl g
    · rw [World.size_alloc] at g; exact .inr (by omega)

set_option maxRecDepth 100000 in
set_option maxHeartbeats 1000000 in
theorem ordFirst_ok (H : OrdR w0 L bl p tf F σ h τ w) (hn : τ.length < 100000000) (hT : (its σ).length < 2560) :
    Calls Tryz.prog 22 #[.pointer (some ⟨L, 0, none⟩)] w fun e w' => ∃ (S : St) (F' : PF) (σ' : List (Option Int)) (h' : Nat) (τ' : List (Option Int)), e = .returned (.tuple #[.int .i64 ((τ.length : Int) + 1), .agg #[.int .i64 S.k, .int .i64 S.f, .int .i64 S.s, .int .i64 S.c], .int .i64 0]) ∧ Hid (OrdW w0 w L bl p tf F F' σ' h' τ' w' ∧ PutP σ 0 τ σ' τ' S) := by
  have fa : Fr Nil1 w (w.alloc (.cells #[.int .i64 0, .int .i64 0, .int .i64 0, .int .i64 0] 36)) := (Fr.refl _ _).alloc _
  have HPt := hid (ordPut_ok (H.new fa) hn hT (-1) (.first rfl rfl rfl))
  have HH := hid H
  have HNG := hid (show NG ≤ w.heap.size from H.row.r.sl.g.size)
  clear H hn hT
  go_enter Tryz.func22, Tryz.ntmps22
  go_wp2_with (go_at_call 43; refine HPt.out.mono ?_; rintro e w2 ⟨S, F2, σ2, h2, τ2, rfl, H2⟩; have hb2 := (Has.new w [.int .i64 0, .int .i64 0, .int .i64 0, .int .i64 0] 36).fr' H2.out.2.2.2 HH.out.noBlk; have HB2 := hid hb2; have e0 := hb2.cell 0; have e1 := hb2.cell 1; have e2 := hb2.cell 2; have e3 := hb2.cell 3; have ef := hb2.frozen; clear hb2)
  have hf := (((HB2.out.set 0 (.int .i64 S.k)).set 1 (.int .i64 S.f)).set 2 (.int .i64 S.s)).set 3 (.int .i64 S.c)
  have z0 := hf.cell 0
  have z1 := hf.cell 1
  have z2 := hf.cell 2
  have z3 := hf.cell 3
  refine bodyPost_ret (v := .tuple #[.int .i64 ((τ.length : Int) + 1), .agg #[.int .i64 S.k, .int .i64 S.f, .int .i64 S.s, .int .i64 S.c], .int .i64 0]) (by simp [results, Tryz.f22, go_sem, z0, z1, z2, z3]) rfl ?_
  exact ⟨S, F2, σ2, h2, τ2, rfl, hid ⟨OrdW.out HH.out ⟨H2.out.1, H2.out.2.2.1, H2.out.2.2.2⟩ (st4_fr w2 _ S HNG.out), H2.out.2.1⟩⟩
end Go.Proofs.YtogjfaiidciedaaGreatDoor
