/- order.List: After, Ahead, First at its end. -/
import Derived.Test.YtogjfaiidciedaaGreatDoorOH
set_option linter.unusedVariables false
set_option linter.unusedSimpArgs false
namespace Go.Proofs.YtogjfaiidciedaaGreatDoor
open Go.RowKit Go.Maps
variable {w0 w : World} {L bl p : Nat} {tf : TF} {F : PF} {σ : List (Option Int)} {h : Nat} {τ : List (Option Int)}

theorem OrdR.rank (H : OrdR w0 L bl p tf F σ h τ w) {x : Int} (hl : liveB τ x = true) {k : Nat} (hk : (its σ)[k]? = some x) : ∃ q : Nat, slotV τ x = q ∧ σ.getD q none = some x ∧ cntOn (onOf σ) q = k := by
  obtain ⟨q, h1, h2⟩ := H.slot hl
  refine ⟨q, h1, h2, ?_⟩
  have h3 := its_get σ q x h2
  have hnd := its_nodup' H.k
  obtain ⟨a1, a2⟩ := List.getElem?_eq_some_iff.1 h3
  obtain ⟨b1, b2⟩ := List.getElem?_eq_some_iff.1 hk
  exact (List.getElem_inj hnd).1 (a2.trans b2.symm)
set_option maxRecDepth 100000 in
set_option maxHeartbeats 1000000 in
theorem ordAfter_ok (H : OrdR w0 L bl p tf F σ h τ w) (x : Int) (h1 : -9223372036854775808 ≤ x) (h2 : x ≤ 9223372036854775807) (hl : liveB τ x = true) (hn : τ.length < 100000000) (hT : (its σ).length < 2560) {k : Nat} (hk : (its σ)[k]? = some x) :
    Calls Tryz.prog 15 #[.pointer (some ⟨L, 0, none⟩), .int .i64 x] w fun e w' => ∃ (S : St) (F' : PF) (σ' : List (Option Int)) (h' : Nat) (τ' : List (Option Int)), e = .returned (.tuple #[.int .i64 ((τ.length : Int) + 1), .agg #[.int .i64 S.k, .int .i64 S.f, .int .i64 S.s, .int .i64 S.c], .int .i64 0]) ∧ Hid (OrdW w0 w L bl p tf F F' σ' h' τ' w' ∧ PutP σ (k + 1) τ σ' τ' S) := by
  have fa : Fr Nil1 w (w.alloc (.cells #[.int .i64 0, .int .i64 0, .int .i64 0, .int .i64 0] 36)) := (Fr.refl _ _).alloc _
  obtain ⟨q, hq1, hq2, hq3⟩ := H.rank hl hk
  have hc : BehC σ (slotV τ x) (q / 8) (q + 1) := .at q hq1 (onOf_some hq2) rfl rfl
  have hcall : ∀ w', Fr Nil1 (w.alloc (.cells #[.int .i64 0, .int .i64 0, .int .i64 0, .int .i64 0] 36)) w' → Calls Tryz.prog 38 (#[] ++ (#[.int .i64 (slotV τ x)] ++ #[])) w' fun e w'' => e = .returned (.int .i64 (slotV τ x)) ∧ w' = w'' := fun w' _ => after1_any _ w'
  have hnk : cntOn (onOf σ) (q + 1) = k + 1 := by rw [cntOn_on (onOf σ) q (onOf_some hq2), hq3]
  have HAt := hid (ordAt_ok (H.new fa) x h1 h2 hl hn hT (enters_of Tryz.func38 (by kernel_rfl) rfl) (bnd := #[]) hc hcall)
  rw [hnk] at HAt
  have HH := hid H
  have HNG := hid (show NG ≤ w.heap.size from H.row.r.sl.g.size)
  clear H hn hT hl hk hc hcall hnk hq1 hq2 hq3 fa
  go_enter Tryz.func15, Tryz.ntmps15
  go_wp2_with (go_at_call 37; refine HAt.out.mono ?_; rintro e w2 ⟨S, F2, σ2, h2', τ2, rfl, H2⟩; have hb2 := (zer4 w).fr' H2.out.1.fr HH.out.noBlk; have HB2 := hid hb2; have e0 := hb2.cell 0; have e1 := hb2.cell 1; have e2 := hb2.cell 2; have e3 := hb2.cell 3; have ef := hb2.frozen; clear hb2)
  have hf := (((HB2.out.set 0 (.int .i64 S.k)).set 1 (.int .i64 S.f)).set 2 (.int .i64 S.s)).set 3 (.int .i64 S.c)
  have z0 := hf.cell 0
  have z1 := hf.cell 1
  have z2 := hf.cell 2
  have z3 := hf.cell 3
  refine bodyPost_ret (v := .tuple #[.int .i64 ((τ.length : Int) + 1), .agg #[.int .i64 S.k, .int .i64 S.f, .int .i64 S.s, .int .i64 S.c], .int .i64 0]) (by simp [results, Tryz.f15, go_sem, z0, z1, z2, z3]) rfl ?_
  exact ⟨S, F2, σ2, h2', τ2, rfl, hid ⟨OrdW.out HH.out H2.out.1 (st4_fr w2 _ S HNG.out), H2.out.2⟩⟩
set_option maxRecDepth 100000 in
set_option maxHeartbeats 1000000 in
theorem ordAhead_ok (H : OrdR w0 L bl p tf F σ h τ w) (x : Int) (h1 : -9223372036854775808 ≤ x) (h2 : x ≤ 9223372036854775807) (hl : liveB τ x = true) (hn : τ.length < 100000000) (hT : (its σ).length < 2560) {k : Nat} (hk : (its σ)[k]? = some x) :
    Calls Tryz.prog 16 #[.pointer (some ⟨L, 0, none⟩), .int .i64 x] w fun e w' => ∃ (S : St) (F' : PF) (σ' : List (Option Int)) (h' : Nat) (τ' : List (Option Int)), e = .returned (.tuple #[.int .i64 ((τ.length : Int) + 1), .agg #[.int .i64 S.k, .int .i64 S.f, .int .i64 S.s, .int .i64 S.c], .int .i64 0]) ∧ Hid (OrdW w0 w L bl p tf F F' σ' h' τ' w' ∧ PutP σ k τ σ' τ' S) := by
  have fa : Fr Nil1 w (w.alloc (.cells #[.int .i64 0, .int .i64 0, .int .i64 0, .int .i64 0] 36)) := (Fr.refl _ _).alloc _
  obtain ⟨q, hq1, hq2, hq3⟩ := H.rank hl hk
  obtain ⟨bh, seg, next, hc, hnk, hcall'⟩ := ordAhead1_any (H.new fa) q (onOf_some hq2)
  rw [hq3] at hnk
  have hcall : ∀ w', Fr Nil1 (w.alloc (.cells #[.int .i64 0, .int .i64 0, .int .i64 0, .int .i64 0] 36)) w' → Calls Tryz.prog 39 (#[.pointer (some ⟨L, 0, none⟩)] ++ (#[.int .i64 (slotV τ x)] ++ #[])) w' fun e w'' => e = .returned (.int .i64 bh) ∧ w' = w'' := fun w' hf => by
    rw [hq1]
    exact hcall' w' hf
  clear hcall'
  have HAt := hid (ordAt_ok (H.new fa) x h1 h2 hl hn hT (enters_of Tryz.func39 (by kernel_rfl) rfl) (bnd := #[.pointer (some ⟨L, 0, none⟩)]) hc hcall)
  rw [hnk] at HAt
  have HH := hid H
  have HNG := hid (show NG ≤ w.heap.size from H.row.r.sl.g.size)
  clear H hn hT hl hk hc hcall hnk hq1 hq2 hq3 fa
  go_enter Tryz.func16, Tryz.ntmps16
  go_wp2_with (go_at_call 37; refine HAt.out.mono ?_; rintro e w2 ⟨S, F2, σ2, h2', τ2, rfl, H2⟩; have hb2 := (zer4 w).fr' H2.out.1.fr HH.out.noBlk; have HB2 := hid hb2; have e0 := hb2.cell 0; have e1 := hb2.cell 1; have e2 := hb2.cell 2; have e3 := hb2.cell 3; have ef := hb2.frozen; clear hb2)
  have hf := (((HB2.out.set 0 (.int .i64 S.k)).set 1 (.int .i64 S.f)).set 2 (.int .i64 S.s)).set 3 (.int .i64 S.c)
  have z0 := hf.cell 0
  have z1 := hf.cell 1
  have z2 := hf.cell 2
  have z3 := hf.cell 3
  refine bodyPost_ret (v := .tuple #[.int .i64 ((τ.length : Int) + 1), .agg #[.int .i64 S.k, .int .i64 S.f, .int .i64 S.s, .int .i64 S.c], .int .i64 0]) (by simp [results, Tryz.f16, go_sem, z0, z1, z2, z3]) rfl ?_
  exact ⟨S, F2, σ2, h2', τ2, rfl, hid ⟨OrdW.out HH.out H2.out.1 (st4_fr w2 _ S HNG.out), H2.out.2⟩⟩
set_option maxRecDepth 100000 in
set_option maxHeartbeats 1000000 in
theorem ordAfter_stale (H : OrdR w0 L bl p tf F σ h τ w) (x : Int) (h1 : -9223372036854775808 ≤ x) (h2 : x ≤ 9223372036854775807) (hl : liveB τ x = false) :
    Calls Tryz.prog 15 #[.pointer (some ⟨L, 0, none⟩), .int .i64 x] w fun e w' => e = .returned (.tuple #[.int .i64 0, .agg #[.int .i64 0, .int .i64 0, .int .i64 0, .int .i64 0], .int .i64 17]) ∧ Fr Nil1 w w' := by
  have fa : Fr Nil1 w (w.alloc (.cells #[.int .i64 0, .int .i64 0, .int .i64 0, .int .i64 0] 36)) := (Fr.refl _ _).alloc _
  have HAt := hid (ordAt_stale (H.new fa) x h1 h2 hl (.func (.func 38) #[] #[]))
  have HNG := hid (show NG ≤ w.heap.size from H.row.r.sl.g.size)
  have HFa := hid fa
  clear H hl fa
  go_enter Tryz.func15, Tryz.ntmps15
  go_wp2_with (go_at_call 37; refine HAt.out.mono ?_; rintro e w2 ⟨rfl, H2⟩; have hb2 := (zer4 w).fr' H2 id; have HB2 := hid hb2; have HF2 := hid H2; have e0 := hb2.cell 0; have e1 := hb2.cell 1; have e2 := hb2.cell 2; have e3 := hb2.cell 3; have ef := hb2.frozen; clear hb2 H2)
  have hf := (((HB2.out.set 0 (.int .i64 0)).set 1 (.int .i64 0)).set 2 (.int .i64 0)).set 3 (.int .i64 0)
  have z0 := hf.cell 0
  have z1 := hf.cell 1
  have z2 := hf.cell 2
  have z3 := hf.cell 3
  refine bodyPost_ret (v := .tuple #[.int .i64 0, .agg #[.int .i64 0, .int .i64 0, .int .i64 0, .int .i64 0], .int .i64 17]) (by simp [results, Tryz.f15, go_sem, z0, z1, z2, z3]) rfl ?_
  exact ⟨rfl, ((HFa.out.trans HF2.out).trans' (st4_fr w2 _ ⟨0, 0, 0, 0⟩ HNG.out) (fun j _ hj e => by have e' : j = w.heap.size := e; omega))⟩
set_option maxRecDepth 100000 in
set_option maxHeartbeats 1000000 in
theorem ordAhead_stale (H : OrdR w0 L bl p tf F σ h τ w) (x : Int) (h1 : -9223372036854775808 ≤ x) (h2 : x ≤ 9223372036854775807) (hl : liveB τ x = false) :
    Calls Tryz.prog 16 #[.pointer (some ⟨L, 0, none⟩), .int .i64 x] w fun e w' => e = .returned (.tuple #[.int .i64 0, .agg #[.int .i64 0, .int .i64 0, .int .i64 0, .int .i64 0], .int .i64 17]) ∧ Fr Nil1 w w' := by
  have fa : Fr Nil1 w (w.alloc (.cells #[.int .i64 0, .int .i64 0, .int .i64 0, .int .i64 0] 36)) := (Fr.refl _ _).alloc _
  have HAt := hid (ordAt_stale (H.new fa) x h1 h2 hl (.func (.func 39) #[.pointer (some ⟨L, 0, none⟩)] #[]))
  have HNG := hid (show NG ≤ w.heap.size from H.row.r.sl.g.size)
  have HFa := hid fa
  clear H hl fa
  go_enter Tryz.func16, Tryz.ntmps16
  go_wp2_with (go_at_call 37; refine HAt.out.mono ?_; rintro e w2 ⟨rfl, H2⟩; have hb2 := (zer4 w).fr' H2 id; have HB2 := hid hb2; have HF2 := hid H2; have e0 := hb2.cell 0; have e1 := hb2.cell 1; have e2 := hb2.cell 2; have e3 := hb2.cell 3; have ef := hb2.frozen; clear hb2 H2)
  have hf := (((HB2.out.set 0 (.int .i64 0)).set 1 (.int .i64 0)).set 2 (.int .i64 0)).set 3 (.int .i64 0)
  have z0 := hf.cell 0
  have z1 := hf.cell 1
  have z2 := hf.cell 2
  have z3 := hf.cell 3
  refine bodyPost_ret (v := .tuple #[.int .i64 0, .agg #[.int .i64 0, .int .i64 0, .int .i64 0, .int .i64 0], .int .i64 17]) (by simp [results, Tryz.f16, go_sem, z0, z1, z2, z3]) rfl ?_
  exact ⟨rfl, ((HFa.out.trans HF2.out).trans' (st4_fr w2 _ ⟨0, 0, 0, 0⟩ HNG.out) (fun j _ hj e => by have e' : j = w.heap.size := e; omega))⟩
set_option maxRecDepth 100000 in
set_option maxHeartbeats 1000000 in
theorem ordAfter_full (H : OrdR w0 L bl p tf F σ h τ w) (x : Int) (h1 : -9223372036854775808 ≤ x) (h2 : x ≤ 9223372036854775807) (hl : liveB τ x = true) (hT : 2560 ≤ (its σ).length) :
    Calls Tryz.prog 15 #[.pointer (some ⟨L, 0, none⟩), .int .i64 x] w fun e w' => e = .returned (.tuple #[.int .i64 0, .agg #[.int .i64 0, .int .i64 0, .int .i64 0, .int .i64 0], .int .i64 16]) ∧ Fr Nil1 w w' := by
  have fa : Fr Nil1 w (w.alloc (.cells #[.int .i64 0, .int .i64 0, .int .i64 0, .int .i64 0] 36)) := (Fr.refl _ _).alloc _
  have HAt := hid (ordAt_full (H.new fa) x h1 h2 hl hT (enters_of Tryz.func38 (by kernel_rfl) rfl) (bnd := #[]) (fun w' _ => after1_any _ w'))
  have HNG := hid (show NG ≤ w.heap.size from H.row.r.sl.g.size)
  have HFa := hid fa
  clear H hl fa hT
  go_enter Tryz.func15, Tryz.ntmps15
  go_wp2_with (go_at_call 37; refine HAt.out.mono ?_; rintro e w2 ⟨rfl, H2⟩; have hb2 := (zer4 w).fr' H2 id; have HB2 := hid hb2; have HF2 := hid H2; have e0 := hb2.cell 0; have e1 := hb2.cell 1; have e2 := hb2.cell 2; have e3 := hb2.cell 3; have ef := hb2.frozen; clear hb2 H2)
  have hf := (((HB2.out.set 0 (.int .i64 0)).set 1 (.int .i64 0)).set 2 (.int .i64 0)).set 3 (.int .i64 0)
  have z0 := hf.cell 0
  have z1 := hf.cell 1
  have z2 := hf.cell 2
  have z3 := hf.cell 3
  refine bodyPost_ret (v := .tuple #[.int .i64 0, .agg #[.int .i64 0, .int .i64 0, .int .i64 0, .int .i64 0], .int .i64 16]) (by simp [results, Tryz.f15, go_sem, z0, z1, z2, z3]) rfl ?_
  exact ⟨rfl, ((HFa.out.trans HF2.out).trans' (st4_fr w2 _ ⟨0, 0, 0, 0⟩ HNG.out) (fun j _ hj e => by have e' : j = w.heap.size := e; omega))⟩
set_option maxRecDepth 100000 in
set_option maxHeartbeats 1000000 in
theorem ordAhead_full (H : OrdR w0 L bl p tf F σ h τ w) (x : Int) (h1 : -9223372036854775808 ≤ x) (h2 : x ≤ 9223372036854775807) (hl : liveB τ x = true) (hT : 2560 ≤ (its σ).length) :
    Calls Tryz.prog 16 #[.pointer (some ⟨L, 0, none⟩), .int .i64 x] w fun e w' => e = .returned (.tuple #[.int .i64 0, .agg #[.int .i64 0, .int .i64 0, .int .i64 0, .int .i64 0], .int .i64 16]) ∧ Fr Nil1 w w' := by
  have fa : Fr Nil1 w (w.alloc (.cells #[.int .i64 0, .int .i64 0, .int .i64 0, .int .i64 0] 36)) := (Fr.refl _ _).alloc _
  obtain ⟨q, hq1, hq2⟩ := H.slot hl
  obtain ⟨bh, seg, next, hc, hnk, hcall'⟩ := ordAhead1_any (H.new fa) q (onOf_some hq2)
  have HAt := hid (ordAt_full (H.new fa) x h1 h2 hl hT (enters_of Tryz.func39 (by kernel_rfl) rfl) (bnd := #[.pointer (some ⟨L, 0, none⟩)]) (bh := bh) (fun w' hf => by
    rw [hq1]
    exact hcall' w' hf))
  clear hcall' hnk hc hq1 hq2
  have HNG := hid (show NG ≤ w.heap.size from H.row.r.sl.g.size)
  have HFa := hid fa
  clear H hl fa hT
  go_enter Tryz.func16, Tryz.ntmps16
  go_wp2_with (go_at_call 37; refine HAt.out.mono ?_; rintro e w2 ⟨rfl, H2⟩; have hb2 := (zer4 w).fr' H2 id; have HB2 := hid hb2; have HF2 := hid H2; have e0 := hb2.cell 0; have e1 := hb2.cell 1; have e2 := hb2.cell 2; have e3 := hb2.cell 3; have ef := hb2.frozen; clear hb2 H2)
  have hf := (((HB2.out.set 0 (.int .i64 0)).set 1 (.int .i64 0)).set 2 (.int .i64 0)).set 3 (.int .i64 0)
  have z0 := hf.cell 0
  have z1 := hf.cell 1
  have z2 := hf.cell 2
  have z3 := hf.cell 3
  refine bodyPost_ret (v := .tuple #[.int .i64 0, .agg #[.int .i64 0, .int .i64 0, .int .i64 0, .int .i64 0], .int .i64 16]) (by simp [results, Tryz.f16, go_sem, z0, z1, z2, z3]) rfl ?_
  exact ⟨rfl, ((HFa.out.trans HF2.out).trans' (st4_fr w2 _ ⟨0, 0, 0, 0⟩ HNG.out) (fun j _ hj e => by have e' : j = w.heap.size := e; omega))⟩
set_option maxRecDepth 100000 in
set_option maxHeartbeats 1000000 in
theorem ordFirst_full (H : OrdR w0 L bl p tf F σ h τ w) (hT : 2560 ≤ (its σ).length) :
    Calls Tryz.prog 22 #[.pointer (some ⟨L, 0, none⟩)] w fun e w' => e = .returned (.tuple #[.int .i64 0, .agg #[.int .i64 0, .int .i64 0, .int .i64 0, .int .i64 0], .int .i64 16]) ∧ Fr Nil1 w w' := by
  have fa : Fr Nil1 w (w.alloc (.cells #[.int .i64 0, .int .i64 0, .int .i64 0, .int .i64 0] 36)) := (Fr.refl _ _).alloc _
  have HAt := hid (ordPut_full (H.new fa) hT (-1))
  have HNG := hid (show NG ≤ w.heap.size from H.row.r.sl.g.size)
  have HFa := hid fa
  clear H hT fa
  go_enter Tryz.func22, Tryz.ntmps22
  go_wp2_with (go_at_call 43; refine HAt.out.mono ?_; rintro e w2 ⟨rfl, H2⟩; have hb2 := (zer4 w).fr' H2 id; have HB2 := hid hb2; have HF2 := hid H2; have e0 := hb2.cell 0; have e1 := hb2.cell 1; have e2 := hb2.cell 2; have e3 := hb2.cell 3; have ef := hb2.frozen; clear hb2 H2)
  have hf := (((HB2.out.set 0 (.int .i64 0)).set 1 (.int .i64 0)).set 2 (.int .i64 0)).set 3 (.int .i64 0)
  have z0 := hf.cell 0
  have z1 := hf.cell 1
  have z2 := hf.cell 2
  have z3 := hf.cell 3
  refine bodyPost_ret (v := .tuple #[.int .i64 0, .agg #[.int .i64 0, .int .i64 0, .int .i64 0, .int .i64 0], .int .i64 16]) (by simp [results, Tryz.f22, go_sem, z0, z1, z2, z3]) rfl ?_
  exact ⟨rfl, ((HFa.out.trans HF2.out).trans' (st4_fr w2 _ ⟨0, 0, 0, 0⟩ HNG.out) (fun j _ hj e => by have e' : j = w.heap.size := e; omega))⟩
end Go.Proofs.YtogjfaiidciedaaGreatDoor
