/- order.List: what is told of no list. (printed by mknl.py) -/
import Derived.Test.YtogjfaiidciedaaGreatDoorOJ
set_option linter.unusedVariables false
set_option linter.unusedSimpArgs false
namespace Go.Proofs.YtogjfaiidciedaaGreatDoor
open Go.RowKit Go.Maps

theorem nilLabel (w : World) : Calls Tryz.prog 13 #[.pointer none, .int .i64 1] w fun e w' => e = .returned (.tuple #[.int .i64 0, .int .i64 2]) ∧ w = w' := by
  go_enter Tryz.func13, Tryz.ntmps13
  go_wp2_with fail
  go_ret2
  exact ⟨rfl, rfl⟩
theorem nilBefore (w : World) : Calls Tryz.prog 12 #[.pointer none, .int .i64 1, .int .i64 1] w fun e w' => e = .returned (.tuple #[.bool false, .int .i64 2]) ∧ w = w' := by
  have H := hid (nilLabel w)
  go_enter Tryz.func12, Tryz.ntmps12
  go_wp2_with (go_at_call 13; refine H.out.mono ?_; rintro e w1 ⟨rfl, rfl⟩)
  go_ret2
  exact ⟨rfl, rfl⟩
theorem nilLen (w : World) : Calls Tryz.prog 21 #[.pointer none] w fun e w' => e = .returned (.int .i64 0) ∧ w = w' := by
  go_enter Tryz.func21, Tryz.ntmps21
  go_wp2_with fail
  go_ret
  exact ⟨rfl, rfl⟩
theorem nilCap (w : World) : Calls Tryz.prog 32 #[.pointer none] w fun e w' => e = .returned (.int .i64 0) ∧ w = w' := by
  go_enter Tryz.func32, Tryz.ntmps32
  go_wp2_with fail
  go_ret
  exact ⟨rfl, rfl⟩
theorem nilHandles (w : World) : Calls Tryz.prog 11 #[.pointer none] w fun e w' => e = .returned (.slice none 0 0) ∧ w = w' := by
  go_enter Tryz.func11, Tryz.ntmps11
  go_wp2_with fail
  go_ret
  exact ⟨rfl, rfl⟩
theorem nilRow (w : World) : Calls Tryz.prog 24 #[.pointer none] w fun e w' => e = .returned (.pointer none) ∧ w = w' := by
  go_enter Tryz.func24, Tryz.ntmps24
  go_wp2_with fail
  go_ret
  exact ⟨rfl, rfl⟩
theorem nilTable (w : World) : Calls Tryz.prog 23 #[.pointer none] w fun e w' => e = .returned (.pointer none) ∧ w = w' := by
  go_enter Tryz.func23, Tryz.ntmps23
  go_wp2_with fail
  go_ret
  exact ⟨rfl, rfl⟩
theorem nilClone (w : World) : Calls Tryz.prog 33 #[.pointer none] w fun e w' => e = .returned (.pointer none) ∧ w = w' := by
  go_enter Tryz.func33, Tryz.ntmps33
  go_wp2_with fail
  go_ret
  exact ⟨rfl, rfl⟩
theorem nilFirst (w : World) : Calls Tryz.prog 22 #[.pointer none] w fun e w' => e = .returned (.tuple #[.int .i64 0, .agg #[.int .i64 0, .int .i64 0, .int .i64 0, .int .i64 0], .int .i64 2]) ∧ Fr Nil1 w w' := by
  have HFa := hid (show Fr Nil1 w (w.alloc (.cells #[.int .i64 0, .int .i64 0, .int .i64 0, .int .i64 0] 36)) from (Fr.refl _ _).alloc _)
  go_enter Tryz.func22, Tryz.ntmps22
  go_wp2_with fail
  refine bodyPost_ret (v := .tuple #[.int .i64 0, .agg #[.int .i64 0, .int .i64 0, .int .i64 0, .int .i64 0], .int .i64 2]) (by simp [results, Tryz.f22, go_sem]) rfl ?_
  exact ⟨rfl, HFa.out⟩
theorem nilAt (w : World) (fv : Value) : Calls Tryz.prog 37 #[.pointer none, .int .i64 1, fv] w fun e w' => e = .returned (.tuple #[.int .i64 0, .agg #[.int .i64 0, .int .i64 0, .int .i64 0, .int .i64 0], .int .i64 2]) ∧ Fr Nil1 w w' := by
  have HFa := hid (show Fr Nil1 w (w.alloc (.cells #[.int .i64 0, .int .i64 0, .int .i64 0, .int .i64 0] 36)) from (Fr.refl _ _).alloc _)
  have H := hid (nilLabel (w.alloc (.cells #[.int .i64 0, .int .i64 0, .int .i64 0, .int .i64 0] 36)))
  go_enter Tryz.func37, Tryz.ntmps37
  go_wp2_with (go_at_call 13; refine H.out.mono ?_; rintro e w1 ⟨rfl, rfl⟩)
  refine bodyPost_ret (v := .tuple #[.int .i64 0, .agg #[.int .i64 0, .int .i64 0, .int .i64 0, .int .i64 0], .int .i64 2]) (by simp [results, Tryz.f37, go_sem]) rfl ?_
  exact ⟨rfl, HFa.out⟩
theorem nilDelete (w : World) : Calls Tryz.prog 14 #[.pointer none, .int .i64 1] w fun e w' => e = .returned (.tuple #[.agg #[.int .i64 0, .int .i64 0, .int .i64 0, .int .i64 0], .int .i64 2]) ∧ Fr Nil1 w w' := by
  have HFa := hid (show Fr Nil1 w (w.alloc (.cells #[.int .i64 0, .int .i64 0, .int .i64 0, .int .i64 0] 36)) from (Fr.refl _ _).alloc _)
  have H := hid (nilLabel (w.alloc (.cells #[.int .i64 0, .int .i64 0, .int .i64 0, .int .i64 0] 36)))
  go_enter Tryz.func14, Tryz.ntmps14
  go_wp2_with (go_at_call 13; refine H.out.mono ?_; rintro e w1 ⟨rfl, rfl⟩)
  refine bodyPost_ret (v := .tuple #[.agg #[.int .i64 0, .int .i64 0, .int .i64 0, .int .i64 0], .int .i64 2]) (by simp [results, Tryz.f14, go_sem]) rfl ?_
  exact ⟨rfl, HFa.out⟩
set_option maxRecDepth 100000 in
set_option maxHeartbeats 1000000 in
theorem nilAfter (w : World) (hG : NG ≤ w.heap.size) : Calls Tryz.prog 15 #[.pointer none, .int .i64 1] w fun e w' => e = .returned (.tuple #[.int .i64 0, .agg #[.int .i64 0, .int .i64 0, .int .i64 0, .int .i64 0], .int .i64 2]) ∧ Fr Nil1 w w' := by
  have HFa := hid (show Fr Nil1 w (w.alloc (.cells #[.int .i64 0, .int .i64 0, .int .i64 0, .int .i64 0] 36)) from (Fr.refl _ _).alloc _)
  have HAt := hid (nilAt (w.alloc (.cells #[.int .i64 0, .int .i64 0, .int .i64 0, .int .i64 0] 36)) (.func (.func 38) #[] #[]))
  have HNG := hid hG
  clear hG
  go_enter Tryz.func15, Tryz.ntmps15
  go_wp2_with (go_at_call 37; refine HAt.out.mono ?_; rintro e w2 ⟨rfl, H2⟩; have hb2 := (zer4 w).fr' H2 id; have HB2 := hid hb2; have HF2 := hid H2; have e0 := hb2.cell 0; have e1 := hb2.cell 1; have e2 := hb2.cell 2; have e3 := hb2.cell 3; have ef := hb2.frozen; clear hb2 H2)
  have hf := (((HB2.out.set 0 (.int .i64 0)).set 1 (.int .i64 0)).set 2 (.int .i64 0)).set 3 (.int .i64 0)
  have z0 := hf.cell 0
  have z1 := hf.cell 1
  have z2 := hf.cell 2
  have z3 := hf.cell 3
  refine bodyPost_ret (v := .tuple #[.int .i64 0, .agg #[.int .i64 0, .int .i64 0, .int .i64 0, .int .i64 0], .int .i64 2]) (by simp [results, Tryz.f15, go_sem, z0, z1, z2, z3]) rfl ?_
  exact ⟨rfl, ((HFa.out.trans HF2.out).trans' (st4_fr w2 _ ⟨0, 0, 0, 0⟩ HNG.out) (fun j _ hj e => by have e' : j = w.heap.size := e; omega))⟩
set_option maxRecDepth 100000 in
set_option maxHeartbeats 1000000 in
theorem nilAhead (w : World) (hG : NG ≤ w.heap.size) : Calls Tryz.prog 16 #[.pointer none, .int .i64 1] w fun e w' => e = .returned (.tuple #[.int .i64 0, .agg #[.int .i64 0, .int .i64 0, .int .i64 0, .int .i64 0], .int .i64 2]) ∧ Fr Nil1 w w' := by
  have HFa := hid (show Fr Nil1 w (w.alloc (.cells #[.int .i64 0, .int .i64 0, .int .i64 0, .int .i64 0] 36)) from (Fr.refl _ _).alloc _)
  have HAt := hid (nilAt (w.alloc (.cells #[.int .i64 0, .int .i64 0, .int .i64 0, .int .i64 0] 36)) (.func (.func 39) #[.pointer none] #[]))
  have HNG := hid hG
  clear hG
  go_enter Tryz.func16, Tryz.ntmps16
  go_wp2_with (go_at_call 37; refine HAt.out.mono ?_; rintro e w2 ⟨rfl, H2⟩; have hb2 := (zer4 w).fr' H2 id; have HB2 := hid hb2; have HF2 := hid H2; have e0 := hb2.cell 0; have e1 := hb2.cell 1; have e2 := hb2.cell 2; have e3 := hb2.cell 3; have ef := hb2.frozen; clear hb2 H2)
  have hf := (((HB2.out.set 0 (.int .i64 0)).set 1 (.int .i64 0)).set 2 (.int .i64 0)).set 3 (.int .i64 0)
  have z0 := hf.cell 0
  have z1 := hf.cell 1
  have z2 := hf.cell 2
  have z3 := hf.cell 3
  refine bodyPost_ret (v := .tuple #[.int .i64 0, .agg #[.int .i64 0, .int .i64 0, .int .i64 0, .int .i64 0], .int .i64 2]) (by simp [results, Tryz.f16, go_sem, z0, z1, z2, z3]) rfl ?_
  exact ⟨rfl, ((HFa.out.trans HF2.out).trans' (st4_fr w2 _ ⟨0, 0, 0, 0⟩ HNG.out) (fun j _ hj e => by have e' : j = w.heap.size := e; omega))⟩
end Go.Proofs.YtogjfaiidciedaaGreatDoor
