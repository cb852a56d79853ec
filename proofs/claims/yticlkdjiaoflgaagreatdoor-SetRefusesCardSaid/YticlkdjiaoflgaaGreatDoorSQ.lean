/- set.Set: what is told of no set; what is refused turns nothing. (printed by mksq.py) -/
import Derived.Test.YticlkdjiaoflgaaGreatDoorSN
set_option linter.unusedVariables false
set_option linter.unusedSimpArgs false
namespace Go.Proofs.YticlkdjiaoflgaaGreatDoor
open Go.RowKit

theorem noFloor (key : Int) (w : World) : Calls Tryz.prog 12 #[.pointer none, .int .i64 key] w fun e w' => e = .returned (.tuple #[.int .i64 0, .bool false]) ∧ w = w' := by
  go_enter Tryz.func12, Tryz.ntmps12
  go_wp2_with fail
  go_ret2
  exact ⟨rfl, rfl⟩
theorem noCeil (key : Int) (w : World) : Calls Tryz.prog 13 #[.pointer none, .int .i64 key] w fun e w' => e = .returned (.tuple #[.int .i64 0, .bool false]) ∧ w = w' := by
  go_enter Tryz.func13, Tryz.ntmps13
  go_wp2_with fail
  go_ret2
  exact ⟨rfl, rfl⟩
theorem noHas (key : Int) (w : World) : Calls Tryz.prog 14 #[.pointer none, .int .i64 key] w fun e w' => e = .returned (.bool false) ∧ w = w' := by
  go_enter Tryz.func14, Tryz.ntmps14
  go_wp2_with fail
  go_ret
  exact ⟨rfl, rfl⟩
theorem noLen (w : World) : Calls Tryz.prog 19 #[.pointer none] w fun e w' => e = .returned (.int .i64 0) ∧ w = w' := by
  go_enter Tryz.func19, Tryz.ntmps19
  go_wp2_with fail
  go_ret
  exact ⟨rfl, rfl⟩
theorem noCap (w : World) : Calls Tryz.prog 30 #[.pointer none] w fun e w' => e = .returned (.int .i64 0) ∧ w = w' := by
  go_enter Tryz.func30, Tryz.ntmps30
  go_wp2_with fail
  go_ret
  exact ⟨rfl, rfl⟩
theorem noKeys (w : World) : Calls Tryz.prog 15 #[.pointer none] w fun e w' => e = .returned (.slice none 0 0) ∧ w = w' := by
  go_enter Tryz.func15, Tryz.ntmps15
  go_wp2_with fail
  go_ret
  exact ⟨rfl, rfl⟩
theorem noRow (w : World) : Calls Tryz.prog 34 #[.pointer none] w fun e w' => e = .returned (.pointer none) ∧ w = w' := by
  go_enter Tryz.func34, Tryz.ntmps34
  go_wp2_with fail
  go_ret
  exact ⟨rfl, rfl⟩
theorem noClone (w : World) : Calls Tryz.prog 28 #[.pointer none] w fun e w' => e = .returned (.pointer none) ∧ w = w' := by
  go_enter Tryz.func28, Tryz.ntmps28
  go_wp2_with fail
  go_ret
  exact ⟨rfl, rfl⟩
theorem noInsert (key : Int) (w : World) : Calls Tryz.prog 18 #[.pointer none, .int .i64 key] w fun e w' => e = .returned (.tuple #[.agg #[.int .i64 0, .int .i64 0, .int .i64 0, .int .i64 0], .int .i64 2]) ∧ Fr Nil1 w w' := by
  have HFa := hid (show Fr Nil1 w (w.alloc (.cells #[.int .i64 0, .int .i64 0, .int .i64 0, .int .i64 0] 38)) from (Fr.refl _ _).alloc _)
  go_enter Tryz.func18, Tryz.ntmps18
  go_wp2_with fail
  refine bodyPost_ret (v := .tuple #[.agg #[.int .i64 0, .int .i64 0, .int .i64 0, .int .i64 0], .int .i64 2]) (by simp [results, Tryz.f18, go_sem]) rfl ?_
  exact ⟨rfl, HFa.out⟩
theorem noDelete (key : Int) (w : World) : Calls Tryz.prog 17 #[.pointer none, .int .i64 key] w fun e w' => e = .returned (.tuple #[.agg #[.int .i64 0, .int .i64 0, .int .i64 0, .int .i64 0], .int .i64 2]) ∧ Fr Nil1 w w' := by
  have HFa := hid (show Fr Nil1 w (w.alloc (.cells #[.int .i64 0, .int .i64 0, .int .i64 0, .int .i64 0] 38)) from (Fr.refl _ _).alloc _)
  go_enter Tryz.func17, Tryz.ntmps17
  go_wp2_with fail
  refine bodyPost_ret (v := .tuple #[.agg #[.int .i64 0, .int .i64 0, .int .i64 0, .int .i64 0], .int .i64 2]) (by simp [results, Tryz.f17, go_sem]) rfl ?_
  exact ⟨rfl, HFa.out⟩
section
variable {w0 w : World} {s p : Nat} {F : PF} {σ : List (Option Int)} {h : Nat} {evs : List Ev}
set_option maxRecDepth 100000 in
set_option maxHeartbeats 4000000 in
theorem setInsert_there (H : SetS w0 s p F σ h evs w) {key : Int} (hm : key ∈ its σ) :
    Calls Tryz.prog 18 #[.pointer (some ⟨s, 0, none⟩), .int .i64 key] w fun e w' => e = .returned (.tuple #[.agg #[.int .i64 0, .int .i64 0, .int .i64 0, .int .i64 0], .int .i64 15]) ∧ Fr Nil1 w w' := by
  have fa : Fr Nil1 w (w.alloc (.cells #[.int .i64 0, .int .i64 0, .int .i64 0, .int .i64 0] 38)) := (Fr.refl _ _).alloc _
  have HE := hid (setExact_any (H.new fa) key)
  have HNG := hid H.size
  have HFa := hid fa
  have HM := hid hm
  clear H hm fa
  go_enter Tryz.func18, Tryz.ntmps18
  go_wp2_with (go_at_call 38; refine HE.out.mono ?_; rintro e w2 ⟨r, rfl, H2⟩; obtain ⟨q, rfl, _, _⟩ := H2.out.1.at HM.out; have hb2 := (zer5 w).fr' H2.out.2 id; have HB2 := hid hb2; have e0 := hb2.cell 0; have e1 := hb2.cell 1; have e2 := hb2.cell 2; have e3 := hb2.cell 3; have ef := hb2.frozen; clear hb2)
  have hf := (((HB2.out.set 0 (.int .i64 0)).set 1 (.int .i64 0)).set 2 (.int .i64 0)).set 3 (.int .i64 0)
  have z0 := hf.cell 0
  have z1 := hf.cell 1
  have z2 := hf.cell 2
  have z3 := hf.cell 3
  refine bodyPost_ret (v := .tuple #[.agg #[.int .i64 0, .int .i64 0, .int .i64 0, .int .i64 0], .int .i64 15]) (by simp [results, Tryz.f18, go_sem, z0, z1, z2, z3]) rfl ?_
  exact ⟨rfl, ((HFa.out.trans H2.out.2).trans' (st5_fr w2 _ ⟨0, 0, 0, 0⟩ HNG.out) (fun j _ hj e => by have e' : j = w.heap.size := e; omega))⟩
set_option maxRecDepth 100000 in
set_option maxHeartbeats 4000000 in
theorem setDelete_none (H : SetS w0 s p F σ h evs w) {key : Int} (hm : key ∉ its σ) :
    Calls Tryz.prog 17 #[.pointer (some ⟨s, 0, none⟩), .int .i64 key] w fun e w' => e = .returned (.tuple #[.agg #[.int .i64 0, .int .i64 0, .int .i64 0, .int .i64 0], .int .i64 14]) ∧ Fr Nil1 w w' := by
  have fa : Fr Nil1 w (w.alloc (.cells #[.int .i64 0, .int .i64 0, .int .i64 0, .int .i64 0] 38)) := (Fr.refl _ _).alloc _
  have HE := hid (setExact_any (H.new fa) key)
  have HNG := hid H.size
  have HFa := hid fa
  have HM := hid hm
  clear H hm fa
  go_enter Tryz.func17, Tryz.ntmps17
  go_wp2_with (go_at_call 38; refine HE.out.mono ?_; rintro e w2 ⟨r, rfl, H2⟩; obtain rfl := H2.out.1.out HM.out; have hb2 := (zer5 w).fr' H2.out.2 id; have HB2 := hid hb2; have e0 := hb2.cell 0; have e1 := hb2.cell 1; have e2 := hb2.cell 2; have e3 := hb2.cell 3; have ef := hb2.frozen; clear hb2)
  have hf := (((HB2.out.set 0 (.int .i64 0)).set 1 (.int .i64 0)).set 2 (.int .i64 0)).set 3 (.int .i64 0)
  have z0 := hf.cell 0
  have z1 := hf.cell 1
  have z2 := hf.cell 2
  have z3 := hf.cell 3
  refine bodyPost_ret (v := .tuple #[.agg #[.int .i64 0, .int .i64 0, .int .i64 0, .int .i64 0], .int .i64 14]) (by simp [results, Tryz.f17, go_sem, z0, z1, z2, z3]) rfl ?_
  exact ⟨rfl, ((HFa.out.trans H2.out.2).trans' (st5_fr w2 _ ⟨0, 0, 0, 0⟩ HNG.out) (fun j _ hj e => by have e' : j = w.heap.size := e; omega))⟩
end
end Go.Proofs.YticlkdjiaoflgaaGreatDoor
