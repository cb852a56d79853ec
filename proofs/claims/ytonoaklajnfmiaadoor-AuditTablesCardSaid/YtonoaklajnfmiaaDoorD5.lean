/- Law 22's examples are as they are told; the law AuditTurns, as it is called. -/
import Derived.Test.YtonoaklajnfmiaaDoorD1
import Derived.Test.YtonoaklajnfmiaaDoorD3
import Derived.Test.YtonoaklajnfmiaaDoorD4
set_option linter.unusedVariables false
set_option linter.unusedSimpArgs false
namespace Go.Proofs.YtonoaklajnfmiaaDoor
open Go.RowKit

/-- A literal of slots and numbers. -/
theorem RdAt.lit1 {w : World} {g : Nat} {a b : Int} {T : TypeId} (h : Has w g [.int .i64 a, .int .i64 b] T) : RdAt w (.slice (some ⟨g, 0, none⟩) 1 1) [(a, b)] := by
  refine ⟨some ⟨g, 0, none⟩, 1, rfl, fun _ => ⟨g, 0, rfl, fun j p hp => ?_⟩⟩
  match j with
  | 0 => simp at hp; subst hp; exact ⟨h.cell 0, h.cell 1⟩
  | j + 1 => simp at hp
theorem RdAt.lit2 {w : World} {g : Nat} {a b c d : Int} {T : TypeId} (h : Has w g [.int .i64 a, .int .i64 b, .int .i64 c, .int .i64 d] T) : RdAt w (.slice (some ⟨g, 0, none⟩) 2 2) [(a, b), (c, d)] := by
  refine ⟨some ⟨g, 0, none⟩, 2, rfl, fun _ => ⟨g, 0, rfl, fun j p hp => ?_⟩⟩
  match j with
  | 0 => simp at hp; subst hp; exact ⟨h.cell 0, h.cell 1⟩
  | 1 => simp at hp; subst hp; exact ⟨h.cell 2, h.cell 3⟩
  | j + 2 => simp at hp
theorem awk1 : rowE (mkS (nSlots 31) [(0, 1), (9, 2)]) [1, 1, 0, 0] = 0 := by decide +kernel
theorem awk2 : rowE (mkS (nSlots 31) [(0, 1), (9, 2)]) [2, 0, 0, 0] = 20 := by decide +kernel
theorem awk3 : turnedL (mkS (nSlots 31) [(0, 1), (9, 2)]) (mkS (nSlots 31) [(0, 1)]) = [9] := by decide +kernel

set_option maxHeartbeats 2000000 in
theorem awake_any (w : World) (hg : GW w) : Calls Tryd.prog 7 #[] w fun e w' => e = .returned (.bool true) ∧ Fr Nil1 w w' := by
  have HG := hid hg
  clear hg
  go_enter Tryd.func7, Tryd.ntmps7
  go_wp2_with fail
  have f1 : Fr Nil1 w (w.alloc (.cells #[.int .i64 0, .int .i64 1, .int .i64 9, .int .i64 2] 61)) := (Fr.refl _ _).alloc _
  refine (made_any 31 _ [(0, 1), (9, 2)] _ (by decide) (by decide) (by decide) (RdAt.lit2 (Has.new w [.int .i64 0, .int .i64 1, .int .i64 9, .int .i64 2] 61)) (HG.out.fr f1)).mono ?_
  rintro e w1 ⟨f, g, rfl, hS, hR, hF, hk, hgg⟩
  have HS := hid hS
  have HF := hid (f1.trans hF)
  clear hS hR hF hk hgg f1
  go_wp2_with fail
  have f2 : Fr Nil1 w1 (w1.alloc (.cells #[.int .i64 0, .int .i64 1] 61)) := (Fr.refl _ _).alloc _
  refine (made_any 31 _ [(0, 1)] _ (by decide) (by decide) (by decide) (RdAt.lit1 (Has.new w1 [.int .i64 0, .int .i64 1] 61)) (HS.out.g.fr f2)).mono ?_
  rintro e w2 ⟨f', g', rfl, hS', hR', hF', hk', hgg'⟩
  have HS1 := hid (HS.out.new (f2.trans hF'))
  have HS2 := hid hS'
  have HF1 := hid (HF.out.trans (f2.trans hF'))
  clear hS' hR' hF' hk' hgg' f2
  go_wp2_with fail
  refine (turned_any HS1.out HS2.out (by rw [mkS_length, mkS_length])).mono ?_
  rintro e w3 ⟨v, rfl, hv, hf⟩
  rw [awk3] at hv
  have HV := hid hv
  have HF2 := hid (HF1.out.trans hf)
  have HS3 := hid (HS1.out.new hf)
  clear hv hf
  go_wp2_with fail
  have f4 : Fr Nil1 w3 (w3.alloc (.cells #[.int .i64 1, .int .i64 1, .int .i64 0, .int .i64 0] 3)) := (Fr.refl _ _).alloc _
  refine (auditRow_any (HS3.out.new f4) _ [1, 1, 0, 0] (Has.rd (Has.new w3 (ints' [1, 1, 0, 0]) 3) (by decide))).mono ?_
  rw [awk1]
  rintro e w4 ⟨rfl, hf4⟩
  have HF4 := hid (f4.trans hf4)
  clear f4 hf4
  go_wp2_with fail
  have f5 : Fr Nil1 w4 (w4.alloc (.cells #[.int .i64 2, .int .i64 0, .int .i64 0, .int .i64 0] 3)) := (Fr.refl _ _).alloc _
  refine (auditRow_any (HS3.out.new (HF4.out.trans f5)) _ [2, 0, 0, 0] (Has.rd (Has.new w4 (ints' [2, 0, 0, 0]) 3) (by decide))).mono ?_
  rw [awk2]
  rintro e w5 ⟨rfl, hf5⟩
  have HF5 := hid (HF4.out.trans (f5.trans hf5))
  clear f5 hf5
  go_wp2_with fail
  have f6 : Fr Nil1 w5 (w5.alloc (.cells #[.int .i64 9] 3)) := (Fr.refl _ _).alloc _
  refine (ints_any [9] [9] _ _ _ ((HV.out.rd (by decide)).new (HF5.out.trans f6)) (Has.rd (Has.new w5 (ints' [9]) 3) (by decide))).mono ?_
  rintro e w6 ⟨rfl, hf6⟩
  have HF6 := hid (HF2.out.trans (HF5.out.trans (f6.trans hf6)))
  clear f6 hf6
  go_wp2_with fail
  go_ret
  exact ⟨rfl, HF6.out⟩
end Go.Proofs.YtonoaklajnfmiaaDoor
