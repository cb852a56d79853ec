/- The laws' does. -/
import Derived.Test.YtogjfaiidciedaaGreatDoorOK
import Derived.RegionTactic
import Derived.ChangeAlike
set_option linter.unusedVariables false
set_option linter.unusedSimpArgs false
namespace Go.Proofs.YtogjfaiidciedaaGreatDoor
open Go.RowKit Go.Maps
variable {w0 w : World} {L bl p : Nat} {tf : TF} {F : PF} {σ : List (Option Int)} {h : Nat} {τ : List (Option Int)}

set_option maxRecDepth 100000 in
set_option maxHeartbeats 1000000 in
theorem ordDoes0_any (H : OrdR w0 L bl p tf F σ h τ w) (hn : τ.length < 100000000) (y : Int) (h1 : -9223372036854775808 ≤ y) (h2 : y ≤ 9223372036854775807) :
    Calls Tryz.prog 18 #[.pointer (some ⟨L, 0, none⟩), .int .i64 0, .int .i64 y] w fun e w' => ∃ (x : Int) (S : St) (er : Int), e = .returned (.tuple #[.int .i64 x, .agg #[.int .i64 S.k, .int .i64 S.f, .int .i64 S.s, .int .i64 S.c], .int .i64 er]) ∧ Hid (DoW w0 w L bl p tf F σ τ 0 y x S er w') := by
  have fa : Fr Nil1 w (w.alloc (.cells #[.int .i64 0, .int .i64 0, .int .i64 0, .int .i64 0] 36)) := (Fr.refl _ _).alloc _
  have HFi := hid (ordFirst_any (H.new fa) hn y)
  have HH := hid H
  have HNG := hid (show NG ≤ w.heap.size from H.row.r.sl.g.size)
  clear H hn fa
  go_enter Tryz.func18, Tryz.ntmps18
  go_wp2_with (go_at_call 22; refine HFi.out.mono ?_; rintro e w2 ⟨x, S, er, rfl, H2⟩; have hb2 := (zer4 w).fr' (DoW.fr H2.out) HH.out.noBlk; have HB2 := hid hb2; have e0 := hb2.cell 0; have e1 := hb2.cell 1; have e2 := hb2.cell 2; have e3 := hb2.cell 3; have ef := hb2.frozen; clear hb2)
  have hf := (((HB2.out.set 0 (.int .i64 S.k)).set 1 (.int .i64 S.f)).set 2 (.int .i64 S.s)).set 3 (.int .i64 S.c)
  have z0 := hf.cell 0
  have z1 := hf.cell 1
  have z2 := hf.cell 2
  have z3 := hf.cell 3
  refine bodyPost_ret (v := .tuple #[.int .i64 x, .agg #[.int .i64 S.k, .int .i64 S.f, .int .i64 S.s, .int .i64 S.c], .int .i64 er]) (by simp [results, Tryz.f18, go_sem, z0, z1, z2, z3]) rfl ?_
  exact ⟨x, S, er, rfl, hid (DoW.out HH.out H2.out (st4_fr w2 _ S HNG.out))⟩
set_option maxRecDepth 100000 in
set_option maxHeartbeats 1000000 in
theorem ordDoes1_any (H : OrdR w0 L bl p tf F σ h τ w) (hn : τ.length < 100000000) (y : Int) (h1 : -9223372036854775808 ≤ y) (h2 : y ≤ 9223372036854775807) :
    Calls Tryz.prog 18 #[.pointer (some ⟨L, 0, none⟩), .int .i64 1, .int .i64 y] w fun e w' => ∃ (x : Int) (S : St) (er : Int), e = .returned (.tuple #[.int .i64 x, .agg #[.int .i64 S.k, .int .i64 S.f, .int .i64 S.s, .int .i64 S.c], .int .i64 er]) ∧ Hid (DoW w0 w L bl p tf F σ τ 1 y x S er w') := by
  have fa : Fr Nil1 w (w.alloc (.cells #[.int .i64 0, .int .i64 0, .int .i64 0, .int .i64 0] 36)) := (Fr.refl _ _).alloc _
  have HFi := hid (ordAfter_any (H.new fa) hn y h1 h2)
  have HH := hid H
  have HNG := hid (show NG ≤ w.heap.size from H.row.r.sl.g.size)
  clear H hn fa
  go_enter Tryz.func18, Tryz.ntmps18
  go_wp2_with (go_at_call 15; refine HFi.out.mono ?_; rintro e w2 ⟨x, S, er, rfl, H2⟩; have hb2 := (zer4 w).fr' (DoW.fr H2.out) HH.out.noBlk; have HB2 := hid hb2; have e0 := hb2.cell 0; have e1 := hb2.cell 1; have e2 := hb2.cell 2; have e3 := hb2.cell 3; have ef := hb2.frozen; clear hb2)
  have hf := (((HB2.out.set 0 (.int .i64 S.k)).set 1 (.int .i64 S.f)).set 2 (.int .i64 S.s)).set 3 (.int .i64 S.c)
  have z0 := hf.cell 0
  have z1 := hf.cell 1
  have z2 := hf.cell 2
  have z3 := hf.cell 3
  refine bodyPost_ret (v := .tuple #[.int .i64 x, .agg #[.int .i64 S.k, .int .i64 S.f, .int .i64 S.s, .int .i64 S.c], .int .i64 er]) (by simp [results, Tryz.f18, go_sem, z0, z1, z2, z3]) rfl ?_
  exact ⟨x, S, er, rfl, hid (DoW.out HH.out H2.out (st4_fr w2 _ S HNG.out))⟩
set_option maxRecDepth 100000 in
set_option maxHeartbeats 1000000 in
theorem ordDoes2_any (H : OrdR w0 L bl p tf F σ h τ w) (hn : τ.length < 100000000) (y : Int) (h1 : -9223372036854775808 ≤ y) (h2 : y ≤ 9223372036854775807) :
    Calls Tryz.prog 18 #[.pointer (some ⟨L, 0, none⟩), .int .i64 2, .int .i64 y] w fun e w' => ∃ (x : Int) (S : St) (er : Int), e = .returned (.tuple #[.int .i64 x, .agg #[.int .i64 S.k, .int .i64 S.f, .int .i64 S.s, .int .i64 S.c], .int .i64 er]) ∧ Hid (DoW w0 w L bl p tf F σ τ 2 y x S er w') := by
  have fa : Fr Nil1 w (w.alloc (.cells #[.int .i64 0, .int .i64 0, .int .i64 0, .int .i64 0] 36)) := (Fr.refl _ _).alloc _
  have HFi := hid (ordAhead_any (H.new fa) hn y h1 h2)
  have HH := hid H
  have HNG := hid (show NG ≤ w.heap.size from H.row.r.sl.g.size)
  clear H hn fa
  go_enter Tryz.func18, Tryz.ntmps18
  go_wp2_with (go_at_call 16; refine HFi.out.mono ?_; rintro e w2 ⟨x, S, er, rfl, H2⟩; have hb2 := (zer4 w).fr' (DoW.fr H2.out) HH.out.noBlk; have HB2 := hid hb2; have e0 := hb2.cell 0; have e1 := hb2.cell 1; have e2 := hb2.cell 2; have e3 := hb2.cell 3; have ef := hb2.frozen; clear hb2)
  have hf := (((HB2.out.set 0 (.int .i64 S.k)).set 1 (.int .i64 S.f)).set 2 (.int .i64 S.s)).set 3 (.int .i64 S.c)
  have z0 := hf.cell 0
  have z1 := hf.cell 1
  have z2 := hf.cell 2
  have z3 := hf.cell 3
  refine bodyPost_ret (v := .tuple #[.int .i64 x, .agg #[.int .i64 S.k, .int .i64 S.f, .int .i64 S.s, .int .i64 S.c], .int .i64 er]) (by simp [results, Tryz.f18, go_sem, z0, z1, z2, z3]) rfl ?_
  exact ⟨x, S, er, rfl, hid (DoW.out HH.out H2.out (st4_fr w2 _ S HNG.out))⟩
set_option maxRecDepth 100000 in
set_option maxHeartbeats 2000000 in
theorem ordDoesD_any (H : OrdR w0 L bl p tf F σ h τ w) (hn : τ.length < 100000000) (hT : (its σ).length ≤ 2560) (d y : Int) (hd : d ≠ 0 ∧ d ≠ 1 ∧ d ≠ 2) (h1 : -9223372036854775808 ≤ y) (h2 : y ≤ 9223372036854775807) :
    Calls Tryz.prog 18 #[.pointer (some ⟨L, 0, none⟩), .int .i64 d, .int .i64 y] w fun e w' => ∃ (x : Int) (S : St) (er : Int), e = .returned (.tuple #[.int .i64 x, .agg #[.int .i64 S.k, .int .i64 S.f, .int .i64 S.s, .int .i64 S.c], .int .i64 er]) ∧ Hid (DoW w0 w L bl p tf F σ τ d y x S er w') := by
  have fa : Fr Nil1 w (w.alloc (.cells #[.int .i64 0, .int .i64 0, .int .i64 0, .int .i64 0] 36)) := (Fr.refl _ _).alloc _
  have HFi := hid (ordDelete_any (H.new fa) hn hT d y hd h1 h2)
  have HH := hid H
  have HNG := hid (show NG ≤ w.heap.size from H.row.r.sl.g.size)
  have d0 : (d == 0) = false := beq_eq_false_iff_ne.2 hd.1
  have d1 : (d == 1) = false := beq_eq_false_iff_ne.2 hd.2.1
  have d2 : (d == 2) = false := beq_eq_false_iff_ne.2 hd.2.2
  clear H hn fa hT hd
  go_enter Tryz.func18, Tryz.ntmps18
  go_wp2_with (go_at_call 14; refine HFi.out.mono ?_; rintro e w2 ⟨S, er, rfl, H2⟩; have hb2 := (zer4 w).fr' (DoW.fr H2.out) HH.out.noBlk; have hb3 := hb2.alloc (.cells #[.int .i64 S.k, .int .i64 S.f, .int .i64 S.s, .int .i64 S.c] 36); have HB2 := hid hb3; have e0 := hb3.cell 0; have e1 := hb3.cell 1; have e2 := hb3.cell 2; have e3 := hb3.cell 3; have ef := hb3.frozen; clear hb2 hb3)
  go_region
  go_wp2_with fail
  have hf := ((((HB2.out.set 0 (.int .i64 S.k)).set 1 (.int .i64 S.f)).set 2 (.int .i64 S.s)).set 3 (.int .i64 S.c)).drew
  have z0 := hf.cell 0
  have z1 := hf.cell 1
  have z2 := hf.cell 2
  have z3 := hf.cell 3
  refine bodyPost_ret (v := .tuple #[.int .i64 0, .agg #[.int .i64 S.k, .int .i64 S.f, .int .i64 S.s, .int .i64 S.c], .int .i64 er]) (by simp [results, Tryz.f18, go_sem, z0, z1, z2, z3]) rfl ?_
  exact ⟨0, S, er, rfl, hid (DoW.out HH.out H2.out (((Fr.refl _ w2).alloc _).trans (st4_fr _ _ S HNG.out)).drew)⟩
theorem ordDoes_any (H : OrdR w0 L bl p tf F σ h τ w) (hn : τ.length < 100000000) (hT : (its σ).length ≤ 2560) (d y : Int) (h1 : -9223372036854775808 ≤ y) (h2 : y ≤ 9223372036854775807) :
    Calls Tryz.prog 18 #[.pointer (some ⟨L, 0, none⟩), .int .i64 d, .int .i64 y] w fun e w' => ∃ (x : Int) (S : St) (er : Int), e = .returned (.tuple #[.int .i64 x, .agg #[.int .i64 S.k, .int .i64 S.f, .int .i64 S.s, .int .i64 S.c], .int .i64 er]) ∧ Hid (DoW w0 w L bl p tf F σ τ d y x S er w') := by
  by_cases c0 : d = 0
  · subst c0; exact ordDoes0_any H hn y h1 h2
  · by_cases c1 : d = 1
    · subst c1; exact ordDoes1_any H hn y h1 h2
    · by_cases c2 : d = 2
      · subst c2; exact ordDoes2_any H hn y h1 h2
      · exact ordDoesD_any H hn hT d y ⟨c0, c1, c2⟩ h1 h2
end Go.Proofs.YtogjfaiidciedaaGreatDoor
