/- The document's answer for rank; law 15's awake. -/
import Derived.Test.YtechphliifginaaGreatDoorHX
import Derived.Test.YtechphliifginaaGreatDoorGX
import Derived.Deep.Cut
set_option linter.unusedVariables false
set_option linter.unusedSimpArgs false
namespace Go.Proofs.YtechphliifginaaGreatDoor
open Go.RowKit

theorem rd_four (w : World) (a b c d : Int) : Rd (w.alloc (.cells #[.int .i64 a, .int .i64 b, .int .i64 c, .int .i64 d] 3)) (.slice (some ⟨w.heap.size, 0, none⟩) 4 4) (ints' [a, b, c, d]) := by
  refine ⟨_, 4, rfl, by rw [ints'_length]; show 4 ≤ _; omega, fun _ => ⟨_, rfl, fun j u hj => ?_⟩⟩
  rw [add_flat, Nat.zero_add]
  exact ((Has.new w [.int .i64 a, .int .i64 b, .int .i64 c, .int .i64 d] 3).cell j).trans hj
set_option maxRecDepth 100000 in
set_option maxHeartbeats 4000000 in
theorem awake15_any (w : World) (hg : GW w) : Calls Tryz.prog 52 #[] w fun e w' => e = .returned (.bool true) ∧ Fr Nil1 w w' := by
  have HF0 := hid (show Fr Nil1 w (w.alloc (.cells #[.int .i64 2, .int .i64 4, .int .i64 6, .int .i64 8] 3)) from (Fr.refl _ _).alloc _)
  have HOf := hid (SS.of [2, 4, 6, 8] (by unfold Up; decide) (by decide) (rd_four w 2 4 6 8) (hg.fr HF0.out))
  clear hg
  go_enter Tryz.func52, Tryz.ntmps52
  go_upto_region 5 with (first
    | (go_at_call 53; (with_reducible refine (rankOf_any H1.out).mono ?_); rintro e w2 ⟨X, rfl, σ, h, H2⟩)
    | (go_at_call 94; (with_reducible refine HOf.out.mono ?_); rintro e w1 ⟨s, rfl, H1⟩))
  have h3 := rankSelect_ok H2.out.1 3 (by rw [H2.out.2.1]; decide)
  have h4 := rankMedian_ok H2.out.1 (by rw [H2.out.2.1]; decide)
  have h5 := rankQuantile_ok H2.out.1 2 3 (by unfold quanBad; omega) (by rw [H2.out.2.1]; decide)
  rw [H2.out.2.1] at h3 h4 h5
  have H3 := hid (show Calls Tryz.prog 113 #[.pointer (some ⟨X.x, 0, none⟩), .int .i64 3] w2 fun e w' => e = .returned (.tuple #[.int .i64 8, .int .i64 0]) ∧ w2 = w' from h3)
  have H4 := hid (show Calls Tryz.prog 114 #[.pointer (some ⟨X.x, 0, none⟩)] w2 fun e w' => e = .returned (.tuple #[.int .i64 4, .int .i64 0]) ∧ w2 = w' from h4)
  have H5 := hid (show Calls Tryz.prog 115 #[.pointer (some ⟨X.x, 0, none⟩), .int .i64 2, .int .i64 3] w2 fun e w' => e = .returned (.tuple #[.int .i64 6, .int .i64 0]) ∧ w2 = w' from h5)
  have HRk := hid (fun (key : Int) (w' : World) (hf : Fr Nil1 w2 w') => show Calls Tryz.prog 55 #[.pointer (some ⟨X.x, 0, none⟩), .int .i64 key] w' fun e w'' => e = .returned (.int .i64 (lessC [2, 4, 6, 8] key : Nat)) ∧ Fr Nil1 w' w'' from by
    have := rankRank_any (H2.out.1.new hf) key
    rwa [H2.out.2.1] at this)
  have HBt := hid (fun (w' : World) (hf : Fr Nil1 w2 w') => show Calls Tryz.prog 54 #[.pointer (some ⟨X.x, 0, none⟩), .int .i64 3, .int .i64 7] w' fun e w'' => e = .returned (.int .i64 2) ∧ Fr Nil1 w' w'' from by
    have := rankBetween_any (H2.out.1.new hf) 3 7
    rw [H2.out.2.1] at this
    exact this)
  have H6 := hid (show Calls Tryz.prog 55 #[.pointer (some ⟨X.x, 0, none⟩), .int .i64 6] w2 fun e w'' => e = .returned (.int .i64 2) ∧ Fr Nil1 w2 w'' from HRk.out 6 w2 (Fr.refl _ _))
  have H7 := hid (fun (w' : World) (hf : Fr Nil1 w2 w') => show Calls Tryz.prog 55 #[.pointer (some ⟨X.x, 0, none⟩), .int .i64 9] w' fun e w'' => e = .returned (.int .i64 4) ∧ Fr Nil1 w' w'' from HRk.out 9 w' hf)
  have HF2 := hid ((HF0.out.trans H1.out.fr).trans H2.out.2.2.1)
  clear h3 h4 h5 HRk
  go_wp2_with (first
    | (go_at_call 113; (with_reducible refine H3.out.mono ?_); rintro e w3 ⟨rfl, rfl⟩)
    | (go_at_call 114; (with_reducible refine H4.out.mono ?_); rintro e w3 ⟨rfl, rfl⟩)
    | (go_at_call 115; (with_reducible refine H5.out.mono ?_); rintro e w3 ⟨rfl, rfl⟩)
    | (go_at_call 54; (with_reducible refine (HBt.out w7 (HF6.out.trans HF7.out)).mono ?_); rintro e w8 ⟨rfl, h8⟩; have HF8 := hid h8; clear h8)
    | (go_at_call 55; (with_reducible refine (H7.out w6 HF6.out).mono ?_); rintro e w7 ⟨rfl, h7⟩; have HF7 := hid h7; clear h7)
    | (go_at_call 55; (with_reducible refine H6.out.mono ?_); rintro e w6 ⟨rfl, h6⟩; have HF6 := hid h6; clear h6))
  go_ret
  exact ⟨rfl, HF2.out.trans ((HF6.out.trans HF7.out).trans HF8.out)⟩
end Go.Proofs.YtechphliifginaaGreatDoor
