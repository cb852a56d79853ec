/- Law 14's awake. -/
import Derived.Test.YtechphliifginaaGreatDoorCM
set_option linter.unusedVariables false
set_option linter.unusedSimpArgs false
namespace Go.Proofs.YtechphliifginaaGreatDoor
open Go.RowKit

theorem rd_five (w : World) (a b c d e : Int) : Rd (w.alloc (.cells #[.int .i64 a, .int .i64 b, .int .i64 c, .int .i64 d, .int .i64 e] 3)) (.slice (some ⟨w.heap.size, 0, none⟩) 5 5) (ints' [a, b, c, d, e]) :=
  ⟨some ⟨w.heap.size, 0, none⟩, 5, rfl, by simp [ints'], fun _ => ⟨_, rfl, fun j u hu => by rw [add_flat, Nat.zero_add]; exact ((Has.new w (ints' [a, b, c, d, e]) 3).cell j).trans hu⟩⟩
def aw5 : List (Option Int) := [some 1, none, none, none, none, none, none, none, some 2, none, none, none, none, none, none, none, some 3, none, none, none, none, none, none, none, some 4, none, none, none, some 5, none, none, none]
theorem aw5_laid : LaidR [1, 2, 3, 4, 5] 4 aw5 := ⟨by decide, by decide +kernel, by
  have : ∀ k, k < 32 → (onOf aw5 k = true ↔ (k : Int) ∈ plcL 5 0 4) := by decide +kernel
  exact fun k hk => this k (by omega)⟩
theorem aw5_take {ys : List (Nat × Int)} (h : TakS aw5 3 9 ys) : snds ys = [3, 4, 5] ∧ segL ys - segF ys + 1 = 2 := by
  have h1 : snds ys = [3, 4, 5] := h.1.trans (by decide +kernel)
  refine ⟨h1, ?_⟩
  have hl : ys.length = 3 := by have := congrArg List.length h1; rwa [snds_len] at this
  match ys, hl, h1, h with
  | [a, b, c], _, h1, h =>
    unfold snds at h1
    simp only [List.map_cons, List.map_nil, List.cons.injEq, and_true] at h1
    have ha := h.2 a (by simp)
    have hc := h.2 c (by simp)
    rw [h1.1] at ha
    rw [h1.2.2] at hc
    have k1 : ∀ q, q < 32 → aw5.getD q none = some 3 → q = 16 := by decide +kernel
    have k2 : ∀ q, q < 32 → aw5.getD q none = some 5 → q = 28 := by decide +kernel
    have e1 := k1 a.1 (getD_lt ha) ha
    have e2 := k2 c.1 (getD_lt hc) hc
    unfold segL segF
    simp [e1, e2]
set_option maxRecDepth 100000 in
set_option maxHeartbeats 4000000 in
theorem awake14_any (w : World) (hg : GW w) : Calls Tryz.prog 34 #[] w fun e w' => e = .returned (.bool true) ∧ Fr Nil1 w w' := by
  have HF0 := hid (show Fr Nil1 w (w.alloc (.cells #[.int .i64 1, .int .i64 2, .int .i64 3, .int .i64 4, .int .i64 5] 3)) from (Fr.refl _ _).alloc _)
  have HOf := hid (setOf_any [1, 2, 3, 4, 5] (by unfold Up; decide) (by decide) (rd_five w 1 2 3 4 5) (hg.fr HF0.out))
  have B1 := hid (show btwL [1, 2, 3, 4, 5] 2 4 = [2, 3] by decide)
  have B2 := hid (show (btwL [1, 2, 3, 4, 5] 2 4).reverse = [3, 2] by decide)
  have HM1 := hid (fun w => show Calls Tryz.prog 31 #[.int .i64 3, .int .i64 64] w fun e w' => e = .returned (.tuple #[.int .i64 3, .int .i64 0]) ∧ w = w' from by have := scanMost_ok 3 3 (by omega) (by omega) (by omega) w; simpa [mostN, show min (3 : Int) 8 = 3 from by decide] using this)
  have HM2 := hid (fun w => show Calls Tryz.prog 31 #[.int .i64 1, .int .i64 32] w fun e w' => e = .returned (.tuple #[.int .i64 4, .int .i64 0]) ∧ w = w' from by have := scanMost_ok 1 2 (by omega) (by omega) (by omega) w; simpa [mostN] using this)
  clear hg
  go_enter Tryz.func34, Tryz.ntmps34
  go_wp2_with (first
    | (go_at_call 35; (with_reducible refine (scanTake_at H0.out.1 3 9 (by omega)).mono ?_); rintro e w2 ⟨v2, ys, rfl, H2⟩; obtain ⟨k1, k2⟩ := aw5_take H2.out.2.1; rw [k2]; have KR := hid (show Rd w2 v2 (ints' [3, 4, 5]) from by rw [← k1]; exact RowI.rd (xs := snds ys) H2.out.1 (by rw [k1]; decide)); clear k1 k2)
    | (go_at_call 31; (with_reducible refine (HM1.out _).mono ?_); rintro e w3 ⟨rfl, rfl⟩)
    | (go_at_call 31; (with_reducible refine (HM2.out _).mono ?_); rintro e w3 ⟨rfl, rfl⟩)
    | (go_at_call 41; (with_reducible refine (up14_any (H1.out.new H2.out.2.2) 2 4).mono ?_); rintro e w4 ⟨v4, rfl, H4⟩; rw [B1.out] at H4)
    | (go_at_call 40; refine (ints14_lit w7 v2 [3, 4, 5] [3, 4, 5] 3 ((KR.out.new (H4.out.2.trans H5.out)).new (H6.out.2.trans H7.out)) rfl rfl (by decide)).mono ?_; rintro e w8 ⟨rfl, hf8⟩; have H8 := hid hf8; clear hf8)
    | (go_at_call 40; refine (ints14_lit w6 v6 [3, 2] [3, 2] 2 (H6.out.1.rd (by decide)) rfl rfl (by decide)).mono ?_; rintro e w7 ⟨rfl, hf7⟩; have H7 := hid hf7; clear hf7)
    | (go_at_call 42; (with_reducible refine (down14_any ((H1.out.new H2.out.2.2).new (H4.out.2.trans H5.out)) 2 4).mono ?_); rintro e w6 ⟨v6, rfl, H6⟩; rw [B2.out] at H6)
    | (go_at_call 40; refine (ints14_lit w4 v4 [2, 3] [2, 3] 2 (H4.out.1.rd (by decide)) rfl rfl (by decide)).mono ?_; rintro e w5 ⟨rfl, hf5⟩; have H5 := hid hf5; clear hf5)
    | (go_at_call 94; (with_reducible refine HOf.out.mono ?_); rintro e w1 ⟨s, p, F, τ, rfl, H0⟩; obtain rfl : τ = aw5 := H0.out.2.2.uniq aw5_laid; have H1 := hid (show SS _ s [1, 2, 3, 4, 5] w1 from ⟨⟨p, F, _, _, _, H0.out.1, by decide⟩, by unfold Up; decide, H0.out.2.1⟩)))
  go_ret
  exact ⟨rfl, (((HF0.out.trans H1.out.fr).trans H2.out.2.2).trans (H4.out.2.trans H5.out)).trans ((H6.out.2.trans H7.out).trans H8.out)⟩
end Go.Proofs.YtechphliifginaaGreatDoor
