/- Law 16's awake; made. -/
import Derived.Test.YtechphliifginaaGreatDoorBW
import Derived.Test.YtechphliifginaaGreatDoorC5
set_option linter.unusedVariables false
set_option linter.unusedSimpArgs false
namespace Go.Proofs.YtechphliifginaaGreatDoor
open Go.RowKit

theorem rd_lit (w : World) (l : List Int) (h : l.length ≤ 100) : Rd (w.alloc (.cells (ints' l).toArray 3)) (.slice (some ⟨w.heap.size, 0, none⟩) l.length l.length) (ints' l) :=
  ⟨some ⟨w.heap.size, 0, none⟩, l.length, by rw [ints'_length], by rw [ints'_length]; omega, fun _ => ⟨_, rfl, fun j u hu => by rw [add_flat, Nat.zero_add]; exact ((Has.new w (ints' l) 3).cell j).trans hu⟩⟩
theorem srt_a : srtL [5, 1, 3, 1] = [1, 3, 5] := up_ext (srt_spec _).1 (by unfold Up; decide) (fun y => by
  rw [(srt_spec _).2.1]
  simp only [List.mem_cons, List.not_mem_nil, or_false]
  omega)
theorem srt_b : srtL [4, 3] = [3, 4] := up_ext (srt_spec _).1 (by unfold Up; decide) (fun y => by
  rw [(srt_spec _).2.1]
  simp only [List.mem_cons, List.not_mem_nil, or_false]
  omega)
set_option maxRecDepth 100000 in
set_option maxHeartbeats 4000000 in
theorem awake16_any (w : World) (hg : GW w) : Calls Tryz.prog 56 #[] w fun e w' => e = .returned (.bool true) ∧ Fr Nil1 w w' := by
  have HG := hid (fun w' (hf : Fr Nil1 w w') => hg.fr hf)
  have HF0 := hid (show Fr Nil1 w (w.alloc (.cells #[.int .i64 5, .int .i64 1, .int .i64 3, .int .i64 1] 3)) from (Fr.refl _ _).alloc _)
  have HM1 := hid (show Calls Tryz.prog 57 #[.slice (some ⟨w.heap.size, 0, none⟩) 4 4] (w.alloc (.cells #[.int .i64 5, .int .i64 1, .int .i64 3, .int .i64 1] 3)) fun e w' => ∃ s : Nat, e = .returned (.tuple #[.pointer (some ⟨s, 0, none⟩), .int .i64 0]) ∧ Hid (SS (w.alloc (.cells #[.int .i64 5, .int .i64 1, .int .i64 3, .int .i64 1] 3)) s [1, 3, 5] w') from by
    have := bulkMake_any [5, 1, 3, 1] (by decide) (rd_lit w [5, 1, 3, 1] (by decide)) (HG.out _ HF0.out)
    rw [srt_a] at this
    exact this)
  have HM2 := hid (fun w1 (hf : Fr Nil1 w w1) => show Calls Tryz.prog 57 #[.slice (some ⟨w1.heap.size, 0, none⟩) 2 2] (w1.alloc (.cells #[.int .i64 4, .int .i64 3] 3)) fun e w' => ∃ s : Nat, e = .returned (.tuple #[.pointer (some ⟨s, 0, none⟩), .int .i64 0]) ∧ Hid (SS (w1.alloc (.cells #[.int .i64 4, .int .i64 3] 3)) s [3, 4] w') from by
    have := bulkMake_any [4, 3] (by decide) (rd_lit w1 [4, 3] (by decide)) (HG.out _ (hf.alloc _))
    rw [srt_b] at this
    exact this)
  have P1 := hid (show pickL tkU [1, 3, 5] [3, 4] = [1, 3, 4, 5] by decide)
  have P2 := hid (show pickL tkB [1, 3, 5] [3, 4] = [3] by decide)
  have P3 := hid (show pickL tkM [1, 3, 5] [3, 4] = [1, 5] by decide)
  clear hg
  go_enter Tryz.func56, Tryz.ntmps56
  go_upto_region 5 with (first
    | (go_at_call 57; (with_reducible refine (HM2.out w1 (HF0.out.trans H1.out.fr)).mono ?_); rintro e w2 ⟨s2, rfl, H2⟩)
    | (go_at_call 57; (with_reducible refine HM1.out.mono ?_); rintro e w1 ⟨s1, rfl, H1⟩))
  have HF2 := hid (HF0.out.trans (H1.out.fr.trans (((Fr.refl Nil1 w1).alloc (.cells #[.int .i64 4, .int .i64 3] 3)).trans H2.out.fr)))
  have HA := hid (H1.out.new (((Fr.refl Nil1 w1).alloc (.cells #[.int .i64 4, .int .i64 3] 3)).trans H2.out.fr))
  have HB := hid H2.out
  have HU := hid (bulkUnion_any HA.out HB.out (by decide) (HG.out _ HF2.out))
  have HBo := hid (fun w' (hf : Fr Nil1 w2 w') => bulkBoth_any (HA.out.new hf) (HB.out.new hf) (by decide) (HG.out _ (HF2.out.trans hf)))
  have HMi := hid (fun w' (hf : Fr Nil1 w2 w') => bulkMinus_any (HA.out.new hf) (HB.out.new hf) (by decide) (HG.out _ (HF2.out.trans hf)))
  rw [P1.out] at HU
  rw [P2.out] at HBo
  rw [P3.out] at HMi
  go_upto_region 10 with (first
    | (go_at_call 62; (with_reducible refine (HMi.out w4 (H3.out.fr.trans H4.out.fr)).mono ?_); rintro e w5 ⟨s5, rfl, H5⟩)
    | (go_at_call 59; (with_reducible refine (HBo.out w3 H3.out.fr).mono ?_); rintro e w4 ⟨s4, rfl, H4⟩)
    | (go_at_call 58; (with_reducible refine HU.out.mono ?_); rintro e w3 ⟨s3, rfl, H3⟩))
  have HF5 := hid (HF2.out.trans (H3.out.fr.trans (H4.out.fr.trans H5.out.fr)))
  have HN := hid (setNew_any w5 (HG.out _ HF5.out))
  go_upto_region 11 with (first
    | (go_at_call 66; (with_reducible refine HSt.out.mono ?_); rintro e w7 ⟨rfl, h7⟩; have HF7 := hid h7; clear h7)
    | (go_at_call 64; (with_reducible refine HN.out.mono ?_); rintro e w6 ⟨s6, p, F, rfl, H6⟩; have HSt := hid (show Calls Tryz.prog 66 #[.pointer (some ⟨s6, 0, none⟩), .slice (some ⟨w6.heap.size, 0, none⟩) 3 3] (w6.alloc (.cells #[.int .i64 2, .int .i64 9, .int .i64 2] 3)) fun e w' => e = .returned (.tuple #[.int .i64 2, .int .i64 0]) ∧ Fr Nil1 w5 w' from by
        have := bulkSteps_small (w0 := w5) (s := s6) (b := w6.heap.size) (ks := []) (w := w6.alloc (.cells #[.int .i64 2, .int .i64 9, .int .i64 2] 3)) ⟨⟨p, F, _, [], H6.out.1.new ((Fr.refl _ _).alloc _), by decide, fun hk => by have := H6.out.1.lt _ hk; omega⟩, by simp⟩ [2, 9, 2] (by decide) (Has.new w6 (ints' [2, 9, 2]) 3)
        rw [show newC [] [2, 9, 2] = 2 by decide] at this
        exact this)))
  go_wp2_with (first
    | (go_at_call 60; refine (ints16_lit w12 _ [1, 5] [1, 5] 2 H12.out.1 rfl rfl (by decide)).mono ?_; rintro e w13 ⟨rfl, h13⟩; have HF13 := hid (HF11.out.trans (H12.out.2.trans h13)); clear h13)
    | (go_at_call 51; (with_reducible refine (H5.out.new (HF7.out.trans HF11.out)).keys.mono ?_); rintro e w12 ⟨A12, c12, rfl, H12⟩)
    | (go_at_call 60; refine (ints16_lit w10 _ [3] [3] 1 H10.out.1 rfl rfl (by decide)).mono ?_; rintro e w11 ⟨rfl, h11⟩; have HF11 := hid (HF9.out.trans (H10.out.2.trans h11)); clear h11)
    | (go_at_call 51; (with_reducible refine (H4.out.new (H5.out.fr.trans (HF7.out.trans HF9.out))).keys.mono ?_); rintro e w10 ⟨A10, c10, rfl, H10⟩)
    | (go_at_call 60; refine (ints16_lit w8 _ [1, 3, 4, 5] [1, 3, 4, 5] 4 H8.out.1 rfl rfl (by decide)).mono ?_; rintro e w9 ⟨rfl, h9⟩; have HF9 := hid (H8.out.2.trans h9); clear h9)
    | (go_at_call 51; (with_reducible refine (H3.out.new (H4.out.fr.trans (H5.out.fr.trans HF7.out))).keys.mono ?_); rintro e w8 ⟨A8, c8, rfl, H8⟩))
  go_ret
  exact ⟨rfl, HF5.out.trans (HF7.out.trans HF13.out)⟩
end Go.Proofs.YtechphliifginaaGreatDoor
