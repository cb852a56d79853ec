/- The document's answer for rank; law 15's awake. -/
import Derived.Test.YtmbkmojekpkfhaaGreatDoorHC
import Derived.Test.YtmbkmojekpkfhaaGreatDoorEF
import Derived.Deep.Cut
set_option linter.unusedVariables false
set_option linter.unusedSimpArgs false
namespace Go.Proofs.YtmbkmojekpkfhaaGreatDoor
open Go.RowKit

set_option maxHeartbeats 1000000 in
theorem ref15Rank_any (l : List Int) (hU : Up l) (hn : l.length ≤ 5000) (key : Int) {u : Value} {w : World} (hu : Rd w u (ints' l)) : Calls Tryz.prog 31 #[u, .int .i64 key] w fun e w' => e = .returned (.int .i64 (lessC l key : Nat)) ∧ w = w' := by
  obtain ⟨A, c, rfl, hb, hA⟩ := hu
  rw [ints'_length] at hb hA ⊢
  have HA := hid hA
  have HU := hid hU
  have HN := hid hn
  have HLe := hid (lessC_le l key)
  clear hA hU hb hn
  go_enter Tryz.func31, Tryz.ntmps31
  go_wp2_with fail
  go_loopw [5, 6] (fun n i wr => ∃ k : Nat, k ≤ l.length ∧ i = .int .i64 k ∧ n = .int .i64 ((min k (lessC l key) : Nat) : Int) ∧ w = wr) (fun _ i _ => (l.length - intOf i).toNat)
  case atStart => exact ⟨0, by omega, rfl, by simp, rfl⟩
  case round =>
    obtain ⟨k, hk, rfl, rfl, rfl⟩ := hrel
    by_cases hlt : k < l.length
    · have hltI : (k : Int) < l.length := by omega
      have hkb : (k : Int) < 5000 := by have := HN.out; omega
      obtain ⟨ad, rfl, hc⟩ := HA.out (by omega)
      have c1 := hc k _ (ints'_get l k hlt)
      have hiff := lessC_iff HU.out (key := key) (get_some hlt)
      have HLt := hid hlt
      clear hc hlt
      generalize l.getD k 0 = x at *
      by_cases hx : x < key
      · have hd : decide (x < key) = true := decide_eq_true hx
        have hm : min k (lessC l key) = k := by have := hiff.1 hx; omega
        have hm2 := hid (show min (k + 1) (lessC l key) = k + 1 by have := hiff.1 hx; omega)
        rw [hm]
        clear hx hiff hm
        go_wp2_with fail
        exact ⟨⟨k + 1, by have := HLt.out; omega, by go_num, by rw [hm2.out]; go_num, trivial⟩, by have := HLt.out; simp [intOf]; omega⟩
      · have hd : decide (x < key) = false := decide_eq_false hx
        have hm := hid (show min (k + 1) (lessC l key) = min k (lessC l key) by have := mt hiff.2 hx; omega)
        clear hx hiff
        generalize min k (lessC l key) = m at *
        go_wp2_with fail
        exact ⟨⟨k + 1, by have := HLt.out; omega, by go_num, by rw [hm.out], trivial⟩, by have := HLt.out; simp [intOf]; omega⟩
    · have hltI : ¬ (k : Int) < l.length := by omega
      have HM := hid (show min k (lessC l key) = lessC l key by have := HLe.out; omega)
      clear hk hlt
      rw [HM.out]
      go_wp2_with fail
      go_ret
      exact ⟨rfl, rfl⟩
theorem ref15Select_any (l : List Int) (n : Int) {u : Value} {w : World} (hu : Rd w u (ints' l)) : Calls Tryz.prog 30 #[u, .int .i64 n] w fun e w' => e = .returned (if n < 0 ∨ (l.length : Int) ≤ n then .tuple #[.int .i64 0, .int .i64 14] else .tuple #[.int .i64 (l.getD n.toNat 0), .int .i64 0]) ∧ w = w' := by
  obtain ⟨A, c, rfl, hb, hA⟩ := hu
  rw [ints'_length] at hb hA ⊢
  by_cases h1 : n < 0
  · rw [if_pos (.inl h1)]
    have d1 : decide (n < 0) = true := decide_eq_true h1
    clear hA hb
    go_enter Tryz.func30, Tryz.ntmps30
    go_wp2_with fail
    go_ret2
    exact ⟨rfl, rfl⟩
  · have d1 : decide (n < 0) = false := decide_eq_false h1
    by_cases h2 : (l.length : Int) ≤ n
    · rw [if_pos (.inr h2)]
      have d2 : decide ((l.length : Int) ≤ n) = true := decide_eq_true h2
      clear hA hb
      go_enter Tryz.func30, Tryz.ntmps30
      go_wp2_with fail
      go_ret2
      exact ⟨rfl, rfl⟩
    · rw [if_neg (by omega)]
      have d2 : decide ((l.length : Int) ≤ n) = false := decide_eq_false h2
      obtain ⟨ad, rfl, hc⟩ := hA (by omega)
      have c1 := hc n.toNat _ (ints'_get l n.toNat (by omega))
      have h3 : n < (l.length : Int) := by omega
      have h4 : 0 ≤ n := by omega
      clear hA hb hc h1 h2
      generalize l.getD n.toNat 0 = z at *
      go_enter Tryz.func30, Tryz.ntmps30
      go_wp2_with fail
      go_ret2
      exact ⟨rfl, rfl⟩
theorem rd_four (w : World) (a b c d : Int) : Rd (w.alloc (.cells #[.int .i64 a, .int .i64 b, .int .i64 c, .int .i64 d] 3)) (.slice (some ⟨w.heap.size, 0, none⟩) 4 4) (ints' [a, b, c, d]) := by
  refine ⟨_, 4, rfl, by rw [ints'_length]; show 4 ≤ _; omega, fun _ => ⟨_, rfl, fun j u hj => ?_⟩⟩
  rw [add_flat, Nat.zero_add]
  exact ((Has.new w [.int .i64 a, .int .i64 b, .int .i64 c, .int .i64 d] 3).cell j).trans hj
set_option maxRecDepth 100000 in
set_option maxHeartbeats 4000000 in
theorem awake15_any (w : World) (hg : GW w) : Calls Tryz.prog 27 #[] w fun e w' => e = .returned (.bool true) ∧ Fr Nil1 w w' := by
  have HF0 := hid (show Fr Nil1 w (w.alloc (.cells #[.int .i64 2, .int .i64 4, .int .i64 6, .int .i64 8] 3)) from (Fr.refl _ _).alloc _)
  have HOf := hid (SS.of [2, 4, 6, 8] (by unfold Up; decide) (by decide) (rd_four w 2 4 6 8) (hg.fr HF0.out))
  clear hg
  go_enter Tryz.func27, Tryz.ntmps27
  go_upto_region 5 with (first
    | (go_at_call 28; (with_reducible refine (rankOf_any H1.out).mono ?_); rintro e w2 ⟨X, rfl, σ, h, H2⟩)
    | (go_at_call 68; (with_reducible refine HOf.out.mono ?_); rintro e w1 ⟨s, rfl, H1⟩))
  have h3 := rankSelect_ok H2.out.1 3 (by rw [H2.out.2.1]; decide)
  have h4 := rankMedian_ok H2.out.1 (by rw [H2.out.2.1]; decide)
  have h5 := rankQuantile_ok H2.out.1 2 3 (by unfold quanBad; omega) (by rw [H2.out.2.1]; decide)
  rw [H2.out.2.1] at h3 h4 h5
  have H3 := hid (show Calls Tryz.prog 29 #[.pointer (some ⟨X.x, 0, none⟩), .int .i64 3] w2 fun e w' => e = .returned (.tuple #[.int .i64 8, .int .i64 0]) ∧ w2 = w' from h3)
  have H4 := hid (show Calls Tryz.prog 34 #[.pointer (some ⟨X.x, 0, none⟩)] w2 fun e w' => e = .returned (.tuple #[.int .i64 4, .int .i64 0]) ∧ w2 = w' from h4)
  have H5 := hid (show Calls Tryz.prog 35 #[.pointer (some ⟨X.x, 0, none⟩), .int .i64 2, .int .i64 3] w2 fun e w' => e = .returned (.tuple #[.int .i64 6, .int .i64 0]) ∧ w2 = w' from h5)
  have HRk := hid (fun (key : Int) (w' : World) (hf : Fr Nil1 w2 w') => show Calls Tryz.prog 32 #[.pointer (some ⟨X.x, 0, none⟩), .int .i64 key] w' fun e w'' => e = .returned (.int .i64 (lessC [2, 4, 6, 8] key : Nat)) ∧ Fr Nil1 w' w'' from by
    have := rankRank_any (H2.out.1.new hf) key
    rwa [H2.out.2.1] at this)
  have HBt := hid (fun (w' : World) (hf : Fr Nil1 w2 w') => show Calls Tryz.prog 33 #[.pointer (some ⟨X.x, 0, none⟩), .int .i64 3, .int .i64 7] w' fun e w'' => e = .returned (.int .i64 2) ∧ Fr Nil1 w' w'' from by
    have := rankBetween_any (H2.out.1.new hf) 3 7
    rw [H2.out.2.1] at this
    exact this)
  have H6 := hid (show Calls Tryz.prog 32 #[.pointer (some ⟨X.x, 0, none⟩), .int .i64 6] w2 fun e w'' => e = .returned (.int .i64 2) ∧ Fr Nil1 w2 w'' from HRk.out 6 w2 (Fr.refl _ _))
  have H7 := hid (fun (w' : World) (hf : Fr Nil1 w2 w') => show Calls Tryz.prog 32 #[.pointer (some ⟨X.x, 0, none⟩), .int .i64 9] w' fun e w'' => e = .returned (.int .i64 4) ∧ Fr Nil1 w' w'' from HRk.out 9 w' hf)
  have HF2 := hid ((HF0.out.trans H1.out.fr).trans H2.out.2.2.1)
  clear h3 h4 h5 HRk
  go_wp2_with (first
    | (go_at_call 29; (with_reducible refine H3.out.mono ?_); rintro e w3 ⟨rfl, rfl⟩)
    | (go_at_call 34; (with_reducible refine H4.out.mono ?_); rintro e w3 ⟨rfl, rfl⟩)
    | (go_at_call 35; (with_reducible refine H5.out.mono ?_); rintro e w3 ⟨rfl, rfl⟩)
    | (go_at_call 33; (with_reducible refine (HBt.out w7 (HF6.out.trans HF7.out)).mono ?_); rintro e w8 ⟨rfl, h8⟩; have HF8 := hid h8; clear h8)
    | (go_at_call 32; (with_reducible refine (H7.out w6 HF6.out).mono ?_); rintro e w7 ⟨rfl, h7⟩; have HF7 := hid h7; clear h7)
    | (go_at_call 32; (with_reducible refine H6.out.mono ?_); rintro e w6 ⟨rfl, h6⟩; have HF6 := hid h6; clear h6))
  go_ret
  exact ⟨rfl, HF2.out.trans ((HF6.out.trans HF7.out).trans HF8.out)⟩
end Go.Proofs.YtmbkmojekpkfhaaGreatDoor
