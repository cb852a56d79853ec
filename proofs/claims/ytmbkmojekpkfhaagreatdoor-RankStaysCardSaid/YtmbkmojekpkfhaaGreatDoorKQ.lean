/- Quantiles, as one word; the document's answer. -/
import Derived.Test.YtmbkmojekpkfhaaGreatDoorKA
set_option linter.unusedVariables false
set_option linter.unusedSimpArgs false
namespace Go.Proofs.YtmbkmojekpkfhaaGreatDoor
open Go.RowKit

open Classical in
/-- What a quantile is: the key, the error. -/
noncomputable def quanV (ks : List Int) (n parts : Int) : Int × Int := if quanBad n parts then (0, 1) else if ks = [] then (0, 14) else (ks.getD (quanI ks.length n parts) 0, 0)
theorem quanV_bad {ks : List Int} {n parts : Int} (h : quanBad n parts) : quanV ks n parts = (0, 1) := by unfold quanV; rw [if_pos h]
theorem quanV_none {ks : List Int} {n parts : Int} (h : ¬ quanBad n parts) (he : ks = []) : quanV ks n parts = (0, 14) := by unfold quanV; rw [if_neg h, if_pos he]
theorem quanV_ok {ks : List Int} {n parts : Int} (h : ¬ quanBad n parts) (he : ks ≠ []) : quanV ks n parts = (ks.getD (quanI ks.length n parts) 0, 0) := by unfold quanV; rw [if_neg h, if_neg he]
section
variable {w0 w : World} {s h : Nat} {X : IxF} {σ : List (Option Int)} {ks : List Int}
theorem RkS.quantile (H : RkS w0 s X σ h ks w) (n parts : Int) : Calls Tryz.prog 35 #[.pointer (some ⟨X.x, 0, none⟩), .int .i64 n, .int .i64 parts] w fun e w' => e = .returned (.tuple #[.int .i64 (quanV ks n parts).1, .int .i64 (quanV ks n parts).2]) ∧ w = w' := by
  by_cases hb : quanBad n parts
  · rw [quanV_bad hb]; exact rankQuantile_bad n parts hb w
  · by_cases he : ks = []
    · rw [quanV_none hb he]; exact rankQuantile_none H.ix n parts hb (by rw [H.eq]; exact he)
    · rw [quanV_ok hb he]
      have := rankQuantile_ok H.ix n parts hb (by rw [H.eq]; exact List.length_pos_iff.2 he)
      rwa [H.eq] at this
theorem RkS.medianNone (H : RkS w0 s X σ h ks w) (he : ks = []) : Calls Tryz.prog 34 #[.pointer (some ⟨X.x, 0, none⟩)] w fun e w' => e = .returned (.tuple #[.int .i64 0, .int .i64 14]) ∧ w = w' :=
  rankMedian_none H.ix (by rw [H.eq]; exact he)
theorem RkS.median (H : RkS w0 s X σ h ks w) (he : ks ≠ []) : Calls Tryz.prog 34 #[.pointer (some ⟨X.x, 0, none⟩)] w fun e w' => e = .returned (.tuple #[.int .i64 (ks.getD ((ks.length - 1) / 2) 0), .int .i64 0]) ∧ w = w' := by
  have := rankMedian_ok H.ix (by rw [H.eq]; exact List.length_pos_iff.2 he)
  rwa [H.eq] at this
end
set_option maxRecDepth 100000 in
set_option maxHeartbeats 1000000 in
theorem ref15Quantile_any (l : List Int) (hn : l.length ≤ 5000) (n parts : Int) {u : Value} {w : World} (hu : Rd w u (ints' l)) : Calls Tryz.prog 36 #[u, .int .i64 n, .int .i64 parts] w fun e w' => e = .returned (.tuple #[.int .i64 (quanV l n parts).1, .int .i64 (quanV l n parts).2]) ∧ w = w' := by
  obtain ⟨A, c, rfl, hb, hA⟩ := hu
  rw [ints'_length] at hb hA ⊢
  by_cases hbad : quanBad n parts
  · rw [quanV_bad hbad]
    have hex : decide (parts < 1) = true ∨ (decide (parts < 1) = false ∧ decide (1000000 < parts) = true) ∨ (decide (parts < 1) = false ∧ decide (1000000 < parts) = false ∧ decide (n < 0) = true) ∨ (decide (parts < 1) = false ∧ decide (1000000 < parts) = false ∧ decide (n < 0) = false ∧ decide (parts < n) = true) := by
      unfold quanBad at hbad
      by_cases h1 : parts < 1
      · exact .inl (decide_eq_true h1)
      by_cases h2 : 1000000 < parts
      · exact .inr (.inl ⟨decide_eq_false h1, decide_eq_true h2⟩)
      by_cases h3 : n < 0
      · exact .inr (.inr (.inl ⟨decide_eq_false h1, decide_eq_false h2, decide_eq_true h3⟩))
      · exact .inr (.inr (.inr ⟨decide_eq_false h1, decide_eq_false h2, decide_eq_false h3, decide_eq_true (by omega)⟩))
    clear hA hb hbad hn
    rcases hex with d1 | ⟨d1, d2⟩ | ⟨d1, d2, d3⟩ | ⟨d1, d2, d3, d4⟩
    all_goals (
      go_enter Tryz.func36, Tryz.ntmps36
      go_wp2_with fail
      go_ret2
      exact ⟨rfl, rfl⟩)
  · obtain ⟨d1, d2, d3, d4⟩ := notBad hbad
    by_cases he : l = []
    · rw [quanV_none hbad he]
      have hl0 : l.length = 0 := by rw [he]; rfl
      rw [hl0]
      clear hA hb hbad he hn hl0
      go_enter Tryz.func36, Tryz.ntmps36
      go_wp2_with fail
      go_ret2
      exact ⟨rfl, rfl⟩
    · rw [quanV_ok hbad he]
      have hpos : 0 < l.length := List.length_pos_iff.2 he
      obtain ⟨q1, q2⟩ := quanI_lt hbad hpos
      obtain ⟨ad, rfl, hc⟩ := hA (by omega)
      have c1 := hc _ _ (ints'_get l _ q1)
      unfold quanBad at hbad
      have h0 : 0 ≤ n * ((l.length : Int) - 1) := Int.mul_nonneg (by omega) (by omega)
      have h1 : n * ((l.length : Int) - 1) ≤ 1000000 * 5000 := Int.mul_le_mul (by omega) (by omega) (by omega) (by omega)
      have hpz : parts ≠ 0 := by omega
      generalize quanI l.length n parts = qq at *
      generalize l.getD qq 0 = res at *
      obtain ⟨N, hN⟩ : ∃ N, l.length = N := ⟨_, rfl⟩
      rw [hN] at q2 h0 h1 hn hpos q1 ⊢
      have hLz : ((N : Int) == 0) = false := by rw [beq_eq_false_iff_ne]; omega
      have hLy : (N : Int) ≠ 0 := by omega
      have hLx : N ≠ 0 := by omega
      have hqL : (qq : Int) < (N : Int) := by omega
      have e1 : IntKind.i64.wrap ((N : Int) - 1) = (N : Int) - 1 := IntWalk.i64_in _ (by omega)
      have e2 : IntKind.i64.wrap (n * ((N : Int) - 1)) = n * ((N : Int) - 1) := IntWalk.i64_in _ (by omega)
      have hdv : Int.tdiv (n * ((N : Int) - 1)) parts = (qq : Int) := by rw [q2]; exact Int.tdiv_eq_ediv_of_nonneg h0
      have hq0 : (0 : Int) ≤ (qq : Int) := by omega
      have e3 : IntKind.i64.wrap ((qq : Int)) = (qq : Int) := IntWalk.i64_in _ (by omega)
      have q2' := q2.symm
      clear hA hb hbad he hn q1 hpos hc q2 hN h0 h1
      go_enter Tryz.func36, Tryz.ntmps36
      go_wp2_with fail
      go_ret2
      exact ⟨rfl, rfl⟩
end Go.Proofs.YtmbkmojekpkfhaaGreatDoor
