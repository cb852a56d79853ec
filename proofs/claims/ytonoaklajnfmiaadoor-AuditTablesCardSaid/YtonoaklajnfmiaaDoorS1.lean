/- spread: right, check, ahead: what a spread may be, and how many come ahead of a segment. -/
import Derived.Test.YtonoaklajnfmiaaDoorK4
import Derived.Test.YtonoaklajnfmiaaDoorB4
set_option linter.unusedVariables false
set_option linter.unusedSimpArgs false
namespace Go.Proofs.YtonoaklajnfmiaaDoor
open Go.RowKit

theorem spBetween_any (n lo hi : Int) (w : World) : Calls Tryd.prog 74 #[.int .i64 n, .int .i64 lo, .int .i64 hi] w fun e w' => e = .returned (.bool (decide (lo ≤ n ∧ n ≤ hi))) ∧ w = w' := by
  by_cases h1 : lo ≤ n
  · by_cases h2 : n ≤ hi
    · have e : decide (lo ≤ n ∧ n ≤ hi) = true := decide_eq_true ⟨h1, h2⟩
      rw [e]
      clear e
      go_enter Tryd.func74, Tryd.ntmps74
      go_wp2_with fail
      go_ret
      exact ⟨rfl, rfl⟩
    · have e : decide (lo ≤ n ∧ n ≤ hi) = false := decide_eq_false (fun h => h2 h.2)
      rw [e]
      clear e
      go_enter Tryd.func74, Tryd.ntmps74
      go_wp2_with fail
      go_ret
      exact ⟨rfl, rfl⟩
  · have e : decide (lo ≤ n ∧ n ≤ hi) = false := decide_eq_false (fun h => h1 h.1)
    rw [e]
    clear e
    go_enter Tryd.func74, Tryd.ntmps74
    go_wp2_with fail
    go_ret
    exact ⟨rfl, rfl⟩

/-- May a spread be? -/
def spOk (n segs : Int) : Bool := decide (1 ≤ segs ∧ segs ≤ 512) && decide (0 ≤ n ∧ n ≤ 8 * segs)
theorem spOk_iff (n segs : Int) : spOk n segs = true ↔ (1 ≤ segs ∧ segs ≤ 512) ∧ 0 ≤ n ∧ n ≤ 8 * segs := by simp [spOk]
theorem spRight_any (n segs : Int) (w : World) : Calls Tryd.prog 73 #[.int .i64 n, .int .i64 segs] w fun e w' => e = .returned (.bool (spOk n segs)) ∧ w = w' := by
  have HB := hid (fun a b c w => spBetween_any a b c w)
  by_cases h1 : 1 ≤ segs ∧ segs ≤ 512
  · have e : decide (1 ≤ segs ∧ segs ≤ 512) = true := decide_eq_true h1
    have E1 := hid e
    have q : IntKind.i64.wrap (8 * segs) = 8 * segs := IntWalk.i64_in _ (by omega)
    have ES := hid (show spOk n segs = decide (0 ≤ n ∧ n ≤ 8 * segs) by unfold spOk; rw [e]; rfl)
    have hb := HB.out segs 1 512
    rw [e] at hb
    have HB1 := hid hb
    have HB2 := hid (HB.out n 0 (8 * segs))
    generalize decide (0 ≤ n ∧ n ≤ 8 * segs) = b2 at *
    clear e HB hb
    go_enter Tryd.func73, Tryd.ntmps73
    go_wp2_with (first | (go_at_call 74; first | (refine (HB1.out _).mono ?_; clear HB1; rintro e w1 ⟨rfl, rfl⟩) | (refine (HB2.out _).mono ?_; rintro e w1 ⟨rfl, rfl⟩)))
    go_ret
    rw [ES.out]
    exact ⟨rfl, rfl⟩
  · have e : decide (1 ≤ segs ∧ segs ≤ 512) = false := decide_eq_false h1
    have ES := hid (show spOk n segs = false by unfold spOk; rw [e]; rfl)
    have hb := HB.out segs 1 512
    rw [e] at hb
    have HB1 := hid hb
    clear e HB hb h1
    go_enter Tryd.func73, Tryd.ntmps73
    go_wp2_with (first | (go_at_call 74; (refine (HB1.out _).mono ?_; clear HB1; rintro e w1 ⟨rfl, rfl⟩)))
    go_ret
    rw [ES.out]
    exact ⟨rfl, rfl⟩

/-- What is wrong with a spread, and where it is. -/
def spCheck (n first segs : Int) : Int := if spOk n segs = false then 1 else if 0 ≤ first ∧ first ≤ 512 - segs then 0 else 10
theorem spCheck_any (n first segs : Int) (w : World) : Calls Tryd.prog 60 #[.int .i64 n, .int .i64 first, .int .i64 segs] w fun e w' => e = .returned (.int .i64 (spCheck n first segs)) ∧ w = w' := by
  have HR := hid (fun w => spRight_any n segs w)
  cases h : spOk n segs
  · rw [h] at HR
    have ES := hid (show spCheck n first segs = 1 by unfold spCheck; rw [if_pos h])
    clear h
    go_enter Tryd.func60, Tryd.ntmps60
    go_wp2_with (first | (go_at_call 73; refine (HR.out _).mono ?_; rintro e w1 ⟨rfl, rfl⟩))
    go_ret
    rw [ES.out]
    exact ⟨rfl, rfl⟩
  · rw [h] at HR
    have h1 := (spOk_iff n segs).1 h
    have HB := hid (fun w => spBetween_any first 0 (512 - segs) w)
    have q : IntKind.i64.wrap (512 - segs) = 512 - segs := IntWalk.i64_in _ (by omega)
    by_cases h2 : 0 ≤ first ∧ first ≤ 512 - segs
    · have ES := hid (show spCheck n first segs = 0 by unfold spCheck; rw [if_neg (by rw [h]; simp), if_pos h2])
      rw [decide_eq_true h2] at HB
      clear h h2
      go_enter Tryd.func60, Tryd.ntmps60
      go_wp2_with (first | (go_at_call 73; refine (HR.out _).mono ?_; rintro e w1 ⟨rfl, rfl⟩) | (go_at_call 74; refine (HB.out _).mono ?_; rintro e w1 ⟨rfl, rfl⟩))
      go_ret
      rw [ES.out]
      exact ⟨rfl, rfl⟩
    · have ES := hid (show spCheck n first segs = 10 by unfold spCheck; rw [if_neg (by rw [h]; simp), if_neg h2])
      rw [decide_eq_false h2] at HB
      clear h h2
      go_enter Tryd.func60, Tryd.ntmps60
      go_wp2_with (first | (go_at_call 73; refine (HR.out _).mono ?_; rintro e w1 ⟨rfl, rfl⟩) | (go_at_call 74; refine (HB.out _).mono ?_; rintro e w1 ⟨rfl, rfl⟩))
      go_ret
      rw [ES.out]
      exact ⟨rfl, rfl⟩

theorem spAhead_any (n segs : Int) (w : World) : Calls Tryd.prog 76 #[.int .i64 n, .int .i64 segs] w fun e w' =>
    e = .returned (.func (.func 82) #[] #[.pointer (some ⟨w.heap.size, 0, none⟩), .pointer (some ⟨w.heap.size + 1, 0, none⟩)]) ∧ (w.alloc (.cells #[.int .i64 n] 3)).alloc (.cells #[.int .i64 segs] 3) = w' := by
  go_enter Tryd.func76, Tryd.ntmps76
  go_wp2_with fail
  go_ret
  exact ⟨rfl, rfl⟩
theorem spAhead1_any (n segs k : Nat) (h0 : 0 < segs) (hs : segs ≤ 512) (hn : n ≤ 4096) (hk : k ≤ 512) (a b : Nat) (w : World) (ha : Has w a [.int .i64 n] 3) (hb : Has w b [.int .i64 segs] 3) :
    Calls Tryd.prog 82 #[.int .i64 k, .pointer (some ⟨a, 0, none⟩), .pointer (some ⟨b, 0, none⟩)] w fun e w' => e = .returned (.int .i64 (ahd n segs k : Nat)) ∧ w = w' := by
  obtain ⟨a0, af⟩ := ha.one
  obtain ⟨b0, bf⟩ := hb.one
  clear ha hb af bf
  have hm : k * n ≤ 512 * 4096 := Nat.mul_le_mul hk hn
  have hm' : ((k * n : Nat) : Int) = (k : Int) * n := Int.natCast_mul k n
  have q1 : IntKind.i64.wrap ((k : Int) * n) = (k : Int) * n := IntWalk.i64_in _ (by rw [← hm']; omega)
  have hd : k * n / segs ≤ k * n := Nat.div_le_self _ _
  have q2 : (0 : Int) ≤ (k : Int) * n := by rw [← hm']; omega
  have q3 : ((segs : Int) == 0) = false := by rw [beq_eq_false_iff_ne]; omega
  have hq : ((k : Int) * n) / segs = (ahd n segs k : Nat) := by unfold ahd; rw [← hm']; exact (Int.natCast_ediv _ _).symm
  have HQ := hid hq
  have q4 : (k : Int) * n ≤ 2097152 := by rw [← hm']; omega
  clear hq hm' hm hd
  obtain ⟨z, hz⟩ : ∃ z : Int, (k : Int) * n = z := ⟨_, rfl⟩
  have q5 : (0 : Int) < segs := by omega
  have q6 : 0 ≤ z / segs := Int.ediv_nonneg (by omega) (by omega)
  have q7 : z / segs ≤ z := Int.ediv_le_self _ (by omega)
  rw [hz] at q1 q2 HQ q4
  go_enter Tryd.func82, Tryd.ntmps82
  rw [← HQ.out]
  go_wp2_with fail
  go_ret
  exact ⟨rfl, rfl⟩
end Go.Proofs.YtonoaklajnfmiaaDoor
