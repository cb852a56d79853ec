/- Law 16's made. -/
import Derived.Test.YtechphliifginaaGreatDoorBA
set_option linter.unusedVariables false
set_option linter.unusedSimpArgs false
namespace Go.Proofs.YtechphliifginaaGreatDoor
open Go.RowKit

theorem made16_many {A B : Option Addr} {n m c d : Nat} (h : 200 < n ∨ 200 < m) (w : World) : Calls Tryz.prog 61 #[.slice A n c, .slice B m d] w fun e w' => e = .returned (.tuple #[.pointer none, .pointer none]) ∧ w = w' := by
  by_cases h1 : 200 < n
  · have i1 : (200 : Int) < (n : Int) := by omega
    clear h
    go_enter Tryz.func61, Tryz.ntmps61
    go_wp2_with fail
    go_ret2
    exact ⟨rfl, rfl⟩
  · have i1 : ¬ (200 : Int) < (n : Int) := by omega
    have i2 : (200 : Int) < (m : Int) := by have := h.resolve_left h1; omega
    clear h h1
    go_enter Tryz.func61, Tryz.ntmps61
    go_wp2_with fail
    go_ret2
    exact ⟨rfl, rfl⟩
theorem made16_any {la lb : List Int} {u v : Value} {w : World} (hu : Rd w u (ints' la)) (hv : Rd w v (ints' lb)) (h1 : la.length ≤ 200) (h2 : lb.length ≤ 200) (hg : GW w) : Calls Tryz.prog 61 #[u, v] w fun e w' => ∃ s t : Nat, e = .returned (.tuple #[.pointer (some ⟨s, 0, none⟩), .pointer (some ⟨t, 0, none⟩)]) ∧ Hid (SS w s (srtL la) w' ∧ SS w t (srtL lb) w' ∧ Fr Nil1 w w') := by
  have HM1 := hid (bulkMake_any la (by omega) hu hg)
  have HM2 := hid (fun w' (hf : Fr Nil1 w w') => bulkMake_any lb (by omega) (hv.new hf) (hg.fr hf))
  obtain ⟨A, c, rfl, _, _⟩ := hu
  obtain ⟨B, d, rfl, _, _⟩ := hv
  rw [ints'_length] at HM1 HM2
  rw [ints'_length, ints'_length]
  have i1 : ¬ (200 : Int) < (la.length : Int) := by omega
  have i2 : ¬ (200 : Int) < (lb.length : Int) := by omega
  clear hg h1 h2
  go_enter Tryz.func61, Tryz.ntmps61
  go_wp2_with (first
    | (go_at_call 57; (with_reducible refine (HM2.out w1 H1.out.fr).mono ?_); rintro e w2 ⟨t, rfl, H2⟩)
    | (go_at_call 57; (with_reducible refine HM1.out.mono ?_); rintro e w1 ⟨s, rfl, H1⟩))
  go_ret2
  exact ⟨s, t, rfl, hid ⟨H1.out.new H2.out.fr, H2.out.base H1.out.fr, H1.out.fr.trans H2.out.fr⟩⟩
end Go.Proofs.YtechphliifginaaGreatDoor
