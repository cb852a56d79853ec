/- scan.Most; Take where nothing is taken. -/
import Derived.Test.YtechphliifginaaGreatDoorCK
set_option linter.unusedVariables false
set_option linter.unusedSimpArgs false
namespace Go.Proofs.YtechphliifginaaGreatDoor
open Go.RowKit

def tk4 (w : World) (n : Int) : World := ((((w.alloc (.cells #[.int .i64 n] 3)).alloc (.cells #[.slice none 0 0] 30)).alloc (.cells #[.int .i64 0] 3)).alloc (.cells #[.int .i64 0] 36))
theorem tk4_is (w : World) (n : Int) : Has (tk4 w n) w.heap.size [.int .i64 n] 3 ∧ Has (tk4 w n) (w.heap.size + 1) [.slice none 0 0] 30 ∧ Has (tk4 w n) (w.heap.size + 1 + 1) [.int .i64 0] 3 ∧ Has (tk4 w n) (w.heap.size + 1 + 1 + 1) [.int .i64 0] 36 ∧ Fr Nil1 w (tk4 w n) := by
  unfold tk4
  refine ⟨?_, ?_, ?_, ?_, ((((Fr.refl _ _).alloc _).alloc _).alloc _).alloc _⟩
  · exact ((((Has.new w _ _).alloc _).alloc _).alloc _)
  · have := (((Has.new (w.alloc (.cells #[.int .i64 n] 3)) [.slice none 0 0] 30).alloc (.cells #[.int .i64 0] 3)).alloc (.cells #[.int .i64 0] 36))
    simp only [World.size_alloc] at this
    exact this
  · have := ((Has.new ((w.alloc (.cells #[.int .i64 n] 3)).alloc (.cells #[.slice none 0 0] 30)) [.int .i64 0] 3).alloc (.cells #[.int .i64 0] 36))
    simp only [World.size_alloc] at this
    exact this
  · have := Has.new (((w.alloc (.cells #[.int .i64 n] 3)).alloc (.cells #[.slice none 0 0] 30)).alloc (.cells #[.int .i64 0] 3)) [.int .i64 0] 36
    simp only [World.size_alloc] at this
    exact this
/-- Behind the stores of what is refused. -/
theorem tk4_end {w : World} (hG : NG ≤ w.heap.size) (n e : Int) : let W := ((((tk4 w n).setCell ⟨w.heap.size + 1, 0, none⟩ (.slice none 0 0)).setCell ⟨w.heap.size + 1 + 1, 0, none⟩ (.int .i64 0)).setCell ⟨w.heap.size + 1 + 1 + 1, 0, none⟩ (.int .i64 e))
    Fr Nil1 w W ∧ W.cell? ⟨w.heap.size + 1, 0, none⟩ = some (.slice none 0 0) ∧ W.cell? ⟨w.heap.size + 1 + 1, 0, none⟩ = some (.int .i64 0) ∧ W.cell? ⟨w.heap.size + 1 + 1 + 1, 0, none⟩ = some (.int .i64 e) := by
  obtain ⟨h0, h1, h2, h3, h4⟩ := tk4_is w n
  intro W
  refine ⟨((h4.setNew ⟨w.heap.size + 1, 0, none⟩ _ hG (by show w.heap.size ≤ w.heap.size + 1; omega)).setNew ⟨w.heap.size + 1 + 1, 0, none⟩ _ hG (by show w.heap.size ≤ w.heap.size + 1 + 1; omega)).setNew ⟨w.heap.size + 1 + 1 + 1, 0, none⟩ _ hG (by show w.heap.size ≤ w.heap.size + 1 + 1 + 1; omega), ?_, ?_, ?_⟩
  · exact (((h1.set 0 (.slice none 0 0)).other (p := ⟨w.heap.size + 1 + 1, 0, none⟩) (.int .i64 0) (by show w.heap.size + 1 ≠ w.heap.size + 1 + 1; omega)).other (p := ⟨w.heap.size + 1 + 1 + 1, 0, none⟩) (.int .i64 e) (by show w.heap.size + 1 ≠ w.heap.size + 1 + 1 + 1; omega)).cell 0
  · exact (((h2.other (p := ⟨w.heap.size + 1, 0, none⟩) (.slice none 0 0) (by show w.heap.size + 1 + 1 ≠ w.heap.size + 1; omega)).set 0 (.int .i64 0)).other (p := ⟨w.heap.size + 1 + 1 + 1, 0, none⟩) (.int .i64 e) (by show w.heap.size + 1 + 1 ≠ w.heap.size + 1 + 1 + 1; omega)).cell 0
  · exact (((h3.other (p := ⟨w.heap.size + 1, 0, none⟩) (.slice none 0 0) (by show w.heap.size + 1 + 1 + 1 ≠ w.heap.size + 1; omega)).other (p := ⟨w.heap.size + 1 + 1, 0, none⟩) (.int .i64 0) (by show w.heap.size + 1 + 1 + 1 ≠ w.heap.size + 1 + 1; omega)).set 0 (.int .i64 e)).cell 0
set_option maxRecDepth 100000 in
theorem scanTake_neg (s : Nat) (lo n : Int) (hn : n < 0) {w : World} (hG : NG ≤ w.heap.size) : Calls Tryz.prog 35 #[.pointer (some ⟨s, 0, none⟩), .int .i64 lo, .int .i64 n] w fun e w' => e = .returned (.tuple #[.slice none 0 0, .int .i64 0, .int .i64 10]) ∧ Fr Nil1 w w' := by
  have HT := hid (tk4_is w n)
  have HE := hid (tk4_end hG n 10)
  obtain ⟨c0, f0⟩ := HT.out.1.one
  obtain ⟨c1, f1⟩ := HT.out.2.1.one
  obtain ⟨c2, f2⟩ := HT.out.2.2.1.one
  obtain ⟨c3, f3⟩ := HT.out.2.2.2.1.one
  obtain ⟨W4, hW4⟩ : ∃ W4, tk4 w n = W4 := ⟨_, rfl⟩
  rw [hW4] at c0 f0 c1 f1 c2 f2 c3 f3 HE
  unfold tk4 at hW4
  clear hG HT
  go_enter Tryz.func35, Tryz.ntmps35
  go_wp2_with fail
  obtain ⟨g0, g1, g2, g3⟩ := HE.out
  exact bodyPost_ret (v := .tuple #[.slice none 0 0, .int .i64 0, .int .i64 10]) (by simp [results, Tryz.f35, go_sem, g1, g2, g3]) rfl ⟨rfl, g0⟩
set_option maxRecDepth 100000 in
theorem scanTake_nil (lo n : Int) {w : World} (hG : NG ≤ w.heap.size) : Calls Tryz.prog 35 #[.pointer none, .int .i64 lo, .int .i64 n] w fun e w' => e = .returned (.tuple #[.slice none 0 0, .int .i64 0, .int .i64 2]) ∧ Fr Nil1 w w' := by
  have HT := hid (tk4_is w n)
  have HE := hid (tk4_end hG n 2)
  obtain ⟨c0, f0⟩ := HT.out.1.one
  obtain ⟨c1, f1⟩ := HT.out.2.1.one
  obtain ⟨c2, f2⟩ := HT.out.2.2.1.one
  obtain ⟨c3, f3⟩ := HT.out.2.2.2.1.one
  obtain ⟨W4, hW4⟩ : ∃ W4, tk4 w n = W4 := ⟨_, rfl⟩
  rw [hW4] at c0 f0 c1 f1 c2 f2 c3 f3 HE
  unfold tk4 at hW4
  clear hG HT
  go_enter Tryz.func35, Tryz.ntmps35
  go_wp2_with fail
  obtain ⟨g0, g1, g2, g3⟩ := HE.out
  exact bodyPost_ret (v := .tuple #[.slice none 0 0, .int .i64 0, .int .i64 2]) (by simp [results, Tryz.f35, go_sem, g1, g2, g3]) rfl ⟨rfl, g0⟩
theorem mayB_is {n : Int} (h : mayB n = true) : ∃ k : Nat, 2 ≤ k ∧ k ≤ 9 ∧ n = (8 * 2 ^ k : Nat) := by
  unfold mayB mayN at h
  simp only [Bool.and_eq_true, Bool.or_eq_true, decide_eq_true_eq, beq_iff_eq] at h
  obtain ⟨h0, ((((((h | h) | h) | h) | h) | h) | h) | h⟩ := h
  · exact ⟨2, by omega, by omega, by omega⟩
  · exact ⟨3, by omega, by omega, by omega⟩
  · exact ⟨4, by omega, by omega, by omega⟩
  · exact ⟨5, by omega, by omega, by omega⟩
  · exact ⟨6, by omega, by omega, by omega⟩
  · exact ⟨7, by omega, by omega, by omega⟩
  · exact ⟨8, by omega, by omega, by omega⟩
  · exact ⟨9, by omega, by omega, by omega⟩
def mostN (n : Int) (h : Nat) : Int := if n = 0 then 0 else if h = 2 then 4 else min n (2 ^ h : Nat)
theorem scanMost_bad (n sl : Int) (h : n < 0 ∨ mayB sl = false) (w : World) : Calls Tryz.prog 31 #[.int .i64 n, .int .i64 sl] w fun e w' => e = .returned (.tuple #[.int .i64 0, .int .i64 10]) ∧ w = w' := by
  have M : ∃ a b : Int, (n < 0 ∨ b = 10) ∧ Hid (∀ w, Calls Tryz.prog 92 #[.int .i64 sl] w fun e w' => e = .returned (.tuple #[.int .i64 a, .int .i64 b]) ∧ w = w') := by
    cases hm : mayB sl with
    | false => exact ⟨0, 10, .inr rfl, hid (fun w => levelSegs_bad sl w hm)⟩
    | true =>
      obtain ⟨k, h2, h9, rfl⟩ := mayB_is hm
      exact ⟨_, 0, .inl (h.resolve_right (by rw [hm]; simp)), hid (fun w => levelSegs_ok k h2 h9 w)⟩
  obtain ⟨a, b, hb, M⟩ := M
  clear h
  by_cases hn : n < 0
  · clear hb
    go_enter Tryz.func31, Tryz.ntmps31
    go_wp2_with (go_at_call 92; refine (M.out _).mono ?_; rintro e w1 ⟨rfl, rfl⟩)
    go_ret2
    exact ⟨rfl, rfl⟩
  · obtain rfl : b = 10 := hb.resolve_left hn
    clear hb
    go_enter Tryz.func31, Tryz.ntmps31
    go_wp2_with (go_at_call 92; refine (M.out _).mono ?_; rintro e w1 ⟨rfl, rfl⟩)
    go_ret2
    exact ⟨rfl, rfl⟩
theorem scanMost_ok (n : Int) (h : Nat) (hn : 0 ≤ n) (h2 : 2 ≤ h) (h9 : h ≤ 9) (w : World) : Calls Tryz.prog 31 #[.int .i64 n, .int .i64 (8 * 2 ^ h : Nat)] w fun e w' => e = .returned (.tuple #[.int .i64 (mostN n h), .int .i64 0]) ∧ w = w' := by
  have M := hid (fun w => levelSegs_ok h h2 h9 w)
  have hp : (2 ^ h : Nat) = 4 ↔ h = 2 := by
    have : h = 2 ∨ h = 3 ∨ h = 4 ∨ h = 5 ∨ h = 6 ∨ h = 7 ∨ h = 8 ∨ h = 9 := by omega
    rcases this with rfl | rfl | rfl | rfl | rfl | rfl | rfl | rfl <;> simp
  have hz := p2_le h9
  obtain ⟨Z, hZ⟩ : ∃ Z : Nat, 2 ^ h = Z := ⟨_, rfl⟩
  have hm : mostN n h = if n = 0 then 0 else if Z = 4 then 4 else min n (Z : Int) := by
    unfold mostN
    rw [← hZ]
    simp only [hp]
  rw [hm]
  rw [hZ] at M hz ⊢
  clear hp hm hZ
  obtain ⟨S, hS⟩ : ∃ S : Int, ((8 * Z : Nat) : Int) = S := ⟨_, rfl⟩
  obtain ⟨Y, hY⟩ : ∃ Y : Int, (Z : Int) = Y := ⟨_, rfl⟩
  rw [hS, hY] at M
  rw [hS]
  by_cases h0 : n = 0
  · rw [if_pos h0]
    have hn1 : ¬ n < 0 := by omega
    clear hS hY
    go_enter Tryz.func31, Tryz.ntmps31
    go_wp2_with (go_at_call 92; refine (M.out _).mono ?_; rintro e w1 ⟨rfl, rfl⟩)
    go_ret2
    exact ⟨rfl, rfl⟩
  · rw [if_neg h0]
    by_cases h4 : Z = 4
    · rw [if_pos h4]
      have hs : S = 32 := by omega
      have hy : Y = 4 := by omega
      subst hs hy
      clear hS hY
      go_enter Tryz.func31, Tryz.ntmps31
      go_wp2_with (go_at_call 92; refine (M.out _).mono ?_; rintro e w1 ⟨rfl, rfl⟩)
      go_ret2
      exact ⟨rfl, rfl⟩
    · rw [if_neg h4]
      have hs : ¬ S = 32 := by omega
      rw [hY]
      clear hS hY h4
      go_enter Tryz.func31, Tryz.ntmps31
      go_wp2_with (first
        | (go_at_call 92; refine (M.out _).mono ?_; rintro e w1 ⟨rfl, rfl⟩))
      go_ret2
      exact ⟨rfl, rfl⟩
end Go.Proofs.YtechphliifginaaGreatDoor
