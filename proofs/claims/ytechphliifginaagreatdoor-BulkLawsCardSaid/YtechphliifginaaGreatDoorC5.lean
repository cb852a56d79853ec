/- Whether two rows of numbers are one (a law's own function). -/
import Derived.Test.YtechphliifginaaGreatDoorProg
import Derived.Test.YtechphliifginaaGreatDoorGC
set_option linter.unusedVariables false
set_option linter.unusedSimpArgs false
namespace Go.Proofs.YtechphliifginaaGreatDoor
open Go.RowKit

set_option maxHeartbeats 1000000 in
theorem ints16_any (xs ys : List Int) (u v : Value) (w : World) (h1 : Rd w u (ints' xs)) (h2 : Rd w v (ints' ys)) :
    Calls Tryz.prog 60 #[u, v] w fun e w' => e = .returned (.bool (decide (xs = ys))) ∧ Fr Nil1 w w' := by
  obtain ⟨A, c, rfl, hb, hA⟩ := h1
  obtain ⟨B, d, rfl, hb', hB⟩ := h2
  rw [ints'_length] at hb hb' hA hB ⊢
  rw [ints'_length]
  have HA := hid hA
  have HB := hid hB
  clear hA hB
  by_cases hl : xs.length = ys.length
  · have HL := hid hl
    have hq : ((xs.length : Int) != (ys.length : Int)) = false := by rw [bne_eq_false_iff_eq]; omega
    have HH := hid (fun (n : Nat) (h : ∀ i, i < n → xs.getD i 0 = ys.getD i 0) (hn : n = xs.length) => show xs = ys by
      apply List.ext_getElem hl
      intro i a b
      have := h i (by omega)
      simpa [List.getD_eq_getElem?_getD, List.getElem?_eq_getElem a, List.getElem?_eq_getElem b] using this)
    clear hl
    go_enter Tryz.func60, Tryz.ntmps60
    go_wp2_with fail
    go_loopw [5] (fun i wr => ∃ (k m : Nat), k ≤ xs.length ∧ i = .int .i64 k ∧ wr = w.drewN m ∧ ∀ j, j < k → xs.getD j 0 = ys.getD j 0) (fun i _ => xs.length - (intOf i).toNat)
    case atStart => exact ⟨0, 0, by omega, rfl, rfl, fun j hj => by omega⟩
    case round =>
      obtain ⟨k, m, hk, rfl, rfl, heq⟩ := hrel
      have HE := hid heq
      clear heq
      by_cases hlt : k < xs.length
      · obtain ⟨ad, rfl, hc⟩ := HA.out (by omega)
        obtain ⟨ad', rfl, hc'⟩ := HB.out (by have := HL.out; omega)
        have c1 := hc k _ (ints'_get xs k hlt)
        have c2 := hc' k _ (ints'_get ys k (by have := HL.out; omega))
        have hlt2 : k < ys.length := by have := HL.out; omega
        clear hc hc'
        by_cases he : xs.getD k 0 = ys.getD k 0
        · have hb1 : (xs.getD k 0 != ys.getD k 0) = false := by rw [bne_eq_false_iff_eq]; exact he
          have HE2 := hid he
          clear he
          generalize xs.getD k 0 = x at c1 hb1
          generalize ys.getD k 0 = y at c2 hb1
          go_wp2_with fail
          go_quiet (fail)
          go_wp2_with fail
          refine ⟨⟨k + 1, m + nq, by omega, by go_num, rfl, fun j hj => ?_⟩, by simp [intOf]; omega⟩
          rcases Nat.lt_or_ge j k with g | g
          · exact HE.out j g
          · obtain rfl : j = k := by omega
            exact HE2.out
        · have hb1 : (xs.getD k 0 != ys.getD k 0) = true := by rw [bne_iff_ne]; exact he
          have HE2 := hid he
          have HF := hid (show decide (xs = ys) = false from decide_eq_false (fun e => HE2.out (by rw [e])))
          clear he
          generalize xs.getD k 0 = x at c1 hb1
          generalize ys.getD k 0 = y at c2 hb1
          go_wp2_with fail
          go_quiet (fail)
          go_wp2_with fail
          go_ret
          refine ⟨?_, ((Fr.refl _ w).drewN _).drewN _⟩
          rw [HF.out]
          rfl
      · have HF := hid (show decide (xs = ys) = true from decide_eq_true (HH.out k HE.out (by omega)))
        go_wp2_with fail
        go_ret
        refine ⟨?_, ((Fr.refl _ w).drewN _)⟩
        rw [HF.out]
        rfl
  · have hq : ((xs.length : Int) != (ys.length : Int)) = true := by rw [bne_iff_ne]; omega
    have HF := hid (show decide (xs = ys) = false from decide_eq_false (fun e => hl (by rw [e])))
    clear hl
    go_enter Tryz.func60, Tryz.ntmps60
    go_wp2_with fail
    go_ret
    refine ⟨?_, Fr.refl _ w⟩
    rw [HF.out]
    rfl
theorem ints16_eq (xs ys : List Int) (u v : Value) (w : World) (h1 : Rd w u (ints' xs)) (h2 : Rd w v (ints' ys)) (h : xs = ys) : Calls Tryz.prog 60 #[u, v] w fun e w' => e = .returned (.bool true) ∧ Fr Nil1 w w' := by
  have := ints16_any xs ys u v w h1 h2
  rwa [decide_eq_true h] at this
theorem ints16_lit (w : World) (v : Value) (xs ys : List Int) (n : Nat) (h1 : Rd w v (ints' xs)) (h : xs = ys) (hn : ys.length = n) (hl : n ≤ 100) : Calls Tryz.prog 60 #[v, .slice (some ⟨w.heap.size, 0, none⟩) n n] (w.alloc (.cells (ints' ys).toArray 3)) fun e w' => e = .returned (.bool true) ∧ Fr Nil1 w w' := by
  subst hn
  have hb : Rd (w.alloc (.cells (ints' ys).toArray 3)) (.slice (some ⟨w.heap.size, 0, none⟩) ys.length ys.length) (ints' ys) := ⟨some ⟨w.heap.size, 0, none⟩, ys.length, by rw [ints'_length], by rw [ints'_length]; omega, fun _ => ⟨_, rfl, fun j u hu => by rw [add_flat, Nat.zero_add]; exact ((Has.new w (ints' ys) 3).cell j).trans hu⟩⟩
  refine (ints16_eq xs ys v _ _ (h1.new ((Fr.refl _ _).alloc _)) hb h).mono ?_
  rintro e w' ⟨rfl, hf⟩
  exact ⟨rfl, ((Fr.refl Nil1 w).alloc _).trans hf⟩
end Go.Proofs.YtechphliifginaaGreatDoor
