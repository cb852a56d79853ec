/- OrderBefore, as it is called: the walk. -/
import Derived.Test.YtogjfaiidciedaaGreatDoorOR
set_option linter.unusedVariables false
set_option linter.unusedSimpArgs false
namespace Go.Proofs.YtogjfaiidciedaaGreatDoor
open Go.RowKit Go.Maps

theorem quiet_eq2 {P : Program} {f : FuncId} {args : Array Value} {w : World} {a n : Nat} {v : Value}
    (h : Calls P f args (w.drewN (a + n)) fun e w' => e = .returned v ∧ w.drewN (a + n) = w') : Calls P f args (w.drewN (a + n)) fun e w'' => e = .returned v ∧ ∃ m, w'' = w.drewN (a + m) :=
  h.mono fun _ _ ⟨he, hm⟩ => ⟨he, n, hm.symm⟩
section
variable {w0 w : World} {L : Nat} {l : List Int} {n : Nat}
/-- Two labels, and who is ahead. -/
inductive TwoL (x y e f g : Int) (is : Bool) : Prop
  | both (he : e = 0) (hf : f = 0) (hg : g = 0) (hi : is = decide (x < y))
  | left (he : e = 17) (hg : g = 17) (hi : is = false)
  | right (he : e = 0) (hf : f = 17) (hg : g = 17) (hi : is = false)
theorem OS.two (H : OS w0 L l n w) (a b : Int) (a1 : -9223372036854775808 ≤ a) (a2 : a ≤ 9223372036854775807) (b1 : -9223372036854775808 ≤ b) (b2 : b ≤ 9223372036854775807) :
    ∃ (x y e f g : Int) (is : Bool), Hid (TwoL x y e f g is ∧ ∀ m,
      Calls Tryz.prog 13 #[.pointer (some ⟨L, 0, none⟩), .int .i64 a] (w.drewN m) (fun r w' => r = .returned (.tuple #[.int .i64 x, .int .i64 e]) ∧ w.drewN m = w') ∧
      Calls Tryz.prog 13 #[.pointer (some ⟨L, 0, none⟩), .int .i64 b] (w.drewN m) (fun r w' => r = .returned (.tuple #[.int .i64 y, .int .i64 f]) ∧ w.drewN m = w') ∧
      Calls Tryz.prog 12 #[.pointer (some ⟨L, 0, none⟩), .int .i64 a, .int .i64 b] (w.drewN m) (fun r w' => r = .returned (.tuple #[.bool is, .int .i64 g]) ∧ w.drewN m = w')) := by
  obtain ⟨bl, p, tf, F, σ, h, τ, r, rfl, rfl⟩ := H.ex
  have hr : ∀ m, OrdR w0 L bl p tf F σ h τ (w.drewN m) := fun m => r.new ((Fr.refl _ _).drewN m)
  cases ha : liveB τ a with
  | false =>
    exact ⟨slotV τ a, slotV τ b, staleE τ a, staleE τ b, 17, false, hid ⟨.left (by unfold staleE; rw [if_neg (by rw [ha]; simp)]) rfl rfl, fun m => ⟨ordLabel_any (hr m) a a1 a2, ordLabel_any (hr m) b b1 b2, ordBefore_stale (hr m) a b a1 a2 b1 b2 (.inl ha)⟩⟩⟩
  | true =>
    cases hb : liveB τ b with
    | false => exact ⟨slotV τ a, slotV τ b, staleE τ a, staleE τ b, 17, false, hid ⟨.right (by unfold staleE; rw [if_pos ha]) (by unfold staleE; rw [if_neg (by rw [hb]; simp)]) rfl rfl, fun m => ⟨ordLabel_any (hr m) a a1 a2, ordLabel_any (hr m) b b1 b2, ordBefore_stale (hr m) a b a1 a2 b1 b2 (.inr hb)⟩⟩⟩
    | true => exact ⟨slotV τ a, slotV τ b, staleE τ a, staleE τ b, 0, _, hid ⟨.both (by unfold staleE; rw [if_pos ha]) (by unfold staleE; rw [if_pos hb]) rfl rfl, fun m => ⟨ordLabel_any (hr m) a a1 a2, ordLabel_any (hr m) b b1 b2, ordBefore_ok (hr m) a b a1 a2 b1 b2 ha hb⟩⟩⟩
end
set_option maxRecDepth 100000 in
set_option maxHeartbeats 8000000 in
theorem orderBefore_any (v : Value) (a b : Int) (l : List AcO) (w : World) (hv : RdAo w v l) (hg : GW w) (a1 : -9223372036854775808 ≤ a) (a2 : a ≤ 9223372036854775807) (b1 : -9223372036854775808 ≤ b) (b2 : b ≤ 9223372036854775807) :
    Calls Tryz.prog 3 #[v, .int .i64 a, .int .i64 b] w fun e w' => e = .returned (.bool true) ∧ Fr Nil1 w w' := by
  have HAw := hid (fun w' (hf : Fr Nil1 w w') => awake_any w' (hg.fr hf))
  have HV := hid hv
  obtain ⟨A, c, rfl, _, _⟩ := hv
  by_cases h80 : 80 < l.length
  · have HA0 := hid (HAw.out w (Fr.refl _ _))
    have hI : (80 : Int) < (l.length : Int) := by omega
    clear HAw HV hg a1 a2 b1 b2
    go_enter Tryz.func3, Tryz.ntmps3
    go_wp2_with (go_at_call 9; refine HA0.out.mono ?_; rintro e w1 ⟨rfl, H1⟩)
    go_ret
    exact ⟨rfl, H1⟩
  · have hNI : ¬ (80 : Int) < (l.length : Int) := by omega
    have HPl := hid (played_any _ l w HV.out (by omega) hg)
    have HAB := hid (And.intro (And.intro a1 a2) (And.intro b1 b2))
    clear hg a1 a2 b1 b2
    go_enter Tryz.func3, Tryz.ntmps3
    go_wp2_with (first
      | (go_at_call 11; refine (OS.handles H1.out.o).mono ?_; rintro e w2 ⟨A2, c2, rfl, H2⟩)
      | (go_at_call 10; refine HPl.out.mono ?_; rintro e w1 ⟨L, N, xs, rfl, hN, H1⟩))
    have HX := hid (show ∀ y ∈ xs, -9223372036854775808 ≤ y ∧ y ≤ 9223372036854775807 from fun y hy => by have := H1.out.mem y hy; omega)
    obtain ⟨n, hn⟩ : ∃ n, xs.length = n := ⟨_, rfl⟩
    have HNn := hid hn
    have hn2 : n ≤ 200 := by have := H1.out.len; omega
    have HRd := hid H2.out.1
    have HO2 := hid H2.out.2.1
    rw [hn]
    clear hn
    go_loopw [6, 10, 11, 12, 13] (fun _ i _ _ _ wr => ∃ (k m : Nat), k ≤ n ∧ i = .int .i64 k ∧ wr = w2.drewN m) (fun _ i _ _ _ _ => (n - intOf i).toNat)
    case atStart => exact ⟨0, 0, by omega, rfl, rfl⟩
    case round =>
      obtain ⟨i, m, hi, rfl, rfl⟩ := hrel
      by_cases hlt : i < n
      · have hltI : (i : Int) < n := by omega
        go_wp2_with fail
        go_loopw [6, 11, 12, 13] (fun _ k _ _ wr => ∃ (j q : Nat), j ≤ n ∧ k = .int .i64 j ∧ wr = w2.drewN q) (fun _ k _ _ _ => (n - intOf k).toNat)
        case atStart => exact ⟨0, m, by omega, rfl, rfl⟩
        case round =>
          obtain ⟨j, q, hj, rfl, rfl⟩ := hrel
          by_cases hlj : j < n
          · have hljI : (j : Int) < n := by omega
            obtain ⟨A', c', e', _, hA⟩ := HRd.out
            injection e' with eA _ _
            subst eA
            obtain ⟨ad, rfl, hc⟩ := hA (by rw [ints'_length, HNn.out]; omega)
            obtain ⟨x, hx⟩ : ∃ x, xs[i]? = some x := ⟨_, List.getElem?_eq_getElem (by rw [HNn.out]; exact hlt)⟩
            obtain ⟨y, hy⟩ : ∃ y, xs[j]? = some y := ⟨_, List.getElem?_eq_getElem (by rw [HNn.out]; exact hlj)⟩
            have q1 := hc i _ (ints'_get xs i (by rw [HNn.out]; exact hlt))
            have q2 := hc j _ (ints'_get xs j (by rw [HNn.out]; exact hlj))
            rw [List.getD_eq_getElem?_getD, hx, Option.getD_some] at q1
            rw [List.getD_eq_getElem?_getD, hy, Option.getD_some] at q2
            have hxb := HX.out x (List.mem_of_getElem? hx)
            have hyb := HX.out y (List.mem_of_getElem? hy)
            by_cases hij : i < j
            · have HBf := hid (fun (w' : World) (hf : Fr Nil1 w2 w') => OS.before (HO2.out.new hf) hx hy hxb.1 hxb.2 hyb.1 hyb.2 (c := true) (decide_eq_true hij))
              have hijI : (i : Int) < j := by omega
              clear hc hx hy hxb hyb
              go_wp2_with fail
              go_quiet ((go_at_call 12; exact quiet_eq2 (HBf.out _ ((Fr.refl Nil1 _).drewN _))))
              go_wp2_with fail
              refine ⟨⟨j + 1, q + nq, by omega, by go_num, rfl⟩, by simp [intOf]; omega⟩
            · have HBf := hid (fun (w' : World) (hf : Fr Nil1 w2 w') => OS.before (HO2.out.new hf) hx hy hxb.1 hxb.2 hyb.1 hyb.2 (c := false) (decide_eq_false hij))
              have hijI : decide ((i : Int) < (j : Int)) = false := decide_eq_false (by omega)
              clear hc hx hy hxb hyb
              go_wp2_with fail
              go_quiet ((go_at_call 12; exact quiet_eq2 (HBf.out _ ((Fr.refl Nil1 _).drewN _))))
              go_wp2_with fail
              refine ⟨⟨j + 1, q + nq, by omega, by go_num, rfl⟩, by simp [intOf]; omega⟩
          · obtain rfl : j = n := by omega
            go_wp2_with fail
            refine ⟨⟨i + 1, q, by omega, by go_num, rfl⟩, by simp [intOf]; omega⟩
      · obtain rfl : i = n := by omega
        obtain ⟨x, y, e, f, g, is, HT⟩ := OS.two HO2.out a b HAB.out.1.1 HAB.out.1.2 HAB.out.2.1 HAB.out.2.2
        have HC := hid (HT.out.2 m)
        have hT := HT.out.1
        clear HT
        cases hT with
        | both he hf hg hi =>
          subst he hf hg
          have hb : (is == decide (x < y)) = true := by rw [hi]; simp
          clear hi
          have HF := hid (HO2.out.fr.drewN m)
          go_wp2_with (first
            | (go_at_call 9; refine (HAw.out _ HF.out).mono ?_; rintro e w9 ⟨rfl, H9⟩)
            | (go_at_call 12; refine HC.out.2.2.mono ?_; rintro e w5 ⟨rfl, rfl⟩)
            | (go_at_call 13; with_reducible refine HC.out.1.mono ?_; rintro e w5 ⟨rfl, rfl⟩)
            | (go_at_call 13; refine HC.out.2.1.mono ?_; rintro e w5 ⟨rfl, rfl⟩))
          go_ret
          exact ⟨rfl, HF.out.trans H9⟩
        | left he hg hi =>
          subst he hg hi
          have HF := hid (HO2.out.fr.drewN m)
          go_wp2_with (first
            | (go_at_call 9; refine (HAw.out _ HF.out).mono ?_; rintro e w9 ⟨rfl, H9⟩)
            | (go_at_call 12; refine HC.out.2.2.mono ?_; rintro e w5 ⟨rfl, rfl⟩)
            | (go_at_call 13; with_reducible refine HC.out.1.mono ?_; rintro e w5 ⟨rfl, rfl⟩)
            | (go_at_call 13; refine HC.out.2.1.mono ?_; rintro e w5 ⟨rfl, rfl⟩))
          go_ret
          exact ⟨rfl, HF.out.trans H9⟩
        | right he hf hg hi =>
          subst he hf hg hi
          have HF := hid (HO2.out.fr.drewN m)
          go_wp2_with (first
            | (go_at_call 9; refine (HAw.out _ HF.out).mono ?_; rintro e w9 ⟨rfl, H9⟩)
            | (go_at_call 12; refine HC.out.2.2.mono ?_; rintro e w5 ⟨rfl, rfl⟩)
            | (go_at_call 13; with_reducible refine HC.out.1.mono ?_; rintro e w5 ⟨rfl, rfl⟩)
            | (go_at_call 13; refine HC.out.2.1.mono ?_; rintro e w5 ⟨rfl, rfl⟩))
          go_ret
          exact ⟨rfl, HF.out.trans H9⟩
end Go.Proofs.YtogjfaiidciedaaGreatDoor
