/- PmaFull, as it is called: the walk. -/
import Derived.Test.YtanefeeneladnaaDoorGR
set_option linter.unusedVariables false
set_option linter.unusedSimpArgs false
namespace Go.Proofs.YtanefeeneladnaaDoor
open Go.RowKit

theorem RowN.ins1 {w0 wr : World} {p : Nat} {F : PF} {σ : List (Option Int)} {h : Nat} {evs : List Ev} (H : RowN w0 p F σ h evs wr) {L : Nat} (hL : (its σ).length = L) (hT : L < 2560) (bh x : Int) (hb : bh = -1 ∨ ∃ q : Nat, bh = q ∧ onOf σ q = true) :
    Calls Tryd.prog 14 #[.pointer (some ⟨p, 0, none⟩), .int .i64 bh, .int .i64 x] wr fun e w' => ∃ (v a b c d : Int) (F' : PF) (σ' : List (Option Int)) (h' : Nat) (ev : List Ev), e = .returned (.tuple #[.int .i64 v, .agg #[.int .i64 a, .int .i64 b, .int .i64 c, .int .i64 d], .int .i64 0]) ∧ Hid (RowN w0 p F' σ' h' (evs ++ ev) w' ∧ (its σ').length = L + 1) := by
  obtain ⟨seg, next, hc⟩ := behC_of hb
  refine (RowG.ins H hearN (by omega) bh x hc).mono ?_
  rintro e w' ⟨v, S, F', σ', h', ev, rfl, H3⟩
  exact ⟨v, S.k, S.f, S.s, S.c, F', σ', h', ev, rfl, hid ⟨H3.out.1, by have := ins_len H3.out.2; omega⟩⟩
theorem RowN.lenL {w0 wr : World} {p : Nat} {F : PF} {σ : List (Option Int)} {h : Nat} {evs : List Ev} (H : RowN w0 p F σ h evs wr) {L : Nat} (hL : (its σ).length = L) (w' : World) (hf : Fr Nil1 wr w') :
    Calls Tryd.prog 16 #[.pointer (some ⟨p, 0, none⟩)] w' fun e w'' => e = .returned (.int .i64 L) ∧ w' = w'' := by
  subst hL
  exact RowG.len (RowG.new H hearN hf)
theorem RowN.fullL {w0 wr : World} {p : Nat} {F : PF} {σ : List (Option Int)} {h : Nat} {evs : List Ev} (H : RowN w0 p F σ h evs wr) {L : Nat} (hL : (its σ).length = L) (hT : 2560 ≤ L) (bh x : Int) (hb : bh = -1 ∨ ∃ q : Nat, bh = q ∧ onOf σ q = true) :
    Calls Tryd.prog 14 #[.pointer (some ⟨p, 0, none⟩), .int .i64 bh, .int .i64 x] wr fun e w' => e = .returned (.tuple #[.int .i64 0, .agg #[.int .i64 0, .int .i64 0, .int .i64 0, .int .i64 0], .int .i64 16]) ∧ Hid (RowN w0 p F σ h evs w' ∧ Fr Nil1 wr w') := by
  refine RowG.full H hearN (by omega) bh x ?_
  rcases hb with h | ⟨q, rfl, hq⟩
  · exact .inl h
  · exact .inr (chk_of hq)
theorem RowN.del1 {w0 wr : World} {p : Nat} {F : PF} {σ : List (Option Int)} {h : Nat} {evs : List Ev} (H : RowN w0 p F σ h evs wr) {L : Nat} (hL : (its σ).length = L) (hT : L ≤ 2560) (q : Nat) (hq : onOf σ q = true) :
    Calls Tryd.prog 13 #[.pointer (some ⟨p, 0, none⟩), .int .i64 q] wr fun e w' => ∃ (v a b c d : Int) (F' : PF) (σ' : List (Option Int)) (h' : Nat) (ev : List Ev), e = .returned (.tuple #[.int .i64 v, .agg #[.int .i64 a, .int .i64 b, .int .i64 c, .int .i64 d], .int .i64 0]) ∧ Hid (RowN w0 p F' σ' h' (evs ++ ev) w' ∧ (its σ').length + 1 = L) := by
  obtain ⟨x, hx⟩ := onOf_true hq
  refine (RowG.del H hearN (by omega) q x hx).mono ?_
  rintro e w' ⟨S, F', σ', h', ev, rfl, H3⟩
  refine ⟨x, S.k, S.f, S.s, S.c, F', σ', h', ev, rfl, hid ⟨H3.out.1, ?_⟩⟩
  have h1 := its_get σ q x hx
  have h2 := (List.getElem?_eq_some_iff.1 h1).1
  rw [H3.out.2.items, List.length_append, List.length_take, List.length_drop]
  omega
theorem RowN.insHead {w0 wr : World} {p : Nat} {F : PF} {σ : List (Option Int)} {h : Nat} {evs : List Ev} (H : RowN w0 p F σ h evs wr) (hT : (its σ).length < 2560) (x : Int) :
    Calls Tryd.prog 14 #[.pointer (some ⟨p, 0, none⟩), .int .i64 (-1), .int .i64 x] wr fun e w' => ∃ (v a b c d : Int) (F' : PF) (σ' : List (Option Int)) (h' : Nat) (ev : List Ev), e = .returned (.tuple #[.int .i64 v, .agg #[.int .i64 a, .int .i64 b, .int .i64 c, .int .i64 d], .int .i64 0]) ∧ Hid (RowN w0 p F' σ' h' (evs ++ ev) w' ∧ its σ' = x :: its σ) := by
  refine (RowG.ins H hearN hT (-1) x (.first rfl rfl rfl)).mono ?_
  rintro e w' ⟨v, S, F', σ', h', ev, rfl, H3⟩
  exact ⟨v, S.k, S.f, S.s, S.c, F', σ', h', ev, rfl, hid ⟨H3.out.1, by rw [H3.out.2.items]; rfl⟩⟩
theorem RowN.nth0 {w0 wr : World} {p : Nat} {F : PF} {σ : List (Option Int)} {h : Nat} {evs : List Ev} (H : RowN w0 p F σ h evs wr) {x : Int} {r : List Int} (hI : its σ = x :: r) :
    Calls Tryd.prog 17 #[.pointer (some ⟨p, 0, none⟩), .int .i64 0] wr fun e w' => ∃ q : Nat, e = .returned (.int .i64 q) ∧ wr = w' ∧ Hid (atV σ q = x ∧ atB σ q = true) := by
  refine (RowG.nth H 0 (by rw [hI, List.length_cons]; omega)).mono ?_
  rintro e w' ⟨q, rfl, rfl, h1, h2⟩
  refine ⟨q, rfl, rfl, hid ⟨?_, by rw [atB_nat]; exact h1⟩⟩
  obtain ⟨y, hy⟩ := onOf_true h1
  have h3 := its_get σ q y hy
  rw [h2, hI] at h3
  injection h3 with h3
  unfold atV
  rw [if_pos (by omega), Int.toNat_natCast, hy, h3]
  rfl
theorem RowN.atQ {w0 wr : World} {p : Nat} {F : PF} {σ : List (Option Int)} {h : Nat} {evs : List Ev} (H : RowN w0 p F σ h evs wr) {x : Int} {q : Nat} (hq : atV σ q = x ∧ atB σ q = true) :
    Calls Tryd.prog 15 #[.pointer (some ⟨p, 0, none⟩), .int .i64 q] wr fun e w' => e = .returned (.tuple #[.int .i64 x, .bool true]) ∧ wr = w' := by
  have := RowG.at H q
  rwa [hq.1, hq.2] at this

set_option maxRecDepth 100000 in
set_option maxHeartbeats 4000000 in
theorem pmaFull_any (by' n : Int) (w : World) (hg : GW w) : Calls Tryd.prog 4 #[.int .i64 by', .int .i64 n] w fun e w' => e = .returned (.bool true) ∧ Fr Nil1 w w' := by
  have HAw := hid (fun w' (hf : Fr Nil1 w w') => awake_any w' (hg.fr hf))
  have HNew := hid (RowG.made (w0 := w) (B := Bn) (J := Jn) Value.nilFunc (.inl rfl) w hg hearN trivial (Fr.refl _ _) (fun k h => h.elim))
  by_cases hc : by' < 0 ∨ 1000000 < by' ∨ n < 0 ∨ 2600 < n
  · have HA := hid (HAw.out w (Fr.refl _ _))
    clear HNew HAw
    by_cases c1 : by' < 0
    · have d1 : decide (by' < 0) = true := decide_eq_true c1
      go_enter Tryd.func4, Tryd.ntmps4
      go_wp2_with (go_at_call 7; refine HA.out.mono ?_; rintro e w1 ⟨rfl, H1⟩)
      go_ret
      exact ⟨rfl, H1⟩
    · by_cases c2 : 1000000 < by'
      · have d1 : decide (by' < 0) = false := decide_eq_false c1
        have d2 : decide (1000000 < by') = true := decide_eq_true c2
        go_enter Tryd.func4, Tryd.ntmps4
        go_wp2_with (go_at_call 7; refine HA.out.mono ?_; rintro e w1 ⟨rfl, H1⟩)
        go_ret
        exact ⟨rfl, H1⟩
      · by_cases c3 : n < 0
        · have d1 : decide (by' < 0) = false := decide_eq_false c1
          have d2 : decide (1000000 < by') = false := decide_eq_false c2
          have d3 : decide (n < 0) = true := decide_eq_true c3
          go_enter Tryd.func4, Tryd.ntmps4
          go_wp2_with (go_at_call 7; refine HA.out.mono ?_; rintro e w1 ⟨rfl, H1⟩)
          go_ret
          exact ⟨rfl, H1⟩
        · have d1 : decide (by' < 0) = false := decide_eq_false c1
          have d2 : decide (1000000 < by') = false := decide_eq_false c2
          have d3 : decide (n < 0) = false := decide_eq_false c3
          have d4 : decide (2600 < n) = true := decide_eq_true (by omega)
          go_enter Tryd.func4, Tryd.ntmps4
          go_wp2_with (go_at_call 7; refine HA.out.mono ?_; rintro e w1 ⟨rfl, H1⟩)
          go_ret
          exact ⟨rfl, H1⟩
  · have b1 : 0 ≤ by' := by omega
    have b2 : by' ≤ 1000000 := by omega
    have b3 : 0 ≤ n := by omega
    have b4 : n ≤ 2600 := by omega
    have d1 : decide (by' < 0) = false := decide_eq_false (by omega)
    have d2 : decide (1000000 < by') = false := decide_eq_false (by omega)
    have d3 : decide (n < 0) = false := decide_eq_false (by omega)
    have d4 : decide (2600 < n) = false := decide_eq_false (by omega)
    have b1' : ¬ by' < 0 := by omega
    have b2' : ¬ 1000000 < by' := by omega
    have b3' : ¬ n < 0 := by omega
    have b4' : ¬ 2600 < n := by omega
    go_enter Tryd.func4, Tryd.ntmps4
    go_wp2_with (go_at_call 8; refine HNew.out.mono ?_; rintro e w1 ⟨p, F0, rfl, H1⟩)
    have HR0 := hid H1.out.1
    clear H1
    go_loopw [4, 6, 7, 8, 9, 10, 11, 13] (fun _ a i _ _ _ _ _ wr => ∃ (k c : Nat) (F : PF) (σ : List (Option Int)) (h : Nat) (evs : List Ev), (k : Int) ≤ n ∧ i = .int .i64 k ∧ a = .int .i64 c ∧ c ≤ min k 2560 ∧ Hid (RowN w p F σ h evs wr ∧ (its σ).length = min k 2560)) (fun _ _ i _ _ _ _ _ _ => (n - intOf i).toNat)
    case atStart => exact ⟨0, 0, F0, _, 2, [], by omega, rfl, rfl, by omega, hid ⟨HR0.out, by decide⟩⟩
    case round =>
      obtain ⟨k, c, F, σ, h, evs, hk, rfl, rfl, hc1, HW⟩ := hrel
      obtain ⟨L, hL⟩ : ∃ L, min k 2560 = L := ⟨_, rfl⟩
      rw [hL] at hc1 HW
      have hL1 : L ≤ 2560 := by omega
      have HL := hid hL
      by_cases hlt : (k : Int) < n
      · have HLn := hid (RowN.lenL HW.out.1 HW.out.2 wr (Fr.refl _ _))
        obtain ⟨t1, t2, t3⟩ := tmod_fix ((c : Int) + by') ((L : Int) + 1) (by omega)
        have v1 : IntKind.i64.wrap ((c : Int) + by') = (c : Int) + by' := IntWalk.i64_in _ (by omega)
        have v2 : IntKind.i64.wrap ((L : Int) + 1) = (L : Int) + 1 := IntWalk.i64_in _ (by omega)
        have hb0 : ((L : Int) + 1 == 0) = false := beq_eq_false_iff_ne.2 (by omega)
        have m0 := Int.tmod_nonneg ((L : Int) + 1) (show 0 ≤ (c : Int) + by' by omega)
        obtain ⟨d, hd⟩ : ∃ d : Nat, ((c : Int) + by').tmod ((L : Int) + 1) = d := ⟨(((c : Int) + by').tmod ((L : Int) + 1)).toNat, by omega⟩
        rw [hd] at t2 t3 m0
        have hdL : d ≤ L := by omega
        clear t1 t2 t3
        by_cases hlow : k < 2560
        · obtain rfl : L = k := by omega
          have hk2 : ¬ (2560 : Int) ≤ L := by omega
          have hk3 : decide ((2560 : Int) ≤ L) = false := decide_eq_false hk2
          have v5 : IntKind.i64.wrap ((L : Int) + 1) = (L : Int) + 1 := v2
          have hq1 : (((L + 1 : Nat) : Int) != (L : Int) + 1) = false := by rw [bne_eq_false_iff_eq]; omega
          have hq2 : ((L : Int) + 1 != (L : Int) + 1) = false := by rw [bne_eq_false_iff_eq]
          clear hL
          by_cases hd0 : d = 0
          · subst hd0
            go_wp2_with (first
              | (go_at_call 16; refine (RowN.lenL H3.out.1 H3.out.2 _ ((Fr.refl _ _).alloc _)).mono ?_; rintro e w4 ⟨rfl, rfl⟩)
              | (go_at_call 16; refine HLn.out.mono ?_; rintro e w2 ⟨rfl, rfl⟩)
              | (go_at_call 14; refine (RowN.ins1 HW.out.1 HW.out.2 (by omega) (-1) L (.inl rfl)).mono ?_; rintro e w3 ⟨v, a1, a2, a3, a4, F', σ', h', ev, rfl, H3⟩))
            refine ⟨⟨L + 1, 0, F', σ', h', evs ++ ev, by omega, by go_num, rfl, by omega, hid ⟨RowG.new H3.out.1 hearN ((Fr.refl _ _).alloc _), by rw [H3.out.2]; omega⟩⟩, by simp [intOf]; omega⟩
          · obtain ⟨j, rfl⟩ : ∃ j, d = j + 1 := ⟨d - 1, by omega⟩
            have ej : ((j + 1 : Nat) : Int) - 1 = j := by omega
            have hj0 : 0 < ((j + 1 : Nat) : Int) := by omega
            have hj1 : decide (0 < ((j + 1 : Nat) : Int)) = true := decide_eq_true hj0
            have HNt := hid (RowG.nth HW.out.1 j (by rw [HW.out.2]; omega))
            go_wp2_with (first
              | (go_at_call 16; refine (RowN.lenL H3.out.1 H3.out.2 _ ((Fr.refl _ _).alloc _)).mono ?_; rintro e w4 ⟨rfl, rfl⟩)
              | (go_at_call 16; refine HLn.out.mono ?_; rintro e w2 ⟨rfl, rfl⟩)
              | (go_at_call 17; (try rw [ej]); refine HNt.out.mono ?_; rintro e w2 ⟨q, rfl, rfl, hq⟩; have HQ := hid hq; clear hq)
              | (go_at_call 14; refine (RowN.ins1 HW.out.1 HW.out.2 (by omega) q L (.inr ⟨q, rfl, HQ.out.1⟩)).mono ?_; rintro e w3 ⟨v, a1, a2, a3, a4, F', σ', h', ev, rfl, H3⟩))
            refine ⟨⟨L + 1, j + 1, F', σ', h', evs ++ ev, by omega, by go_num, rfl, by omega, hid ⟨RowG.new H3.out.1 hearN ((Fr.refl _ _).alloc _), by rw [H3.out.2]; omega⟩⟩, by simp [intOf]; omega⟩
        · have hk2 : (2560 : Int) ≤ k := by omega
          have HL5 := hid (show 2560 ≤ L by omega)
          have hk3 : decide ((2560 : Int) ≤ k) = true := decide_eq_true hk2
          have hq1 : ((L : Int) != 2560) = false := by rw [bne_eq_false_iff_eq]; omega
          clear hL
          by_cases hd0 : d = 0
          · subst hd0
            go_wp2_with (first
              | (go_at_call 19; refine (ints_eq _ _ v4 v9 w9 ((((((H4.out.1.new H5.out.2).new ((Fr.refl _ _).alloc _)).new H6.out.2.2).new H7.out.2.2).new H8.out).new H9.out.2.2) H9.out.1 rfl).mono ?_; rintro e w10 ⟨rfl, hf10⟩; have H10 := hid hf10; clear hf10)
              | (go_at_call 18; refine (RowG.itemsR (RowG.new H7.out.2.1 hearN H8.out) hearN).mono ?_; rintro e w9 ⟨v9, rfl, H9⟩)
              | (go_at_call 19; refine (ints_eq _ _ v3 v7 w7 (((((H3.out.1.new H4.out.2.2).new H5.out.2).new ((Fr.refl _ _).alloc _)).new H6.out.2.2).new H7.out.2.2) H7.out.1 rfl).mono ?_; rintro e w8 ⟨rfl, hf8⟩; have H8 := hid hf8; clear hf8)
              | (go_at_call 12; refine (RowG.placesR H6.out.2.1 hearN H6.out.1).mono ?_; rintro e w7 ⟨v7, rfl, H7⟩)
              | (go_at_call 11; refine (RowG.slots (RowG.new H5.out.1 hearN ((Fr.refl _ _).alloc _)) hearN).mono ?_; rintro e w6 ⟨f6, rfl, H6⟩)
              | (go_at_call 16; refine (RowN.lenL H5.out.1 HW.out.2 _ ((Fr.refl _ _).alloc _)).mono ?_; rintro e w6 ⟨rfl, rfl⟩)
              | (go_at_call 14; refine (RowN.fullL H4.out.2.1 HW.out.2 HL5.out (-1) k (.inl rfl)).mono ?_; rintro e w5 ⟨rfl, H5⟩)
              | (go_at_call 18; refine (RowG.itemsR H3.out.2.1 hearN).mono ?_; rintro e w4 ⟨v4, rfl, H4⟩)
              | (go_at_call 12; refine (RowG.placesR H2.out.2.1 hearN H2.out.1).mono ?_; rintro e w3 ⟨v3, rfl, H3⟩)
              | (go_at_call 11; refine (RowG.slots HW.out.1 hearN).mono ?_; rintro e w2 ⟨f2, rfl, H2⟩)
              | (go_at_call 16; refine HLn.out.mono ?_; rintro e w2 ⟨rfl, rfl⟩))
            refine ⟨⟨k + 1, 0, F, σ, h, evs, by omega, by go_num, rfl, by omega, hid ⟨RowG.new H9.out.2.1 hearN H10.out, by have := HL.out; have := HW.out.2; omega⟩⟩, by simp [intOf]; omega⟩
          · obtain ⟨j, rfl⟩ : ∃ j, d = j + 1 := ⟨d - 1, by omega⟩
            have ej : ((j + 1 : Nat) : Int) - 1 = j := by omega
            have hj0 : 0 < ((j + 1 : Nat) : Int) := by omega
            have hj1 : decide (0 < ((j + 1 : Nat) : Int)) = true := decide_eq_true hj0
            have HNt := hid (RowG.nth HW.out.1 j (by rw [HW.out.2]; omega))
            go_wp2_with (first
              | (go_at_call 19; refine (ints_eq _ _ v4 v9 w9 ((((((H4.out.1.new H5.out.2).new ((Fr.refl _ _).alloc _)).new H6.out.2.2).new H7.out.2.2).new H8.out).new H9.out.2.2) H9.out.1 rfl).mono ?_; rintro e w10 ⟨rfl, hf10⟩; have H10 := hid hf10; clear hf10)
              | (go_at_call 18; refine (RowG.itemsR (RowG.new H7.out.2.1 hearN H8.out) hearN).mono ?_; rintro e w9 ⟨v9, rfl, H9⟩)
              | (go_at_call 19; refine (ints_eq _ _ v3 v7 w7 (((((H3.out.1.new H4.out.2.2).new H5.out.2).new ((Fr.refl _ _).alloc _)).new H6.out.2.2).new H7.out.2.2) H7.out.1 rfl).mono ?_; rintro e w8 ⟨rfl, hf8⟩; have H8 := hid hf8; clear hf8)
              | (go_at_call 12; refine (RowG.placesR H6.out.2.1 hearN H6.out.1).mono ?_; rintro e w7 ⟨v7, rfl, H7⟩)
              | (go_at_call 11; refine (RowG.slots (RowG.new H5.out.1 hearN ((Fr.refl _ _).alloc _)) hearN).mono ?_; rintro e w6 ⟨f6, rfl, H6⟩)
              | (go_at_call 16; refine (RowN.lenL H5.out.1 HW.out.2 _ ((Fr.refl _ _).alloc _)).mono ?_; rintro e w6 ⟨rfl, rfl⟩)
              | (go_at_call 14; refine (RowN.fullL H4.out.2.1 HW.out.2 HL5.out q k (.inr ⟨q, rfl, HQ.out.1⟩)).mono ?_; rintro e w5 ⟨rfl, H5⟩)
              | (go_at_call 18; refine (RowG.itemsR H3.out.2.1 hearN).mono ?_; rintro e w4 ⟨v4, rfl, H4⟩)
              | (go_at_call 12; refine (RowG.placesR H2.out.2.1 hearN H2.out.1).mono ?_; rintro e w3 ⟨v3, rfl, H3⟩)
              | (go_at_call 11; refine (RowG.slots HW.out.1 hearN).mono ?_; rintro e w2 ⟨f2, rfl, H2⟩)
              | (go_at_call 17; (try rw [ej]); refine HNt.out.mono ?_; rintro e w2 ⟨q, rfl, rfl, hq⟩; have HQ := hid hq; clear hq)
              | (go_at_call 16; refine HLn.out.mono ?_; rintro e w2 ⟨rfl, rfl⟩))
            refine ⟨⟨k + 1, j + 1, F, σ, h, evs, by omega, by go_num, rfl, by omega, hid ⟨RowG.new H9.out.2.1 hearN H10.out, by have := HL.out; have := HW.out.2; omega⟩⟩, by simp [intOf]; omega⟩
      · have HLn := hid (RowN.lenL HW.out.1 HW.out.2 wr (Fr.refl _ _))
        have HFr := hid HW.out.1.fr
        by_cases hlow : L < 2560
        · obtain ⟨C, hC⟩ : ∃ C, 8 * 2 ^ h = C := ⟨_, rfl⟩
          have HCp := hid (RowG.cap HW.out.1)
          have hC4 : C ≤ 4096 := by have := p2_le HW.out.1.r.h9; omega
          rw [hC] at HCp
          clear hC
          have hL2 : (L : Int) < 2560 := by omega
          have hd1 : decide ((L : Int) < 2560) = true := decide_eq_true hL2
          have hC5 : (C : Int) ≤ 4096 := by omega
          have hd2 : decide ((C : Int) ≤ 4096) = true := decide_eq_true hC5
          clear hL
          go_wp2_with (first
            | (go_at_call 7; refine (HAw.out _ HFr.out).mono ?_; rintro e w9 ⟨rfl, H9⟩)
            | (go_at_call 20; refine HCp.out.mono ?_; rintro e w2 ⟨rfl, rfl⟩)
            | (go_at_call 16; refine HLn.out.mono ?_; rintro e w2 ⟨rfl, rfl⟩))
          go_ret
          exact ⟨rfl, HFr.out.trans H9⟩
        · have hL2 : ¬ (L : Int) < 2560 := by omega
          have hd1 : decide ((L : Int) < 2560) = false := decide_eq_false hL2
          obtain ⟨d, hd⟩ : ∃ d : Nat, (c : Int) % 2560 = d := ⟨((c : Int) % 2560).toNat, by omega⟩
          have hdt : (c : Int).tmod 2560 = d := by rw [Int.tmod_eq_emod_of_nonneg (by omega)]; exact hd
          have hdL : d < 2560 := by omega
          have HNt := hid (RowG.nth HW.out.1 d (by rw [HW.out.2]; omega))
          have HL2 := hid (show L = 2560 by omega)
          clear hL
          go_wp2_with (first
            | (go_at_call 7; refine (HAw.out _ HF8.out).mono ?_; rintro e w9 ⟨rfl, H9⟩)
            | (go_at_call 15; refine (RowN.atQ (RowG.new H5.out.1 hearN ((Fr.refl _ _).alloc _)) H6.out).mono ?_; rintro e w7 ⟨rfl, rfl⟩)
            | (go_at_call 17; refine (RowN.nth0 (RowG.new H5.out.1 hearN ((Fr.refl _ _).alloc _)) H4.out.2).mono ?_; rintro e w6 ⟨q6, rfl, rfl, H6⟩)
            | (go_at_call 14; refine (RowN.fullL (RowG.new H4.out.1 hearN ((Fr.refl _ _).alloc _)) rfl (by rw [H4.out.2, List.length_cons]; have := H3.out.2; have := HL2.out; omega) (-1) (-8) (.inl rfl)).mono ?_; rintro e w5 ⟨rfl, H5⟩)
            | (go_at_call 14; refine (RowN.insHead (RowG.new H3.out.1 hearN ((Fr.refl _ _).alloc _)) (by have := H3.out.2; have := HL2.out; omega) (-7)).mono ?_; rintro e w4 ⟨z4, a5, a6, a7, a8, F4, σ4, h4, ev4, rfl, H4⟩)
            | (go_at_call 13; refine (RowN.del1 HW.out.1 HW.out.2 (by have := HL2.out; omega) q HQ.out.1).mono ?_; rintro e w3 ⟨z3, a1, a2, a3, a4, F3, σ3, h3, ev3, rfl, H3⟩)
            | (go_at_call 17; refine HNt.out.mono ?_; rintro e w2 ⟨q, rfl, rfl, hq⟩; have HQ := hid hq; clear hq)
            | (go_at_call 16; refine HLn.out.mono ?_; rintro e w2 ⟨rfl, rfl⟩))
          have HF8 := hid (RowG.new H5.out.1 hearN ((Fr.refl _ _).alloc (.cells #[.int .i64 0, .int .i64 0, .int .i64 0, .int .i64 0] 35))).fr
          refine (RowN.lenL (L := 2560) H5.out.1 (by rw [H4.out.2, List.length_cons]; have := H3.out.2; have := HL2.out; omega) _ ((Fr.refl _ _).alloc _)).mono ?_
          rintro e w8 ⟨rfl, rfl⟩
          go_wp2_with (go_at_call 7; refine (HAw.out _ HF8.out).mono ?_; rintro e w9 ⟨rfl, H9⟩)
          go_ret
          exact ⟨rfl, HF8.out.trans H9⟩
end Go.Proofs.YtanefeeneladnaaDoor
