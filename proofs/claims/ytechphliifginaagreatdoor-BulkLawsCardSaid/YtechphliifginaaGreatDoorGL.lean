/- In one: V3, V4. -/
import Derived.Test.YtechphliifginaaGreatDoorGK
/- rebal: Open (printed by mkv3.py). -/
set_option linter.unusedVariables false
set_option linter.unusedSimpArgs false
namespace Go.Proofs.YtechphliifginaaGreatDoor
open Go.RowKit

theorem openFree_any {f : SF} {σ : List (Option Int)} {b : Nat} {w : World} (h : SlotsR w f σ) (hb : Has w b [.pointer (some ⟨f.s, 0, none⟩)] 31) (i : Int) :
    Calls Tryz.prog 144 #[.int .i64 i, .pointer (some ⟨b, 0, none⟩)] w fun e w' => e = .returned (.bool (!atB σ i)) ∧ w = w' := by
  have HA := hid (gapsAt_any h i)
  obtain ⟨b0, bf⟩ := hb.one
  generalize atB σ i = bb at *
  generalize atV σ i = x at *
  clear h hb
  go_enter Tryz.func144, Tryz.ntmps144
  go_wp2_with (go_at_call 39; refine HA.out.mono ?_; rintro e w1 ⟨rfl, rfl⟩)
  go_ret
  exact ⟨rfl, rfl⟩

structure OpenRW (w0 : World) (f : SF) (σ : List (Option Int)) (bs bt bn : Nat) (told : Value) (B : Nat → Prop) (J : List Ev → World → Prop) (evs0 : List Ev) (base next i : Nat) (wr : World) : Prop where
  ex : ∃ evs τ m, OpenRI σ base next i τ evs ∧ MvR wr f τ bs bt bn told m ∧ J (evs0 ++ evs) wr ∧ 0 ≤ m ∧ m + i ≤ 100000
  fr : Fr (ChgM f bn B) w0 wr
structure OpenLW (w0 : World) (f : SF) (σ : List (Option Int)) (bs bt bn : Nat) (told : Value) (B : Nat → Prop) (J : List Ev → World → Prop) (evs0 : List Ev) (base behind i : Nat) (wr : World) : Prop where
  ex : ∃ evs τ m, OpenLI σ base behind i τ evs ∧ MvR wr f τ bs bt bn told m ∧ J (evs0 ++ evs) wr ∧ 0 ≤ m ∧ m ≤ i
  fr : Fr (ChgM f bn B) w0 wr
/-- What Open leaves, and who has been told. -/
structure OpenW (w : World) (f : SF) (σ : List (Option Int)) (B : Nat → Prop) (J : List Ev → World → Prop) (evs0 : List Ev) (base next slot : Nat) (w' : World) : Prop where
  ex : ∃ evs τ, Steps σ evs τ ∧ OpenR σ base next τ slot ∧ SlotsR w' f τ ∧ J (evs0 ++ evs) w'
  fr : Fr (fun k => f.chg k ∨ B k) w w'
theorem atB_nat (σ : List (Option Int)) (k : Nat) : atB σ (k : Int) = onOf σ k := by unfold atB; rw [decide_eq_true (by omega), Bool.true_and, Int.toNat_natCast]
theorem open_fr {f : SF} {w w1 wr : World} {Q : Nat} {B : Nat → Prop} (hQ : w.heap.size = Q) (h1 : Fr Nil1 w w1) (h2 : Fr (ChgM f (Q + 3) B) w1 wr) : Fr (fun k => f.chg k ∨ B k) w wr :=
  (h1.mono (fun _ _ h => h.elim)).trans' h2 (fun j _ hj h => by
    rcases h with h | h | h
    · exact .inl h
    · omega
    · exact .inr h)
theorem openW_right {w w1 wr : World} {f : SF} {σ : List (Option Int)} {Q : Nat} {told : Value} {B : Nat → Prop} {J : List Ev → World → Prop} {evs0 : List Ev} {base next : Nat} (hQ : w.heap.size = Q) (h1 : Fr Nil1 w w1) (hb : base ≤ next)
    (h : OpenRW w1 f σ (Q + 1) (Q + 2) (Q + 3) told B J evs0 base next next wr) : OpenW w f σ B J evs0 base next next wr := by
  obtain ⟨evs, τ, m, s1, s2, s3, s4, s5⟩ := h.ex
  exact ⟨⟨evs, τ, s1.steps, s1.done hb, s2.r, s3⟩, open_fr hQ h1 h.fr⟩
theorem openW_left {w w1 wr : World} {f : SF} {σ : List (Option Int)} {Q : Nat} {told : Value} {B : Nat → Prop} {J : List Ev → World → Prop} {evs0 : List Ev} {base behind : Nat} (hQ : w.heap.size = Q) (h1 : Fr Nil1 w w1) (hb : behind < base + 8) (hl : base + 8 ≤ σ.length)
    (h : OpenLW w1 f σ (Q + 1) (Q + 2) (Q + 3) told B J evs0 base behind behind wr) : OpenW w f σ B J evs0 base (behind + 1) behind wr := by
  obtain ⟨evs, τ, m, s1, s2, s3, s4, s5⟩ := h.ex
  exact ⟨⟨evs, τ, s1.steps, s1.done hb hl, s2.r, s3⟩, open_fr hQ h1 h.fr⟩

set_option maxRecDepth 100000 in
set_option maxHeartbeats 4000000 in
theorem rebalOpen_first {f : SF} {σ : List (Option Int)} {g : FuncId} {bnd cps : Array Value} {B : Nat → Prop} {J : List Ev → World → Prop} (T : Teller g bnd cps B J) {w : World} {evs : List Ev}
    (H : SlotsR w f σ) (hJ : J evs w) (hB : ∀ k, B k → ¬ f.mem k ∧ k < w.heap.size) (seg : Nat) (hl : 8 * (seg + 1) ≤ σ.length) (h512 : seg + 1 ≤ 512)
    (hfree : ∃ j, 8 * seg ≤ j ∧ j < 8 * seg + 8 ∧ onOf σ j = false) :
    Calls Tryz.prog 79 #[.pointer (some ⟨f.s, 0, none⟩), .int .i64 seg, (.int .i64 (-1)), .func (.func g) bnd cps] w fun e w' => e = .returned (.tuple #[.int .i64 (8 * (seg : Int)), .int .i64 0]) ∧ OpenW w f σ B J evs (8 * seg) (8 * seg) (8 * seg) w' := by
  have hG := H.g.size
  have hmx := H.bits.n2
  have HT := hid T
  have HS := hid H
  have hltm := H.lt
  obtain ⟨Q, hQ⟩ : ∃ Q, w.heap.size = Q := ⟨_, rfl⟩
  have HQ := hid hQ
  have F0 := hid (show Fr Nil1 w (w.alloc (.cells #[.pointer (some ⟨f.s, 0, none⟩)] 31)) from (Fr.refl _ _).alloc _)
  have B0 := hid (show Has (w.alloc (.cells #[.pointer (some ⟨f.s, 0, none⟩)] 31)) Q [.pointer (some ⟨f.s, 0, none⟩)] 31 from hQ ▸ Has.new w _ _)
  have HCk := hid (rebalCheck_ok (H.new F0.out) seg 1 (by omega) (by omega) (by omega))
  have HMk := hid (show ∀ w1, ((((w.alloc (.cells #[.pointer (some ⟨f.s, 0, none⟩)] 31)).alloc (.cells #[.pointer (some ⟨f.s, 0, none⟩)] 31)).alloc (.cells #[.func (.func g) bnd cps] 26)).alloc (.cells #[.int .i64 0] 3)) = w1 → MvR w1 f σ (Q + 1) (Q + 2) (Q + 3) (.func (.func g) bnd cps) 0 ∧ J evs w1 ∧ Fr Nil1 w w1 ∧ Has w1 Q [.pointer (some ⟨f.s, 0, none⟩)] 31 from by
    rintro w1 rfl
    have f1 : Fr Nil1 w ((((w.alloc (.cells #[.pointer (some ⟨f.s, 0, none⟩)] 31)).alloc (.cells #[.pointer (some ⟨f.s, 0, none⟩)] 31)).alloc (.cells #[.func (.func g) bnd cps] 26)).alloc (.cells #[.int .i64 0] 3)) := ((F0.out.alloc _).alloc _).alloc _
    have b1 := ((Has.new (w.alloc (.cells #[.pointer (some ⟨f.s, 0, none⟩)] 31)) [.pointer (some ⟨f.s, 0, none⟩)] 31).alloc (.cells #[.func (.func g) bnd cps] 26)).alloc (.cells #[.int .i64 0] 3)
    have b2 := (Has.new ((w.alloc (.cells #[.pointer (some ⟨f.s, 0, none⟩)] 31)).alloc (.cells #[.pointer (some ⟨f.s, 0, none⟩)] 31)) [.func (.func g) bnd cps] 26).alloc (.cells #[.int .i64 0] 3)
    have b3 := Has.new (((w.alloc (.cells #[.pointer (some ⟨f.s, 0, none⟩)] 31)).alloc (.cells #[.pointer (some ⟨f.s, 0, none⟩)] 31)).alloc (.cells #[.func (.func g) bnd cps] 26)) [.int .i64 0] 3
    simp only [World.size_alloc] at b1 b2 b3
    rw [hQ] at b1 b2 b3
    exact ⟨⟨b1, b2, b3, H.new f1, by omega, fun h => by have := hltm _ h; omega, fun h => by have := hltm _ h; omega, fun h => by have := hltm _ h; omega⟩, T.keep _ _ _ _ hJ f1 (fun k hk => hk.elim), f1, ((B0.out.alloc _).alloc _).alloc _⟩)
  have HMA := hid (rebalMover_any f.s g bnd cps (w.alloc (.cells #[.pointer (some ⟨f.s, 0, none⟩)] 31)))
  rw [World.size_alloc, hQ] at HMA
  have HBm := hid (show ∀ k, B k → ¬ f.mem k ∧ k ≠ Q + 1 ∧ k ≠ Q + 2 ∧ k ≠ Q + 3 from fun k hk => by
    have := hB k hk
    exact ⟨this.1, by omega, by omega, by omega⟩)
  have HFree := hid hfree
  have HLen := hid hl
  clear H hJ hB T hltm hfree hQ
  obtain ⟨N, hN⟩ : ∃ N, σ.length = N := ⟨_, rfl⟩
  rw [hN] at hl hmx
  have HN := hid hN
  clear hN
  have p0 := B0.out.cell 0
  rw [← HQ.out] at p0
  go_enter Tryz.func79, Tryz.ntmps79
  go_wp2_with (first
    | (go_at_call 143; refine HCk.out.mono ?_; rintro e w1 ⟨rfl, rfl⟩)
    | (go_at_call 145; refine HMA.out.mono ?_; rintro e w1 ⟨rfl, hw1⟩; have HM1 := hid (HMk.out w1 hw1); clear hw1))
  have hpq : w.heap.size = Q := HQ.out
  rw [hpq]
  clear p0 hpq
  have HFr3 := hid (fun (i : Int) => openFree_any HM1.out.1.r HM1.out.2.2.2 i)
  go_loopw [8, 9, 19, 20] (fun _ _ i _ wr => ∃ k : Nat, 8 * seg ≤ k ∧ k ≤ 8 * seg + 8 ∧ i = .int .i64 k ∧ Hid (∀ j, 8 * seg ≤ j → j < k → onOf σ j = true) ∧ w1 = wr) (fun _ _ i _ _ => (8 * seg + 8 - (intOf i).toNat))
  case atStart => exact ⟨8 * seg, by omega, by omega, by go_num, hid (fun j _ _ => by omega), rfl⟩
  case round =>
    obtain ⟨k, hk1, hk2, rfl, HOn, rfl⟩ := hrel
    have hlt : k < 8 * seg + 8 := by
      rcases Nat.lt_or_ge k (8 * seg + 8) with g | g
      · exact g
      · obtain ⟨j, j1, j2, j3⟩ := HFree.out
        rw [HOn.out j (by omega) (by omega)] at j3
        cases j3
    have hltI : (k : Int) < 8 * (seg : Int) + 8 := by omega
    have hfr := HFr3.out (k : Int)
    rw [atB_nat] at hfr
    have HFk := hid hfr
    clear hfr
    cases hon : onOf σ k
    · rw [hon] at HFk
      have HO := hid (show OpenRW w1 f σ (Q + 1) (Q + 2) (Q + 3) (.func (.func g) bnd cps) B J evs (8 * seg) (8 * seg) k w1 from ⟨⟨[], σ, 0, ⟨.nil, hk1, hlt, hon, fun _ _ => rfl, fun _ _ => rfl, HOn.out⟩, HM1.out.1, by rw [List.append_nil]; exact HM1.out.2.1, by omega, by omega⟩, Fr.refl _ _⟩)
      clear hon hltI
      go_wp2_with (go_at_call 144; refine HFk.out.mono ?_; rintro e w5 ⟨rfl, rfl⟩)
      go_loopw [8, 9, 19, 20] (fun _ _ i _ wr => ∃ k : Nat, 8 * seg ≤ k ∧ k < 8 * seg + 8 ∧ i = .int .i64 k ∧ Hid (OpenRW w1 f σ (Q + 1) (Q + 2) (Q + 3) (.func (.func g) bnd cps) B J evs (8 * seg) (8 * seg) k wr)) (fun _ _ i _ _ => (intOf i).toNat)
      case atStart => exact ⟨k, hk1, by omega, rfl, HO⟩
      case round =>
        clear hk1 hk2 hlt HO HOn
        obtain ⟨k, hk1, hk2, rfl, HW⟩ := hrel
        rcases Nat.eq_or_lt_of_le hk1 with he | hlt
        · have HE := hid (openW_right HQ.out HM1.out.2.2.1 (by omega) (show OpenRW w1 f σ (Q + 1) (Q + 2) (Q + 3) (.func (.func g) bnd cps) B J evs (8 * seg) (8 * seg) (8 * seg) _ from by have hh := HW.out; rw [← he] at hh; exact hh))
          have hgt : ¬ (8 * (seg : Int)) < (k : Int) := by omega
          clear he
          go_wp2_with fail
          go_ret2
          exact ⟨rfl, HE.out⟩
        · have hgt : (8 * (seg : Int)) < (k : Int) := by omega
          obtain ⟨k', rfl⟩ : ∃ k', k = k' + 1 := ⟨k - 1, by omega⟩
          obtain ⟨evs', τ', m, s1, s2, s3, s4, s5⟩ := HW.out.ex
          obtain ⟨x, hmm⟩ := s1.may (by omega) (by have := HLen.out; omega)
          have hst := s1.move (by omega) hmm
          have hmo := rebalMove_ok HT.out s2 s3 HBm.out s4 (by omega) x k' (k' + 1) hmm
          have e1 : ((k' + 1 : Nat) : Int) = (k' : Int) + 1 := by omega
          have HMv := hid hmo
          have HSt := hid hst
          have hk0 : (0 : Int) ≤ (k' : Int) := by omega
          rw [e1] at HMv
          clear s1 s2 s3 hmm hst hmo
          have e2 : ((k' + 1 : Nat) : Int) - 1 = (k' : Int) := by omega
          have e3 : (k' : Int) + 1 - 1 = (k' : Int) := by omega
          rw [e1]
          clear e1 e2
          rw [show ((k' + 1 : Nat) : Int) = (k' : Int) + 1 by omega] at hgt
          go_wp2_with (go_at_call 180; refine HMv.out.mono ?_; rintro e w4 ⟨rfl, hM, hJ, hF⟩; have HM4 := hid (And.intro hM (And.intro hJ hF)); clear hM hJ hF)
          refine ⟨⟨k', by omega, by omega, by go_num, hid ⟨⟨_, _, m + 1, HSt.out, HM4.out.1, ?_, by omega, by omega⟩, HW.out.fr.trans HM4.out.2.2⟩⟩, by simp [intOf]⟩
          have := HM4.out.2.1
          rw [List.append_assoc] at this
          exact this
    · rw [hon] at HFk
      have HOn2 := hid (show ∀ j, 8 * seg ≤ j → j < k + 1 → onOf σ j = true from fun j j1 j2 => by
        rcases Nat.lt_or_ge j k with g | g
        · exact HOn.out j j1 g
        · rw [show j = k by omega]; exact hon)
      clear hon hltI
      go_wp2_with (go_at_call 144; refine HFk.out.mono ?_; rintro e w5 ⟨rfl, rfl⟩)
      exact ⟨⟨k + 1, by omega, by omega, by go_num, HOn2, (by first | rfl | trivial)⟩, by simp [intOf]; omega⟩

set_option maxRecDepth 100000 in
set_option maxHeartbeats 4000000 in
theorem rebalOpen_right {f : SF} {σ : List (Option Int)} {g : FuncId} {bnd cps : Array Value} {B : Nat → Prop} {J : List Ev → World → Prop} (T : Teller g bnd cps B J) {w : World} {evs : List Ev}
    (H : SlotsR w f σ) (hJ : J evs w) (hB : ∀ k, B k → ¬ f.mem k ∧ k < w.heap.size) (seg : Nat) (hl : 8 * (seg + 1) ≤ σ.length) (h512 : seg + 1 ≤ 512) (b : Nat) (hb1 : 8 * seg ≤ b) (hb2 : b < 8 * seg + 8) (hbo : onOf σ b = true)
    (hfree : ∃ j, b + 1 ≤ j ∧ j < 8 * seg + 8 ∧ onOf σ j = false) :
    Calls Tryz.prog 79 #[.pointer (some ⟨f.s, 0, none⟩), .int .i64 seg, (.int .i64 b), .func (.func g) bnd cps] w fun e w' => e = .returned (.tuple #[.int .i64 ((b : Int) + 1), .int .i64 0]) ∧ OpenW w f σ B J evs (8 * seg) (b + 1) (b + 1) w' := by
  have hG := H.g.size
  have hmx := H.bits.n2
  have HT := hid T
  have HS := hid H
  have hltm := H.lt
  obtain ⟨Q, hQ⟩ : ∃ Q, w.heap.size = Q := ⟨_, rfl⟩
  have HQ := hid hQ
  have F0 := hid (show Fr Nil1 w (w.alloc (.cells #[.pointer (some ⟨f.s, 0, none⟩)] 31)) from (Fr.refl _ _).alloc _)
  have B0 := hid (show Has (w.alloc (.cells #[.pointer (some ⟨f.s, 0, none⟩)] 31)) Q [.pointer (some ⟨f.s, 0, none⟩)] 31 from hQ ▸ Has.new w _ _)
  have HCk := hid (rebalCheck_ok (H.new F0.out) seg 1 (by omega) (by omega) (by omega))
  have HAt := hid (gapsAt_any (H.new F0.out) (b : Int))
  rw [atB_nat, hbo] at HAt
  have HMk := hid (show ∀ w1, ((((w.alloc (.cells #[.pointer (some ⟨f.s, 0, none⟩)] 31)).alloc (.cells #[.pointer (some ⟨f.s, 0, none⟩)] 31)).alloc (.cells #[.func (.func g) bnd cps] 26)).alloc (.cells #[.int .i64 0] 3)) = w1 → MvR w1 f σ (Q + 1) (Q + 2) (Q + 3) (.func (.func g) bnd cps) 0 ∧ J evs w1 ∧ Fr Nil1 w w1 ∧ Has w1 Q [.pointer (some ⟨f.s, 0, none⟩)] 31 from by
    rintro w1 rfl
    have f1 : Fr Nil1 w ((((w.alloc (.cells #[.pointer (some ⟨f.s, 0, none⟩)] 31)).alloc (.cells #[.pointer (some ⟨f.s, 0, none⟩)] 31)).alloc (.cells #[.func (.func g) bnd cps] 26)).alloc (.cells #[.int .i64 0] 3)) := ((F0.out.alloc _).alloc _).alloc _
    have b1 := ((Has.new (w.alloc (.cells #[.pointer (some ⟨f.s, 0, none⟩)] 31)) [.pointer (some ⟨f.s, 0, none⟩)] 31).alloc (.cells #[.func (.func g) bnd cps] 26)).alloc (.cells #[.int .i64 0] 3)
    have b2 := (Has.new ((w.alloc (.cells #[.pointer (some ⟨f.s, 0, none⟩)] 31)).alloc (.cells #[.pointer (some ⟨f.s, 0, none⟩)] 31)) [.func (.func g) bnd cps] 26).alloc (.cells #[.int .i64 0] 3)
    have b3 := Has.new (((w.alloc (.cells #[.pointer (some ⟨f.s, 0, none⟩)] 31)).alloc (.cells #[.pointer (some ⟨f.s, 0, none⟩)] 31)).alloc (.cells #[.func (.func g) bnd cps] 26)) [.int .i64 0] 3
    simp only [World.size_alloc] at b1 b2 b3
    rw [hQ] at b1 b2 b3
    exact ⟨⟨b1, b2, b3, H.new f1, by omega, fun h => by have := hltm _ h; omega, fun h => by have := hltm _ h; omega, fun h => by have := hltm _ h; omega⟩, T.keep _ _ _ _ hJ f1 (fun k hk => hk.elim), f1, ((B0.out.alloc _).alloc _).alloc _⟩)
  have HMA := hid (rebalMover_any f.s g bnd cps (w.alloc (.cells #[.pointer (some ⟨f.s, 0, none⟩)] 31)))
  rw [World.size_alloc, hQ] at HMA
  have HBm := hid (show ∀ k, B k → ¬ f.mem k ∧ k ≠ Q + 1 ∧ k ≠ Q + 2 ∧ k ≠ Q + 3 from fun k hk => by
    have := hB k hk
    exact ⟨this.1, by omega, by omega, by omega⟩)
  have HFree := hid hfree
  have HLen := hid hl
  clear H hJ hB T hltm hfree hQ hbo
  obtain ⟨N, hN⟩ : ∃ N, σ.length = N := ⟨_, rfl⟩
  rw [hN] at hl hmx
  have HN := hid hN
  clear hN
  have p0 := B0.out.cell 0
  rw [← HQ.out] at p0
  have d1 : decide ((b : Int) < 8 * (seg : Int)) = false := decide_eq_false (by omega)
  have d2 : decide (8 * (seg : Int) + 8 ≤ (b : Int)) = false := decide_eq_false (by omega)
  have d3 : ((b : Int) != -1) = true := by rw [bne_iff_ne]; omega
  go_enter Tryz.func79, Tryz.ntmps79
  go_wp2_with (first
    | (go_at_call 143; refine HCk.out.mono ?_; rintro e w1 ⟨rfl, rfl⟩)
    | (go_at_call 39; refine HAt.out.mono ?_; rintro e w1 ⟨rfl, rfl⟩)
    | (go_at_call 145; refine HMA.out.mono ?_; rintro e w1 ⟨rfl, hw1⟩; have HM1 := hid (HMk.out w1 hw1); clear hw1))
  have hpq : w.heap.size = Q := HQ.out
  rw [hpq]
  clear p0 hpq
  have HFr3 := hid (fun (i : Int) => openFree_any HM1.out.1.r HM1.out.2.2.2 i)
  go_loopw [8, 9, 19, 20] (fun _ _ i _ wr => ∃ k : Nat, (b + 1) ≤ k ∧ k ≤ 8 * seg + 8 ∧ i = .int .i64 k ∧ Hid (∀ j, (b + 1) ≤ j → j < k → onOf σ j = true) ∧ w1 = wr) (fun _ _ i _ _ => (8 * seg + 8 - (intOf i).toNat))
  case atStart => exact ⟨(b + 1), by omega, by omega, by go_num, hid (fun j _ _ => by omega), rfl⟩
  case round =>
    obtain ⟨k, hk1, hk2, rfl, HOn, rfl⟩ := hrel
    have hlt : k < 8 * seg + 8 := by
      rcases Nat.lt_or_ge k (8 * seg + 8) with g | g
      · exact g
      · obtain ⟨j, j1, j2, j3⟩ := HFree.out
        rw [HOn.out j (by omega) (by omega)] at j3
        cases j3
    have hltI : (k : Int) < 8 * (seg : Int) + 8 := by omega
    have hfr := HFr3.out (k : Int)
    rw [atB_nat] at hfr
    have HFk := hid hfr
    clear hfr
    cases hon : onOf σ k
    · rw [hon] at HFk
      have HO := hid (show OpenRW w1 f σ (Q + 1) (Q + 2) (Q + 3) (.func (.func g) bnd cps) B J evs (8 * seg) (b + 1) k w1 from ⟨⟨[], σ, 0, ⟨.nil, hk1, hlt, hon, fun _ _ => rfl, fun _ _ => rfl, HOn.out⟩, HM1.out.1, by rw [List.append_nil]; exact HM1.out.2.1, by omega, by omega⟩, Fr.refl _ _⟩)
      clear hon hltI
      go_wp2_with (go_at_call 144; refine HFk.out.mono ?_; rintro e w5 ⟨rfl, rfl⟩)
      go_loopw [8, 9, 19, 20] (fun _ _ i _ wr => ∃ k : Nat, (b + 1) ≤ k ∧ k < 8 * seg + 8 ∧ i = .int .i64 k ∧ Hid (OpenRW w1 f σ (Q + 1) (Q + 2) (Q + 3) (.func (.func g) bnd cps) B J evs (8 * seg) (b + 1) k wr)) (fun _ _ i _ _ => (intOf i).toNat)
      case atStart => exact ⟨k, hk1, by omega, rfl, HO⟩
      case round =>
        clear hk1 hk2 hlt HO HOn
        obtain ⟨k, hk1, hk2, rfl, HW⟩ := hrel
        rcases Nat.eq_or_lt_of_le hk1 with he | hlt
        · have HE := hid (openW_right HQ.out HM1.out.2.2.1 (by omega) (show OpenRW w1 f σ (Q + 1) (Q + 2) (Q + 3) (.func (.func g) bnd cps) B J evs (8 * seg) (b + 1) (b + 1) _ from by have hh := HW.out; rw [← he] at hh; exact hh))
          have hgt : ¬ ((b : Int) + 1) < (k : Int) := by omega
          clear he
          go_wp2_with fail
          go_ret2
          exact ⟨rfl, HE.out⟩
        · have hgt : ((b : Int) + 1) < (k : Int) := by omega
          obtain ⟨k', rfl⟩ : ∃ k', k = k' + 1 := ⟨k - 1, by omega⟩
          obtain ⟨evs', τ', m, s1, s2, s3, s4, s5⟩ := HW.out.ex
          obtain ⟨x, hmm⟩ := s1.may (by omega) (by have := HLen.out; omega)
          have hst := s1.move (by omega) hmm
          have hmo := rebalMove_ok HT.out s2 s3 HBm.out s4 (by omega) x k' (k' + 1) hmm
          have e1 : ((k' + 1 : Nat) : Int) = (k' : Int) + 1 := by omega
          have HMv := hid hmo
          have HSt := hid hst
          have hk0 : (0 : Int) ≤ (k' : Int) := by omega
          rw [e1] at HMv
          clear s1 s2 s3 hmm hst hmo
          have e2 : ((k' + 1 : Nat) : Int) - 1 = (k' : Int) := by omega
          have e3 : (k' : Int) + 1 - 1 = (k' : Int) := by omega
          rw [e1]
          clear e1 e2
          rw [show ((k' + 1 : Nat) : Int) = (k' : Int) + 1 by omega] at hgt
          go_wp2_with (go_at_call 180; refine HMv.out.mono ?_; rintro e w4 ⟨rfl, hM, hJ, hF⟩; have HM4 := hid (And.intro hM (And.intro hJ hF)); clear hM hJ hF)
          refine ⟨⟨k', by omega, by omega, by go_num, hid ⟨⟨_, _, m + 1, HSt.out, HM4.out.1, ?_, by omega, by omega⟩, HW.out.fr.trans HM4.out.2.2⟩⟩, by simp [intOf]⟩
          have := HM4.out.2.1
          rw [List.append_assoc] at this
          exact this
    · rw [hon] at HFk
      have HOn2 := hid (show ∀ j, (b + 1) ≤ j → j < k + 1 → onOf σ j = true from fun j j1 j2 => by
        rcases Nat.lt_or_ge j k with g | g
        · exact HOn.out j j1 g
        · rw [show j = k by omega]; exact hon)
      clear hon hltI
      go_wp2_with (go_at_call 144; refine HFk.out.mono ?_; rintro e w5 ⟨rfl, rfl⟩)
      exact ⟨⟨k + 1, by omega, by omega, by go_num, HOn2, (by first | rfl | trivial)⟩, by simp [intOf]; omega⟩
end Go.Proofs.YtechphliifginaaGreatDoor

/- rebal: Open, leftwards (printed by mkv3.py). -/
set_option linter.unusedVariables false
set_option linter.unusedSimpArgs false
namespace Go.Proofs.YtechphliifginaaGreatDoor
open Go.RowKit

set_option maxRecDepth 100000 in
set_option maxHeartbeats 4000000 in
theorem rebalOpen_left {f : SF} {σ : List (Option Int)} {g : FuncId} {bnd cps : Array Value} {B : Nat → Prop} {J : List Ev → World → Prop} (T : Teller g bnd cps B J) {w : World} {evs : List Ev}
    (H : SlotsR w f σ) (hJ : J evs w) (hB : ∀ k, B k → ¬ f.mem k ∧ k < w.heap.size) (seg : Nat) (hl : 8 * (seg + 1) ≤ σ.length) (h512 : seg + 1 ≤ 512) (b : Nat) (hb1 : 8 * seg ≤ b) (hb2 : b < 8 * seg + 8) (hbo : onOf σ b = true)
    (hfree : ∃ j, 8 * seg ≤ j ∧ j < b ∧ onOf σ j = false) (hall : ∀ j, b + 1 ≤ j → j < 8 * seg + 8 → onOf σ j = true) :
    Calls Tryz.prog 79 #[.pointer (some ⟨f.s, 0, none⟩), .int .i64 seg, (.int .i64 b), .func (.func g) bnd cps] w fun e w' => e = .returned (.tuple #[.int .i64 b, .int .i64 0]) ∧ OpenW w f σ B J evs (8 * seg) (b + 1) (b) w' := by
  have hG := H.g.size
  have hmx := H.bits.n2
  have HT := hid T
  have HS := hid H
  have hltm := H.lt
  obtain ⟨Q, hQ⟩ : ∃ Q, w.heap.size = Q := ⟨_, rfl⟩
  have HQ := hid hQ
  have F0 := hid (show Fr Nil1 w (w.alloc (.cells #[.pointer (some ⟨f.s, 0, none⟩)] 31)) from (Fr.refl _ _).alloc _)
  have B0 := hid (show Has (w.alloc (.cells #[.pointer (some ⟨f.s, 0, none⟩)] 31)) Q [.pointer (some ⟨f.s, 0, none⟩)] 31 from hQ ▸ Has.new w _ _)
  have HCk := hid (rebalCheck_ok (H.new F0.out) seg 1 (by omega) (by omega) (by omega))
  have HAt := hid (gapsAt_any (H.new F0.out) (b : Int))
  rw [atB_nat, hbo] at HAt
  have HMk := hid (show ∀ w1, ((((w.alloc (.cells #[.pointer (some ⟨f.s, 0, none⟩)] 31)).alloc (.cells #[.pointer (some ⟨f.s, 0, none⟩)] 31)).alloc (.cells #[.func (.func g) bnd cps] 26)).alloc (.cells #[.int .i64 0] 3)) = w1 → MvR w1 f σ (Q + 1) (Q + 2) (Q + 3) (.func (.func g) bnd cps) 0 ∧ J evs w1 ∧ Fr Nil1 w w1 ∧ Has w1 Q [.pointer (some ⟨f.s, 0, none⟩)] 31 from by
    rintro w1 rfl
    have f1 : Fr Nil1 w ((((w.alloc (.cells #[.pointer (some ⟨f.s, 0, none⟩)] 31)).alloc (.cells #[.pointer (some ⟨f.s, 0, none⟩)] 31)).alloc (.cells #[.func (.func g) bnd cps] 26)).alloc (.cells #[.int .i64 0] 3)) := ((F0.out.alloc _).alloc _).alloc _
    have b1 := ((Has.new (w.alloc (.cells #[.pointer (some ⟨f.s, 0, none⟩)] 31)) [.pointer (some ⟨f.s, 0, none⟩)] 31).alloc (.cells #[.func (.func g) bnd cps] 26)).alloc (.cells #[.int .i64 0] 3)
    have b2 := (Has.new ((w.alloc (.cells #[.pointer (some ⟨f.s, 0, none⟩)] 31)).alloc (.cells #[.pointer (some ⟨f.s, 0, none⟩)] 31)) [.func (.func g) bnd cps] 26).alloc (.cells #[.int .i64 0] 3)
    have b3 := Has.new (((w.alloc (.cells #[.pointer (some ⟨f.s, 0, none⟩)] 31)).alloc (.cells #[.pointer (some ⟨f.s, 0, none⟩)] 31)).alloc (.cells #[.func (.func g) bnd cps] 26)) [.int .i64 0] 3
    simp only [World.size_alloc] at b1 b2 b3
    rw [hQ] at b1 b2 b3
    exact ⟨⟨b1, b2, b3, H.new f1, by omega, fun h => by have := hltm _ h; omega, fun h => by have := hltm _ h; omega, fun h => by have := hltm _ h; omega⟩, T.keep _ _ _ _ hJ f1 (fun k hk => hk.elim), f1, ((B0.out.alloc _).alloc _).alloc _⟩)
  have HMA := hid (rebalMover_any f.s g bnd cps (w.alloc (.cells #[.pointer (some ⟨f.s, 0, none⟩)] 31)))
  rw [World.size_alloc, hQ] at HMA
  have HBm := hid (show ∀ k, B k → ¬ f.mem k ∧ k ≠ Q + 1 ∧ k ≠ Q + 2 ∧ k ≠ Q + 3 from fun k hk => by
    have := hB k hk
    exact ⟨this.1, by omega, by omega, by omega⟩)
  have HFree := hid hfree
  have HAll := hid hall
  have HLen := hid hl
  clear H hJ hB T hltm hfree hQ hbo hall
  obtain ⟨N, hN⟩ : ∃ N, σ.length = N := ⟨_, rfl⟩
  rw [hN] at hl hmx
  have HN := hid hN
  clear hN
  have p0 := B0.out.cell 0
  rw [← HQ.out] at p0
  have d1 : decide ((b : Int) < 8 * (seg : Int)) = false := decide_eq_false (by omega)
  have d2 : decide (8 * (seg : Int) + 8 ≤ (b : Int)) = false := decide_eq_false (by omega)
  have d3 : ((b : Int) != -1) = true := by rw [bne_iff_ne]; omega
  go_enter Tryz.func79, Tryz.ntmps79
  go_wp2_with (first
    | (go_at_call 143; refine HCk.out.mono ?_; rintro e w1 ⟨rfl, rfl⟩)
    | (go_at_call 39; refine HAt.out.mono ?_; rintro e w1 ⟨rfl, rfl⟩)
    | (go_at_call 145; refine HMA.out.mono ?_; rintro e w1 ⟨rfl, hw1⟩; have HM1 := hid (HMk.out w1 hw1); clear hw1))
  have hpq : w.heap.size = Q := HQ.out
  rw [hpq]
  clear p0 hpq
  have HFr3 := hid (fun (i : Int) => openFree_any HM1.out.1.r HM1.out.2.2.2 i)
  go_loopw [8, 9, 19, 20] (fun _ _ i _ wr => ∃ k : Nat, (b + 1) ≤ k ∧ k ≤ 8 * seg + 8 ∧ i = .int .i64 k ∧ Hid (∀ j, (b + 1) ≤ j → j < k → onOf σ j = true) ∧ w1 = wr) (fun _ _ i _ _ => (8 * seg + 8 - (intOf i).toNat))
  case atStart => exact ⟨(b + 1), by omega, by omega, by go_num, hid (fun j _ _ => by omega), rfl⟩
  case round =>
    obtain ⟨k, hk1, hk2, rfl, HOn, rfl⟩ := hrel
    by_cases hlt : k < 8 * seg + 8
    · have hltI : (k : Int) < 8 * (seg : Int) + 8 := by omega
      have hfr := HFr3.out (k : Int)
      rw [atB_nat, HAll.out k (by omega) hlt] at hfr
      have HFk := hid hfr
      have HOn2 := hid (show ∀ j, (b + 1) ≤ j → j < k + 1 → onOf σ j = true from fun j j1 j2 => HAll.out j j1 (by omega))
      clear hfr
      go_wp2_with (go_at_call 144; refine HFk.out.mono ?_; rintro e w5 ⟨rfl, rfl⟩)
      exact ⟨⟨k + 1, by omega, by omega, by go_num, HOn2, (by first | rfl | trivial)⟩, by simp [intOf]; omega⟩
    · have hltI : ¬ (k : Int) < 8 * (seg : Int) + 8 := by omega
      go_wp2_with fail
      clear hltI hlt hk1 hk2 HOn
      go_loopw [8, 9, 21, 22] (fun _ _ i _ wr => ∃ k : Nat, 8 * seg ≤ k ∧ k ≤ b ∧ i = .int .i64 k ∧ Hid (∀ j, k < j → j ≤ b → onOf σ j = true) ∧ w1 = wr) (fun _ _ i _ _ => (intOf i).toNat)
      case atStart => exact ⟨b, by omega, by omega, by go_num, hid (fun j _ _ => by omega), rfl⟩
      case round =>
        obtain ⟨k, hk1, hk2, rfl, HOn, rfl⟩ := hrel
        have hge : 8 * (seg : Int) ≤ (k : Int) := by omega
        have hfr := HFr3.out (k : Int)
        rw [atB_nat] at hfr
        have HFk := hid hfr
        clear hfr
        cases hon : onOf σ k
        · rw [hon] at HFk
          have HO := hid (show OpenLW w1 f σ (Q + 1) (Q + 2) (Q + 3) (.func (.func g) bnd cps) B J evs (8 * seg) b k w1 from ⟨⟨[], σ, 0, ⟨.nil, hk1, hk2, hon, fun _ _ => rfl, fun _ _ => rfl, HOn.out⟩, HM1.out.1, by rw [List.append_nil]; exact HM1.out.2.1, by omega, by omega⟩, Fr.refl _ _⟩)
          clear hon hge
          go_wp2_with (go_at_call 144; refine HFk.out.mono ?_; rintro e w5 ⟨rfl, rfl⟩)
          go_loopw [8, 9, 21, 22] (fun _ _ i _ wr => ∃ k : Nat, k ≤ b ∧ i = .int .i64 k ∧ Hid (OpenLW w1 f σ (Q + 1) (Q + 2) (Q + 3) (.func (.func g) bnd cps) B J evs (8 * seg) b k wr)) (fun _ _ i _ _ => b - (intOf i).toNat)
          case atStart => exact ⟨k, hk2, rfl, HO⟩
          case round =>
            clear hk1 hk2 HO HOn
            obtain ⟨k, hk2, rfl, HW⟩ := hrel
            rcases Nat.eq_or_lt_of_le hk2 with he | hlt
            · have HE := hid (openW_left HQ.out HM1.out.2.2.1 hb2 (by have := HLen.out; omega) (show OpenLW w1 f σ (Q + 1) (Q + 2) (Q + 3) (.func (.func g) bnd cps) B J evs (8 * seg) b b _ from by have hh := HW.out; rw [he] at hh; exact hh))
              have hgt : ¬ (k : Int) < (b : Int) := by omega
              clear he
              go_wp2_with fail
              go_ret2
              exact ⟨rfl, HE.out⟩
            · have hgt : (k : Int) < (b : Int) := by omega
              obtain ⟨evs', τ', m, s1, s2, s3, s4, s5⟩ := HW.out.ex
              obtain ⟨x, hmm⟩ := s1.may hlt
              have hst := s1.move hlt hmm
              have hmo := rebalMove_ok HT.out s2 s3 HBm.out s4 (by omega) x (k + 1) k hmm
              rw [show ((k + 1 : Nat) : Int) = (k : Int) + 1 by omega] at hmo
              have HMv := hid hmo
              have HSt := hid hst
              clear s1 s2 s3 hmm hst hmo
              go_wp2_with (go_at_call 180; refine HMv.out.mono ?_; rintro e w4 ⟨rfl, hM, hJ, hF⟩; have HM4 := hid (And.intro hM (And.intro hJ hF)); clear hM hJ hF)
              refine ⟨⟨k + 1, by omega, by go_num, hid ⟨⟨_, _, m + 1, HSt.out, HM4.out.1, ?_, by omega, by omega⟩, HW.out.fr.trans HM4.out.2.2⟩⟩, by simp [intOf]; omega⟩
              have := HM4.out.2.1
              rw [List.append_assoc] at this
              exact this
        · rw [hon] at HFk
          have hkp : 8 * seg < k := by
            rcases Nat.lt_or_ge (8 * seg) k with g | g
            · exact g
            · obtain ⟨j, j1, j2, j3⟩ := HFree.out
              rcases Nat.eq_or_lt_of_le j1 with e | e
              · rw [show k = j by omega, j3] at hon; cases hon
              · rw [HOn.out j (by omega) (by omega)] at j3; cases j3
          have HOn2 := hid (show ∀ j, k - 1 < j → j ≤ b → onOf σ j = true from fun j j1 j2 => by
            rcases Nat.eq_or_lt_of_le (show k ≤ j by omega) with g | g
            · rw [← g]; exact hon
            · exact HOn.out j g j2)
          clear hon
          go_wp2_with (go_at_call 144; refine HFk.out.mono ?_; rintro e w5 ⟨rfl, rfl⟩)
          exact ⟨⟨k - 1, by omega, by omega, by go_num, HOn2, (by first | rfl | trivial)⟩, by simp [intOf]; omega⟩
end Go.Proofs.YtechphliifginaaGreatDoor
