/- In one: V1, V2. -/
import Derived.Test.YtechphliifginaaGreatDoorGF
import Derived.Test.YtechphliifginaaGreatDoorGC
import Derived.Test.YtechphliifginaaGreatDoorGD
/- rebal: check; who is told; the mover. -/
set_option linter.unusedVariables false
set_option linter.unusedSimpArgs false
namespace Go.Proofs.YtechphliifginaaGreatDoor
open Go.RowKit

theorem rebalCheck_ok {f : SF} {σ : List (Option Int)} {w : World} (h : SlotsR w f σ) (first segs : Nat) (h1 : 1 ≤ segs) (h2 : first + segs ≤ 512) (h3 : 8 * (first + segs) ≤ σ.length) :
    Calls Tryz.prog 143 #[.pointer (some ⟨f.s, 0, none⟩), .int .i64 first, .int .i64 segs] w fun e w' => e = .returned (.int .i64 0) ∧ w = w' := by
  have HC := hid (gapsCap_any h)
  obtain ⟨N, hN⟩ : ∃ N, σ.length = N := ⟨_, rfl⟩
  rw [hN] at HC h3
  clear h hN
  have d1 : decide ((segs : Int) < 1) = false := decide_eq_false (by omega)
  have d2 : decide (512 < (segs : Int)) = false := decide_eq_false (by omega)
  have d3 : decide ((first : Int) < 0) = false := decide_eq_false (by omega)
  have d4 : decide (512 - (segs : Int) < (first : Int)) = false := decide_eq_false (by omega)
  have d5 : decide ((N : Int) < 8 * ((first : Int) + segs)) = false := decide_eq_false (by omega)
  go_enter Tryz.func143, Tryz.ntmps143
  go_wp2_with (go_at_call 38; refine HC.out.mono ?_; rintro e w1 ⟨rfl, rfl⟩)
  go_ret
  exact ⟨rfl, rfl⟩

/-- Who is told: a function value, and what holds of what it has heard; B: the blocks that it may turn. -/
structure Teller (g : FuncId) (bnd cps : Array Value) (B : Nat → Prop) (J : List Ev → World → Prop) : Prop where
  enters : Enters Tryz.prog g
  call : ∀ evs x i j w, J evs w → Calls Tryz.prog g (bnd ++ (#[.int .i64 x, .int .i64 i, .int .i64 j] ++ cps)) w fun e w' => (∃ v, e = .returned v) ∧ J (evs ++ [(x, i, j)]) w' ∧ Fr B w w'
  keep : ∀ evs w w' S, J evs w → Fr S w w' → (∀ k, S k → ¬ B k) → J evs w'

/-- The mover's boxes, and the array. -/
structure MvR (w : World) (f : SF) (σ : List (Option Int)) (bs bt bn : Nat) (told : Value) (n : Int) : Prop where
  s : Has w bs [.pointer (some ⟨f.s, 0, none⟩)] 31
  t : Has w bt [told] 26
  n : Has w bn [.int .i64 n] 3
  r : SlotsR w f σ
  gn : NG ≤ bn
  ns : ¬ f.mem bs
  nt : ¬ f.mem bt
  nn : ¬ f.mem bn
def ChgM (f : SF) (bn : Nat) (B : Nat → Prop) (k : Nat) : Prop := f.chg k ∨ k = bn ∨ B k
theorem rebalMover_any (f : Nat) (g : FuncId) (bnd cps : Array Value) (w : World) : Calls Tryz.prog 145 #[.pointer (some ⟨f, 0, none⟩), .func (.func g) bnd cps] w fun e w' =>
    e = .returned (.tuple #[.func (.func 180) #[] #[.pointer (some ⟨w.heap.size, 0, none⟩), .pointer (some ⟨w.heap.size + 2, 0, none⟩), .pointer (some ⟨w.heap.size + 1, 0, none⟩)], .pointer (some ⟨w.heap.size + 2, 0, none⟩)]) ∧
    (((w.alloc (.cells #[.pointer (some ⟨f, 0, none⟩)] 31)).alloc (.cells #[.func (.func g) bnd cps] 26)).alloc (.cells #[.int .i64 0] 3)) = w' := by
  go_enter Tryz.func145, Tryz.ntmps145
  go_wp2_with fail

  go_ret2
  exact ⟨rfl, rfl⟩

theorem MvR.fr {w w' : World} {f : SF} {σ : List (Option Int)} {bs bt bn : Nat} {told : Value} {n : Int} {S : Nat → Prop} (H : MvR w f σ bs bt bn told n) (hf : Fr S w w') (h1 : ∀ k, f.mem k → ¬ S k) (h2 : ¬ S bs) (h3 : ¬ S bt) (h4 : ¬ S bn) : MvR w' f σ bs bt bn told n :=
  ⟨H.s.fr' hf h2, H.t.fr' hf h3, H.n.fr' hf h4, H.r.fr hf h1, H.gn, H.ns, H.nt, H.nn⟩
theorem rebalMove_stay {bs bt bn : Nat} (i : Int) (w : World) :
    Calls Tryz.prog 180 #[.int .i64 i, .int .i64 i, .pointer (some ⟨bs, 0, none⟩), .pointer (some ⟨bn, 0, none⟩), .pointer (some ⟨bt, 0, none⟩)] w fun e w' => e = .returned (.int .i64 0) ∧ w = w' := by
  go_enter Tryz.func180, Tryz.ntmps180
  go_wp2_with fail
  go_ret
  exact ⟨rfl, rfl⟩

set_option maxRecDepth 100000 in
set_option maxHeartbeats 1000000 in
theorem rebalMove_ok {f : SF} {σ : List (Option Int)} {bs bt bn : Nat} {g : FuncId} {bnd cps : Array Value} {B : Nat → Prop} {J : List Ev → World → Prop} (T : Teller g bnd cps B J) {w : World} {n : Int} {evs : List Ev}
    (H : MvR w f σ bs bt bn (.func (.func g) bnd cps) n) (hJ : J evs w) (hB : ∀ k, B k → ¬ f.mem k ∧ k ≠ bs ∧ k ≠ bt ∧ k ≠ bn) (hn : 0 ≤ n) (hn2 : n ≤ 1000000000) (x : Int) (i j : Nat) (hm : MayMove σ x i j) :
    Calls Tryz.prog 180 #[.int .i64 i, .int .i64 j, .pointer (some ⟨bs, 0, none⟩), .pointer (some ⟨bn, 0, none⟩), .pointer (some ⟨bt, 0, none⟩)] w fun e w' => e = .returned (.int .i64 0) ∧
      MvR w' f (mvS σ i j) bs bt bn (.func (.func g) bnd cps) (n + 1) ∧ J (evs ++ [(x, (i : Int), (j : Int))]) w' ∧ Fr (ChgM f bn B) w w' := by
  have hne : (i : Int) ≠ j := by have := hm.ne; omega
  have hb : ((i : Int) == (j : Int)) = false := beq_eq_false_iff_ne.2 hne
  have hj : onOf σ j = false := hm.free
  have hil := hm.hi
  have hjl := hm.hj
  have HAt := hid (gapsAt_any H.r (i : Int))
  have e1 : atV σ (i : Int) = x := by unfold atV; rw [if_pos (by omega), Int.toNat_natCast, hm.hx]; rfl
  rw [e1] at HAt
  have HMv := hid (gapsMove_ok H.r (i : Int) (j : Int) x (by omega) (by omega) (by omega) (by omega) (by rw [Int.toNat_natCast]; exact hm.hx) (by rw [Int.toNat_natCast]; exact hj))
  rw [Int.toNat_natCast, Int.toNat_natCast] at HMv
  have hs := H.s.cell 0
  have hbt : bt ≠ bn := H.t.ne H.n (by decide)
  have hbt' : bn ≠ bt := fun e => hbt e.symm
  have HH := hid H
  have HJ := hid hJ
  have HB := hid hB
  have HT := hid T
  have HK := hid (fun (w1 : World) (hS : SlotsR w1 f (mvS σ i j)) (hF : Fr f.chg w w1) => show (Has w1 bs [.pointer (some ⟨f.s, 0, none⟩)] 31 ∧ Has w1 bt [.func (.func g) bnd cps] 26 ∧ Has w1 bn [.int .i64 n] 3) ∧ J evs w1 from
    ⟨⟨H.s.fr' hF (fun h => H.ns (SF.chg_mem h)), H.t.fr' hF (fun h => H.nt (SF.chg_mem h)), H.n.fr' hF (fun h => H.nn (SF.chg_mem h))⟩, T.keep _ _ _ _ hJ hF (fun k hk hb => (hB k hb).1 (SF.chg_mem hk))⟩)
  have hent : ∀ (args : Array Value) (W : World), Sem.run Tryz.prog (callFunc g args) W = .ok (.enter g args) W := T.enters
  have he : ∀ W : World, (binOp .neq 26 (.func (.func g) bnd cps) Value.nilFunc).run Tryz.prog W = .ok (.bool true) W := fun _ => rfl
  clear hm e1 hJ hB hj T
  go_enter Tryz.func180, Tryz.ntmps180
  go_wp2_with (first
    | (go_at_call 39; refine HAt.out.mono ?_; rintro e w1 ⟨rfl, rfl⟩)
    | (go_at_call 181; refine HMv.out.mono ?_; rintro e w1 ⟨rfl, hS, hF⟩; have HS1 := hid hS; have HF1 := hid hF; have hk := HK.out w1 hS hF; have HK1 := hid hk; obtain ⟨n0, nf⟩ := HK1.out.1.2.2.one; obtain ⟨t0, tf⟩ := HK1.out.1.2.1.one; clear hS hF hk)
    | (go_at_fn g; refine (HT.out.call evs x (i : Int) (j : Int) _ (HT.out.keep _ _ _ _ HK1.out.2 ((Fr.refl (fun k => k = bn) w1).setCell ⟨bn, 0, none⟩ (.int .i64 (n + 1)) HH.out.gn (fun _ => rfl)) (fun k hk hb => (HB.out k hb).2.2.2 hk))).mono ?_; rintro e w2 ⟨⟨v, rfl⟩, hJ2, hF2⟩; have HJ2 := hid hJ2; have HF2 := hid hF2; clear hJ2 hF2))
  go_ret
  have hF12 := (Fr.refl (fun k => k = bn) w1).setCell ⟨bn, 0, none⟩ (.int .i64 (n + 1)) HH.out.gn (fun _ => rfl)
  have hb := HB.out
  refine ⟨rfl, ⟨?_, ?_, ?_, ?_, HH.out.gn, HH.out.ns, HH.out.nt, HH.out.nn⟩, HJ2.out, ?_⟩
  · exact ((HK1.out.1.1.fr' hF12 (HH.out.s.ne HH.out.n (by decide))).fr' HF2.out (fun h => (hb _ h).2.1 rfl))
  · exact ((HK1.out.1.2.1.fr' hF12 hbt).fr' HF2.out (fun h => (hb _ h).2.2.1 rfl))
  · exact (HK1.out.1.2.2.set 0 (.int .i64 (n + 1))).fr' HF2.out (fun h => (hb _ h).2.2.2 rfl)
  · exact (HS1.out.fr hF12 (fun k hk e => HH.out.nn (e ▸ hk))).fr HF2.out (fun k hk h => (hb _ h).1 hk)
  · exact ((HF1.out.mono (fun _ _ h => .inl h)).trans' hF12 (fun _ _ _ h => .inr (.inl h))).trans' HF2.out (fun _ _ _ h => .inr (.inr h))
end Go.Proofs.YtechphliifginaaGreatDoor

/- rebal: pack, Even. -/
set_option linter.unusedVariables false
set_option linter.unusedSimpArgs false
namespace Go.Proofs.YtechphliifginaaGreatDoor
open Go.RowKit

def moverV (bs bt bn : Nat) : Value := .func (.func 180) #[] #[.pointer (some ⟨bs, 0, none⟩), .pointer (some ⟨bn, 0, none⟩), .pointer (some ⟨bt, 0, none⟩)]
/-- What a round of packing holds. -/
structure PackW (w0 : World) (f : SF) (σ : List (Option Int)) (bs bt bn : Nat) (told : Value) (B : Nat → Prop) (J : List Ev → World → Prop) (evs0 : List Ev) (base d : Nat) (τ : List (Option Int)) (n : Nat) (wr : World) : Prop where
  ex : ∃ evs m, PackI σ base d τ n evs ∧ MvR wr f τ bs bt bn told m ∧ J (evs0 ++ evs) wr ∧ 0 ≤ m ∧ m ≤ d
  fr : Fr (ChgM f bn B) w0 wr

set_option maxRecDepth 100000 in
set_option maxHeartbeats 2000000 in
theorem rebalPack_ok {f : SF} {σ : List (Option Int)} {bs bt bn : Nat} {g : FuncId} {bnd cps : Array Value} {B : Nat → Prop} {J : List Ev → World → Prop} (T : Teller g bnd cps B J) {w : World} {evs : List Ev}
    (H : MvR w f σ bs bt bn (.func (.func g) bnd cps) 0) (hJ : J evs w) (hB : ∀ k, B k → ¬ f.mem k ∧ k ≠ bs ∧ k ≠ bt ∧ k ≠ bn) (first segs : Nat) (hl : 8 * (first + segs) ≤ σ.length) (h512 : first + segs ≤ 512) :
    Calls Tryz.prog 175 #[.pointer (some ⟨f.s, 0, none⟩), .int .i64 first, .int .i64 segs, moverV bs bt bn] w fun e w' => ∃ n τ, e = .returned (.tuple #[.int .i64 (n : Nat), .int .i64 0]) ∧
      PackW w f σ bs bt bn (.func (.func g) bnd cps) B J evs (8 * first) (8 * segs) τ n w' := by
  have HNx := hid (fun τ w' (hs : SlotsR w' f τ) (i : Int) (h0 : 0 ≤ i) => gapsNext_any hs i h0)
  have H0 := hid (show PackW w f σ bs bt bn (.func (.func g) bnd cps) B J evs (8 * first) 0 σ 0 w from ⟨⟨[], 0, PackI.zero _ _, H, by rw [List.append_nil]; exact hJ, by omega, by omega⟩, Fr.refl _ _⟩)
  have HS := hid H.r
  have HB := hid hB
  have HT := hid T
  have hmx := H.r.bits.n2
  have hent := hid (enters_of Tryz.func180 (by kernel_rfl) rfl)
  obtain ⟨N, hN⟩ : ∃ N, σ.length = N := ⟨_, rfl⟩
  rw [hN] at hl hmx
  have HN := hid hN
  clear H hJ hB T hN
  unfold moverV
  go_enter Tryz.func175, Tryz.ntmps175
  have hn0 := HNx.out σ w HS.out (8 * (first : Int)) (by omega)
  rw [HN.out] at hn0
  have HN0 := hid hn0
  clear hn0
  go_wp2_with (go_at_call 133; refine HN0.out.mono ?_; rintro e w1 ⟨rfl, rfl⟩)
  go_loopw [8, 9, 12, 13, 14] (fun _ _ nn i _ wr => ∃ (d n : Nat) (τ : List (Option Int)), d ≤ 8 * segs ∧ n ≤ d ∧ nn = .int .i64 n ∧ i = .int .i64 (nxt (onOf τ) N ((8 * first + d : Nat) : Int)) ∧ Hid (PackW w f σ bs bt bn (.func (.func g) bnd cps) B J evs (8 * first) d τ n wr)) (fun _ _ _ i _ _ => leftOf N i)
  case atStart =>
    refine ⟨0, 0, σ, by omega, by omega, rfl, ?_, H0⟩
    rw [show ((8 * first + 0 : Nat) : Int) = 8 * (first : Int) by omega]
  case round =>
    obtain ⟨d, n, τ, hd, hnd, rfl, rfl, HP⟩ := hrel
    have hτ : τ.length = N := by
      obtain ⟨evs', m, h1, _⟩ := HP.out.ex
      rw [h1.steps.length, HN.out]
    have HTau := hid hτ
    rcases nxt_cases (onOf τ) N ((8 * first + d : Nat) : Int) with ⟨hn, hno⟩ | ⟨r, hn, h1, h2, h3, h4⟩
    · have HE := hid (show PackW w f σ bs bt bn (.func (.func g) bnd cps) B J evs (8 * first) (8 * segs) τ n wr from by
        obtain ⟨evs', m, p1, p2, p3, p4, p5⟩ := HP.out.ex
        exact ⟨⟨evs', m, p1.skip (8 * segs) hd (fun k k1 k2 => by rw [← onOf_eq (p1.out k (.inr k1))]; exact hno k (by omega) (by omega)), p2, p3, p4, by omega⟩, HP.out.fr⟩)
      rw [hn]
      clear hn hno hτ
      go_wp2_with fail
      go_ret2
      exact ⟨n, τ, rfl, HE.out⟩
    · rw [hn]
      have H4 := hid h4
      have H3 := hid h3
      have hr0 : (0 : Int) ≤ (r : Int) := by omega
      by_cases hend : r < 8 * first + 8 * segs
      · have hendI : (r : Int) < 8 * (first : Int) + 8 * (segs : Int) := by omega
        have hrd : 8 * first + d ≤ r := by omega
        obtain ⟨evs', m, p1, p2, p3, p4, p5⟩ := HP.out.ex
        have hon : onOf σ r = true := by rw [← onOf_eq (p1.out r (.inr hrd))]; exact h3
        obtain ⟨x, hx⟩ := onOf_true hon
        have p1' := p1.skip (r - 8 * first) (by omega) (fun k k1 k2 => by rw [← onOf_eq (p1.out k (.inr k1))]; exact h4 k (by omega) (by omega))
        have er : 8 * first + (r - 8 * first) = r := by omega
        have e2 : ((8 * first + n : Nat) : Int) = 8 * (first : Int) + (n : Int) := by omega
        have v1 : IntKind.i64.wrap (8 * (first : Int) + (n : Int)) = 8 * (first : Int) + (n : Int) := IntWalk.i64_in _ (by omega)
        have HFr := hid HP.out.fr
        by_cases hst : n = r - 8 * first
        · have HW2 := hid (show PackW w f σ bs bt bn (.func (.func g) bnd cps) B J evs (8 * first) (r - 8 * first + 1) τ (n + 1) wr from by
            rw [hst] at p1' ⊢
            exact ⟨⟨evs', m, p1'.stay (by rw [er]; exact hon), p2, p3, p4, by omega⟩, HFr.out⟩)
          have HMv := hid (rebalMove_stay (bs := bs) (bt := bt) (bn := bn) (r : Int) wr)
          have e3 : (r : Int) = 8 * (first : Int) + (n : Int) := by omega
          rw [e3] at HMv
          have hn1 := HNx.out τ wr p2.r ((r : Int) + 1) (by omega)
          rw [hτ] at hn1
          have HN1 := hid hn1
          have E3 := hid e3
          have hent' := hent.out
          clear hn hn1 h3 h4 hx hon p1 p1' p2 p3 hτ e2 hst er
          have q : (8 * (first : Int) + (n : Int) = (r : Int)) := e3.symm
          clear e3
          go_wp2_with (first
            | (go_at_call 180; with_reducible refine (E3.out ▸ HMv.out).mono ?_; rintro e w1 ⟨rfl, rfl⟩)
            | (go_at_call 133; refine HN1.out.mono ?_; rintro e w1 ⟨rfl, rfl⟩))
          refine ⟨⟨r - 8 * first + 1, n + 1, τ, by omega, by have := E3.out; omega, by go_num, by rw [show ((8 * first + (r - 8 * first + 1) : Nat) : Int) = (r : Int) + 1 by omega], HW2⟩, ?_⟩
          apply leftOf_lt _ _ _ h2
          rcases nxt_cases (onOf τ) N ((r : Int) + 1) with ⟨hn, _⟩ | ⟨q, hn, g1, _⟩
          · exact .inl hn
          · exact .inr ⟨q, hn, by omega⟩
        · have hlt : n < r - 8 * first := by omega
          have hmv := p1'.may hlt (by rw [er]; exact hx)
          have hstep := p1'.move hlt (by rw [er]; exact hx)
          rw [er] at hmv hstep
          have hmo := rebalMove_ok HT.out p2 p3 HB.out p4 (by omega) x r (8 * first + n) hmv
          rw [e2] at hmo
          have HMv := hid hmo
          have HSt := hid hstep
          have HN1 := hid (fun w1 (h : SlotsR w1 f (mvS τ r (8 * first + n))) => show Calls Tryz.prog 133 #[.pointer (some ⟨f.s, 0, none⟩), .int .i64 ((r : Int) + 1)] w1 fun e w' => e = .returned (.int .i64 (nxt (onOf (mvS τ r (8 * first + n))) N ((r : Int) + 1))) ∧ w1 = w' by
            have := HNx.out _ w1 h ((r : Int) + 1) (by omega)
            rwa [mvS_length, hτ] at this)
          have hent' := hent.out
          have HLt := hid hlt
          clear hn h3 h4 hx hon p1 p1' p2 p3 hτ hst er hmv hstep hmo hlt
          go_wp2_with (first
            | (go_at_call 180; refine HMv.out.mono ?_; rintro e w1 ⟨rfl, hM, hJ, hF⟩; have HM1 := hid (And.intro hM (And.intro hJ hF)); clear hM hJ hF)
            | (go_at_call 133; refine (HN1.out _ HM1.out.1.r).mono ?_; rintro e w2 ⟨rfl, rfl⟩))
          have hlt := HLt.out
          refine ⟨⟨r - 8 * first + 1, n + 1, mvS τ r (8 * first + n), by omega, by omega, by go_num, by rw [show ((8 * first + (r - 8 * first + 1) : Nat) : Int) = (r : Int) + 1 by omega], hid ⟨⟨_, m + 1, HSt.out, HM1.out.1, ?_, by omega, by omega⟩, HFr.out.trans HM1.out.2.2⟩⟩, ?_⟩
          · have := HM1.out.2.1
            rw [List.append_assoc] at this
            rw [e2]
            exact this
          · apply leftOf_lt _ _ _ h2
            rcases nxt_cases (onOf (mvS τ r (8 * first + n))) N ((r : Int) + 1) with ⟨hn, _⟩ | ⟨q, hn, g1, _⟩
            · exact .inl hn
            · exact .inr ⟨q, hn, by omega⟩
      · have hendI : ¬ (r : Int) < 8 * (first : Int) + 8 * (segs : Int) := by omega
        have HE := hid (show PackW w f σ bs bt bn (.func (.func g) bnd cps) B J evs (8 * first) (8 * segs) τ n wr from by
          obtain ⟨evs', m, p1, p2, p3, p4, p5⟩ := HP.out.ex
          exact ⟨⟨evs', m, p1.skip (8 * segs) hd (fun k k1 k2 => by rw [← onOf_eq (p1.out k (.inr k1))]; exact h4 k (by omega) (by omega)), p2, p3, p4, by omega⟩, HP.out.fr⟩)
        clear hn h3 h4 hτ
        go_wp2_with fail
        go_ret2
        exact ⟨n, rfl, τ, HE.out⟩

/-- What Even leaves, and who has been told. -/
structure EvenW (w : World) (f : SF) (σ : List (Option Int)) (B : Nat → Prop) (J : List Ev → World → Prop) (evs0 : List Ev) (first segs : Nat) (w' : World) : Prop where
  ex : ∃ evs τ, Steps σ evs τ ∧ EvenR σ (8 * first) (8 * segs) (plcL (winC σ first segs) first segs) τ ∧ SlotsR w' f τ ∧ J (evs0 ++ evs) w'
  fr : Fr (fun k => f.chg k ∨ B k) w w'
structure SprW (w0 : World) (f : SF) (σ : List (Option Int)) (bs bt bn : Nat) (told : Value) (B : Nat → Prop) (J : List Ev → World → Prop) (evs0 : List Ev) (base D : Nat) (ps : List Int) (i : Nat) (wr : World) : Prop where
  ex : ∃ evs τ m, SpreadI σ base D ps i τ evs ∧ MvR wr f τ bs bt bn told m ∧ J (evs0 ++ evs) wr ∧ 0 ≤ m ∧ m + i ≤ 8192
  fr : Fr (ChgM f bn B) w0 wr

set_option maxRecDepth 100000 in
set_option maxHeartbeats 4000000 in
theorem rebalEven_ok {f : SF} {σ : List (Option Int)} {g : FuncId} {bnd cps : Array Value} {B : Nat → Prop} {J : List Ev → World → Prop} (T : Teller g bnd cps B J) {w : World} {evs : List Ev}
    (H : SlotsR w f σ) (hJ : J evs w) (hB : ∀ k, B k → ¬ f.mem k ∧ k < w.heap.size) (first segs : Nat) (h1 : 1 ≤ segs) (hl : 8 * (first + segs) ≤ σ.length) (h512 : first + segs ≤ 512) :
    Calls Tryz.prog 138 #[.pointer (some ⟨f.s, 0, none⟩), .int .i64 first, .int .i64 segs, .func (.func g) bnd cps] w fun e w' => ∃ m : Int, e = .returned (.tuple #[.int .i64 m, .int .i64 0]) ∧ EvenW w f σ B J evs first segs w' := by
  have hG := H.g.size
  have HCk := hid (rebalCheck_ok H first segs h1 h512 hl)
  have HT := hid T
  have HB := hid hB
  have HS := hid H
  have HJ := hid hJ
  have hlt := H.lt
  have hwl := winC_le σ first segs
  have hcn := cntOn_win σ first segs
  obtain ⟨Q, hQ⟩ : ∃ Q, w.heap.size = Q := ⟨_, rfl⟩
  have HMk := hid (show ∀ w1, (((w.alloc (.cells #[.pointer (some ⟨f.s, 0, none⟩)] 31)).alloc (.cells #[.func (.func g) bnd cps] 26)).alloc (.cells #[.int .i64 0] 3)) = w1 → MvR w1 f σ Q (Q + 1) (Q + 2) (.func (.func g) bnd cps) 0 ∧ J evs w1 ∧ Fr Nil1 w w1 from by
    rintro w1 rfl
    have f1 : Fr Nil1 w (((w.alloc (.cells #[.pointer (some ⟨f.s, 0, none⟩)] 31)).alloc (.cells #[.func (.func g) bnd cps] 26)).alloc (.cells #[.int .i64 0] 3)) := (((Fr.refl _ _).alloc _).alloc _).alloc _
    have b1 := ((Has.new w [.pointer (some ⟨f.s, 0, none⟩)] 31).alloc (.cells #[.func (.func g) bnd cps] 26)).alloc (.cells #[.int .i64 0] 3)
    have b2 := (Has.new (w.alloc (.cells #[.pointer (some ⟨f.s, 0, none⟩)] 31)) [.func (.func g) bnd cps] 26).alloc (.cells #[.int .i64 0] 3)
    have b3 := Has.new ((w.alloc (.cells #[.pointer (some ⟨f.s, 0, none⟩)] 31)).alloc (.cells #[.func (.func g) bnd cps] 26)) [.int .i64 0] 3
    simp only [World.size_alloc] at b2 b3
    rw [hQ] at b1 b2 b3
    exact ⟨⟨b1, b2, b3, H.new f1, by omega, fun h => by have := hlt _ h; omega, fun h => by have := hlt _ h; omega, fun h => by have := hlt _ h; omega⟩, T.keep _ _ _ _ hJ f1 (fun k hk => hk.elim), f1⟩)
  have HPk := hid (fun w1 (hm : MvR w1 f σ Q (Q + 1) (Q + 2) (.func (.func g) bnd cps) 0) (hj : J evs w1) => rebalPack_ok T hm hj (fun k hk => by have := hB k hk; exact ⟨this.1, by omega, by omega, by omega⟩) first segs hl h512)
  have HPl := hid (fun n (hn : n ≤ 8 * segs) w1 (hg : NG ≤ w1.heap.size) => spPlacesL_any n first segs h1 (by omega) hn h512 w1 hg)
  have HMA := hid (hQ ▸ rebalMover_any f.s g bnd cps w)
  clear H hJ hB T hlt
  go_enter Tryz.func138, Tryz.ntmps138
  go_wp2_with (first
    | (go_at_call 143; refine HCk.out.mono ?_; rintro e w1 ⟨rfl, rfl⟩)
    | (go_at_call 145; refine HMA.out.mono ?_; rintro e w1 ⟨rfl, hw1⟩; have HM1 := hid (HMk.out w1 hw1); clear hw1)
    | (go_at_call 175; refine (HPk.out w1 HM1.out.1 HM1.out.2.1).mono ?_; rintro e w2 ⟨n, τ, rfl, hP⟩; have HP := hid hP; have hn8 : n ≤ 8 * segs := (by obtain ⟨_, _, p, _⟩ := hP.ex; exact p.le); have hg2 : NG ≤ w2.heap.size := (by have := hP.fr.size; have := HM1.out.2.2.size; omega); clear hP)
    | (go_at_call 176; refine (HPl.out n hn8 w2 hg2).mono ?_; rintro e w3 ⟨v, rfl, hR, hF3⟩; have HR := hid hR; have HF3 := hid hF3; clear hR hF3))
  have HPL := hid (plcL_length n first segs h1)
  have HOK := hid (plcL_ok n first segs h1 hn8)
  have HnW := hid (show n = winC σ first segs from by
    obtain ⟨_, _, p, _⟩ := HP.out.ex
    have := p.cnt
    rw [show 8 * first + 8 * segs = 8 * (first + segs) by omega, hcn] at this
    omega)
  have hlt := HS.out.lt
  have hq1 : Q + 2 < w1.heap.size := by have := HM1.out.1.n.lt; exact this
  have hw12 := HP.out.fr.size
  have HPsm := hid (fun p (hp : p ∈ plcL n first segs) => And.intro (HOK.out.lo p hp) (HOK.out.hi p hp))
  have HS0 := hid (show SprW w1 f σ Q (Q + 1) (Q + 2) (.func (.func g) bnd cps) B J evs (8 * first) (8 * segs) (plcL n first segs) n w3 from by
    obtain ⟨evs', m, p1, p2, p3, p4, p5⟩ := HP.out.ex
    exact ⟨⟨evs', τ, m, SpreadI.start p1 HPL.out, p2.fr HF3.out (fun _ _ h => h) id id id, HT.out.keep _ _ _ _ p3 HF3.out (fun _ h => h.elim), p4, by omega⟩, HP.out.fr.trans (HF3.out.mono (fun _ _ h => h.elim))⟩)
  obtain ⟨A, cc, rfl, hlen, hA⟩ := HR.out.rd (by rw [HPL.out]; omega)
  rw [ints'_length] at hlen hA ⊢
  have HR' : Hid (RowI w3 w2.heap.size (.slice A (plcL n first segs).length cc) (plcL n first segs)) := hid (by have := HR.out; rwa [ints'_length] at this)
  rw [HPL.out] at hlen HR' ⊢
  clear hA HR
  have hBlt := fun k hk => (HB.out k hk).2
  have HChg := hid (show ∀ k, w2.heap.size ≤ k → ¬ ChgM f (Q + 2) B k from fun k hk h => by
    rcases h with h | h | h
    · have := hlt _ (SF.chg_mem h); omega
    · omega
    · have := hBlt _ h; omega)
  have HBm := hid (show ∀ k, B k → ¬ f.mem k ∧ k ≠ Q ∧ k ≠ Q + 1 ∧ k ≠ Q + 2 from fun k hk => by
    have := HB.out k hk
    exact ⟨this.1, by omega, by omega, by omega⟩)
  clear hlt hBlt
  generalize hps : plcL n first segs = ps at *
  have HPS := hid hps
  clear hps
  go_loopw [8, 9, 16, 17] (fun _ _ i _ wr => ∃ k : Nat, k ≤ n ∧ i = .int .i64 ((k : Int) - 1) ∧ Hid (SprW w1 f σ Q (Q + 1) (Q + 2) (.func (.func g) bnd cps) B J evs (8 * first) (8 * segs) ps k wr ∧ RowI wr w2.heap.size (.slice A n cc) ps)) (fun _ _ i _ _ => (intOf i + 1).toNat)
  case atStart => exact ⟨n, Nat.le_refl _, by go_num, hid ⟨HS0.out, HR'.out⟩⟩
  case round =>
    obtain ⟨k, hk, rfl, HW⟩ := hrel
    cases k with
    | zero =>
      have HE := hid (show EvenW w f σ B J evs first segs wr from by
        obtain ⟨evs', τ', m, s1, s2, s3, s4, s5⟩ := HW.out.1.ex
        refine ⟨⟨evs', τ', s1.steps, ?_, s2.r, s3⟩, ?_⟩
        · rw [← HnW.out, HPS.out]; exact s1.done
        · refine (HM1.out.2.2.mono (fun _ _ h => h.elim)).trans' HW.out.1.fr (fun j _ hj h => ?_)
          rcases h with h | h | h
          · exact .inl h
          · omega
          · exact .inr h)
      obtain ⟨evs', τ', m, s1, s2, s3, s4, s5⟩ := HW.out.1.ex
      obtain ⟨n0, nf⟩ := s2.n.one
      clear s1 s2 s3
      go_wp2_with fail
      go_ret2
      exact ⟨m, rfl, HE.out⟩
    | succ k =>
      have hkI : (0 : Int) ≤ ((k + 1 : Nat) : Int) - 1 := by omega
      have hk1 : ((k + 1 : Nat) : Int) - 1 = (k : Int) := by omega
      have hkn : (k : Int) < n := by omega
      have hkp : k < ps.length := by rw [HPL.out]; omega
      obtain ⟨A', c', e, _, hcA⟩ := HW.out.2.rd (by rw [HPL.out]; omega)
      rw [ints'_length, HPL.out] at e hcA
      injection e with e1 e2 e3
      subst e1
      subst e3
      obtain ⟨ad, rfl, hc⟩ := hcA (by omega)
      clear hcA
      have hcell := hc k _ (ints'_get ps k hkp)
      have hpb := HPsm.out _ (getD_mem hkp)
      obtain ⟨hp0, hp1⟩ := hpb
      obtain ⟨q, hq⟩ : ∃ q : Nat, ps.getD k 0 = (q : Int) := ⟨(ps.getD k 0).toNat, by omega⟩
      rw [hq] at hcell hp0 hp1
      obtain ⟨evs', τ', m, s1, s2, s3, s4, s5⟩ := HW.out.1.ex
      have e2' : ((8 * first + k : Nat) : Int) = 8 * (first : Int) + (k : Int) := by omega
      have v1 : IntKind.i64.wrap (8 * (first : Int) + (k : Int)) = 8 * (first : Int) + (k : Int) := IntWalk.i64_in _ (by omega)
      rw [hk1]
      have hk0 : (0 : Int) ≤ (k : Int) := by omega
      clear hk1 hkI
      by_cases hst : q = 8 * first + k
      · have HW2 := hid (show SprW w1 f σ Q (Q + 1) (Q + 2) (.func (.func g) bnd cps) B J evs (8 * first) (8 * segs) ps k wr from
          ⟨⟨evs', τ', m, s1.stay HOK.out (by rw [hq, hst]), s2, s3, s4, by omega⟩, HW.out.1.fr⟩)
        have hmv := rebalMove_stay (bs := Q) (bt := Q + 1) (bn := Q + 2) (8 * (first : Int) + (k : Int)) wr
        have HMv := hid hmv
        have e4 : (q : Int) = 8 * (first : Int) + (k : Int) := by omega
        rw [e4] at hcell
        clear s1 s2 s3 hc hq hst e4 hp0 hp1 e2' hmv
        go_wp2_with (go_at_call 180; refine HMv.out.mono ?_; rintro e w4 ⟨rfl, rfl⟩)
        refine ⟨⟨k, by omega, by go_num, hid ⟨HW2.out, HW.out.2⟩⟩, by simp [intOf]⟩
      · obtain ⟨x, hmm⟩ := s1.may HOK.out (by omega) q hq hst
        have hstp := s1.move HOK.out q hq x hmm
        have hmo := rebalMove_ok HT.out s2 s3 HBm.out s4 (by omega) x (8 * first + k) q hmm
        rw [e2'] at hmo
        have HMv := hid hmo
        have HSt := hid hstp
        have E2 := hid e2'
        clear s1 s2 s3 hc hq hst hp0 hp1 e2' hmo hstp hmm
        go_wp2_with (go_at_call 180; refine HMv.out.mono ?_; rintro e w4 ⟨rfl, hM, hJ, hF⟩; have HM4 := hid (And.intro hM (And.intro hJ hF)); clear hM hJ hF)
        refine ⟨⟨k, by omega, by go_num, hid ⟨⟨⟨_, _, m + 1, HSt.out, HM4.out.1, ?_, by omega, by omega⟩, HW.out.1.fr.trans HM4.out.2.2⟩, ?_⟩⟩, by simp [intOf]⟩
        · have := HM4.out.2.1
          rw [List.append_assoc] at this
          rw [E2.out]
          exact this
        · exact HW.out.2.fr HM4.out.2.2 HChg.out
end Go.Proofs.YtechphliifginaaGreatDoor
