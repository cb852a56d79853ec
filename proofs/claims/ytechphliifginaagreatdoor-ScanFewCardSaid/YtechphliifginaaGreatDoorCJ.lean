/- scan: who goes up while so few have been taken: Take's ranges. -/
import Derived.Test.YtechphliifginaaGreatDoorCY
import Derived.Test.YtechphliifginaaGreatDoorHX
set_option linter.unusedVariables false
set_option linter.unusedSimpArgs false
namespace Go.Proofs.YtechphliifginaaGreatDoor
open Go.RowKit Go.Shelf
attribute [local go_sem] Oper.semAt_some

theorem scanSlots_at {w0 w : World} {s p : Nat} {F : PF} {σ : List (Option Int)} {h : Nat} {evs : List Ev} (a : SetS w0 s p F σ h evs w) : Calls Tryz.prog 98 #[.pointer (some ⟨s, 0, none⟩)] w fun e w' => ∃ f : SF, e = .returned (.pointer (some ⟨f.s, 0, none⟩)) ∧ Hid (SlotsR w' f σ ∧ Fr Nil1 w w' ∧ ∀ k, f.mem k → w.heap.size ≤ k) := by
  have HRow := hid (setRow_any a)
  clear a
  go_enter Tryz.func98, Tryz.ntmps98
  go_wp2_with (first
    | (go_at_call 19; (with_reducible refine (pmaSlots_any H1.out.1.r).mono ?_); rintro e w2 ⟨f, rfl, g1, g2, g3⟩; have H2 := hid (And.intro g1 (And.intro g2 g3)); clear g1 g2 g3)
    | (go_at_call 37; (with_reducible refine HRow.out.mono ?_); rintro e w1 ⟨F', rfl, H1⟩))
  go_ret
  exact ⟨f, rfl, hid ⟨H2.out.1, H1.out.2.trans H2.out.2.1, fun k hk => Nat.le_trans H1.out.2.size (H2.out.2.2 k hk)⟩⟩
theorem scanUpTake_any (fs : Nat) (lo : Int) (Bo Bn : Nat) (w : World) : Calls Tryz.prog 97 #[.pointer (some ⟨fs, 0, none⟩), .int .i64 lo, .func (.func 99) #[] #[.pointer (some ⟨Bo, 0, none⟩), .pointer (some ⟨Bn, 0, none⟩)]] w fun e w' =>
    e = .returned (.func (.func 160) #[] #[.pointer (some ⟨w.heap.size, 0, none⟩), .pointer (some ⟨w.heap.size + 1, 0, none⟩), .pointer (some ⟨w.heap.size + 1 + 1, 0, none⟩)]) ∧
    ((w.alloc (.cells #[.pointer (some ⟨fs, 0, none⟩)] 31)).alloc (.cells #[.int .i64 lo] 3)).alloc (.cells #[.func (.func 99) #[] #[.pointer (some ⟨Bo, 0, none⟩), .pointer (some ⟨Bn, 0, none⟩)]] 57) = w' := by
  go_enter Tryz.func97, Tryz.ntmps97
  go_wp2_with fail
  go_ret
  exact ⟨rfl, rfl⟩
/-- What the range asks of its client: the row taken, and how many may be. -/
def TakC (Bo Bn : Nat) (n : Int) (pre : List (Nat × Int)) (W : World) : Prop := (∃ A c, Has W Bo [.slice A pre.length c] 30) ∧ Has W Bn [.int .i64 n] 3
theorem scanMayTake_any {Bo Bn : Nat} {n : Int} {pre : List (Nat × Int)} {w : World} (H : TakC Bo Bn n pre w) (key : Int) :
    Calls Tryz.prog 99 #[.int .i64 key, .pointer (some ⟨Bo, 0, none⟩), .pointer (some ⟨Bn, 0, none⟩)] w fun e w' => e = .returned (.bool (decide ((pre.length : Int) < n))) ∧ w = w' := by
  obtain ⟨⟨A, c, hB⟩, hN⟩ := H
  have c0 := hB.cell 0
  have c1 := hN.cell 0
  clear hB hN
  go_enter Tryz.func99, Tryz.ntmps99
  go_wp2_with fail
  go_ret
  exact ⟨rfl, rfl⟩
/-- What is taken. -/
def TakS (σ : List (Option Int)) (lo n : Int) (ys : List (Nat × Int)) : Prop := ys.map (·.2) = ((its σ).drop (lessC (its σ) lo)).take n.toNat ∧ ∀ p ∈ ys, σ.getD p.1 none = some p.2
theorem takS_end {σ : List (Option Int)} {lo n : Int} {m : Nat} {pre : List (Nat × Int)} (h : gone (its σ) lo m pre) (hf : lessC (its σ) lo ≤ m) (hm : m ≤ (its σ).length) (hl : (pre.length : Int) ≤ n) (he : m = (its σ).length ∨ ¬ (pre.length : Int) < n) (hp : ∀ p ∈ pre, σ.getD p.1 none = some p.2) : TakS σ lo n pre := by
  refine ⟨?_, hp⟩
  have hlen := congrArg List.length h
  rw [List.length_map, List.length_drop, List.length_take] at hlen
  unfold gone at h
  rw [h, List.drop_take]
  rcases he with e | e
  · rw [List.take_of_length_le (by rw [List.length_drop]; omega), List.take_of_length_le (by rw [List.length_drop]; omega)]
  · congr 1
    omega
/-- The head of run's loop. -/
structure RunT (f : SF) (B1 : Nat) (σ : List (Option Int)) (lo n : Int) (J : List (Nat × Int) → World → Prop) (i : Nat) (pre : List (Nat × Int)) (W : World) : Prop where
  le : i ≤ σ.length
  j : J pre W
  gone : gone (its σ) lo (cntOn (onOf σ) i) pre
  from' : lessC (its σ) lo ≤ cntOn (onOf σ) i
  len : (pre.length : Int) ≤ n
  at' : ∀ p ∈ pre, σ.getD p.1 none = some p.2
  sl : SlotsR W f σ
  b1 : Has W B1 [.pointer (some ⟨f.s, 0, none⟩)] 31
theorem cnt_its (σ : List (Option Int)) {i : Nat} (hi : i ≤ σ.length) : cntOn (onOf σ) i ≤ (its σ).length := by rw [its_length]; exact cntOn_le_of (onOf σ) hi
set_option maxRecDepth 100000 in
set_option maxHeartbeats 4000000 in
theorem scanRunTake_in (n : Nat) (l B1 Bo Bn : Nat) (f : SF) (σ : List (Option Int)) (lo N : Int) (J Jx : List (Nat × Int) → World → Prop) (hCl : ∀ pre W, J pre W → TakC Bo Bn N pre W)
    (hY : ∀ pre x W, J pre W → pre.length < (its σ).length → YieldAt Fence.wide 0 Tryz.prog l (encIx x) W fun e W' =>
      (e = .returned (.bool true) ∧ J (pre ++ [x]) W' ∧ KeepT (fun k => k = B1 ∨ f.mem k) W W') ∨ (e = .returned (.bool false) ∧ Jx (pre ++ [x]) W'))
    (i : Nat) (W : World) (H : RunT f B1 σ lo N J i [] W) :
    CallsIn Fence.wide n Tryz.prog 106 #[.pointer (some ⟨f.s, 0, none⟩), .int .i64 (nxt (onOf σ) σ.length i), .func (.func 161) #[] #[.pointer (some ⟨B1, 0, none⟩)], .func (.func 99) #[] #[.pointer (some ⟨Bo, 0, none⟩), .pointer (some ⟨Bn, 0, none⟩)], .func (.yield l) #[] #[]] W fun e W' => (∃ v, e = .returned v) ∧
      ((∃ ys, TakS σ lo N ys ∧ J ys W') ∨ (∃ pre, (∀ p ∈ pre, σ.getD p.1 none = some p.2) ∧ Jx pre W')) := by
  refine callsIn_of_wp Tryz.func106 rfl trivial ?_ rfl
  simp only [Tryz.ntmps106, List.size_toArray, List.length_cons, List.length_nil, Nat.reduceAdd, Nat.reduceSub, Array.replicate_succ, Array.replicate_zero, List.push_toArray, List.append_toArray, List.nil_append, List.cons_append]
  have HY := hid hY
  have HH := hid H
  have hent1 : ∀ (args : Array Value) (W : World), Sem.run Tryz.prog (callFunc 161 args) W = .ok (.enter 161 args) W := enters_of Tryz.func161 (by kernel_rfl) rfl
  have hent2 : ∀ (args : Array Value) (W : World), Sem.run Tryz.prog (callFunc 99 args) W = .ok (.enter 99 args) W := enters_of Tryz.func99 (by kernel_rfl) rfl
  clear hY H
  gi_wp2_with fail
  gi_loopw [1, 10, 11] (fun v _ _ wr => ∃ (i : Nat) (pre : List (Nat × Int)), v = .int .i64 (nxt (onOf σ) σ.length i) ∧ Hid (RunT f B1 σ lo N J i pre wr)) (fun v _ _ _ => leftOf σ.length v)
  case atStart => exact ⟨i, [], rfl, HH⟩
  case round =>
    obtain ⟨i, pre, rfl, HW⟩ := hrel
    rcases nxt_cases (onOf σ) σ.length i with ⟨hn, hno⟩ | ⟨r, hn, h1, h2, h3, h4⟩
    · have Hno := hid hno
      rw [hn]
      clear hn hno
      gi_wp2_with fail
      go_end0
      have hc : cntOn (onOf σ) i = (its σ).length := by
        have := cntOn_gap (onOf σ) i (σ.length - i) (fun j a b => Hno.out j (by omega) (by omega))
        rw [show i + (σ.length - i) = σ.length by have := HW.out.le; omega] at this
        rw [its_length, this]
      exact ⟨⟨_, rfl⟩, .inl ⟨pre, takS_end HW.out.gone HW.out.from' (cnt_its σ HW.out.le) HW.out.len (.inl hc) HW.out.at', HW.out.j⟩⟩
    · obtain ⟨x, hx⟩ := onOf_true h3
      have hcr : cntOn (onOf σ) r = cntOn (onOf σ) i := by
        have := cntOn_gap (onOf σ) i (r - i) (fun j a b => h4 j (by omega) (by omega))
        rwa [show i + (r - i) = r by omega] at this
      have hkx : (its σ)[cntOn (onOf σ) i]? = some x := by rw [← hcr]; exact its_get σ r x hx
      have hat := gapsAt_any HW.out.sl (r : Int)
      rw [(at_some hx).1, (at_some hx).2] at hat
      have HAt := hid hat
      have HMay := hid (scanMayTake_any (hCl _ _ HW.out.j) x)
      have hmx : σ.length ≤ 65536 := HW.out.sl.bits.n2
      have hr0 : 0 ≤ (r : Int) := by omega
      have HF := hid (And.intro hx (And.intro hcr (And.intro hkx (And.intro h1 h2))))
      rw [hn]
      clear hn h1 h3 h4 hat hcr
      by_cases hlt : (pre.length : Int) < N
      · have hd : decide ((pre.length : Int) < N) = true := decide_eq_true hlt
        have HLt := hid hlt
        obtain ⟨fn, tmps, assign, body, hy, hR⟩ := YieldAt.deep (n - 1) (HY.out pre (r, x) wr HW.out.j (gone_len HW.out.gone ((List.getElem?_eq_some_iff.1 hkx).1)))
        unfold encIx at hy
        dsimp only at hy
        have HR := hid hR
        clear hx hkx hR hlt h2
        gi_wp2_with (first
          | ((first | refine ⟨trivial, wideNo, ?_⟩ | refine ⟨trivial, ?_⟩); gi_at_call 39; refine (callsIn_wide.2 HAt.out).mono ?_; rintro e w1 ⟨rfl, rfl⟩)
          | ((first | refine ⟨trivial, wideNo, ?_⟩ | refine ⟨trivial, ?_⟩); gi_at_call 99; refine (callsIn_wide.2 HMay.out).mono ?_; rintro e w1 ⟨rfl, rfl⟩))
        refine ⟨wideNo, HR.out.mono ?_⟩
        rintro e W3 (⟨rfl, hJ3, hk3⟩ | ⟨rfl, hJx3⟩)
        · have HS3 := hid (HW.out.sl.keep hk3 (fun k h => .inr h))
          have HB3 := hid (HW.out.b1.keep hk3 (.inl rfl))
          have HJ3 := hid hJ3
          have HOn := hid (scanUpOn_any HS3.out HB3.out r HF.out.2.2.2.2)
          clear hJ3 hk3
          gi_wp2_with ((first | refine ⟨trivial, wideNo, ?_⟩ | refine ⟨trivial, ?_⟩); gi_at_call 161; refine (callsIn_wide.2 HOn.out).mono ?_; rintro e w1 ⟨rfl, rfl⟩)
          go_roundw
          case rel =>
            have hr := HF.out
            have hon := cntOn_on (onOf σ) r (onOf_some hr.1)
            refine ⟨r + 1, pre ++ [(r, x)], by go_num, hid ⟨by omega, HJ3.out, ?_, ?_, ?_, ?_, HS3.out, HB3.out⟩⟩
            · rw [hon, hr.2.1]
              exact gone_step HW.out.gone HW.out.from' hr.2.2.1
            · have := HW.out.from'; omega
            · have := HLt.out
              rw [List.length_append, List.length_singleton]
              omega
            · intro p hp
              rcases List.mem_append.1 hp with hp | hp
              · exact HW.out.at' p hp
              · rw [List.mem_singleton.1 hp]
                exact hr.1
          case measure =>
            have hr := HF.out
            apply leftOf_lt _ _ _ hr.2.2.2.2
            rcases nxt_cases (onOf σ) σ.length ((r : Int) + 1) with ⟨hn, _⟩ | ⟨q, hn, g1, _⟩
            · exact .inl hn
            · exact .inr ⟨q, hn, by omega⟩
        · have HJx := hid hJx3
          clear hJx3
          gi_wp2_with fail
          refine bodyPost_ret (results_none rfl _ _ _) rfl ?_
          refine ⟨⟨_, rfl⟩, .inr ⟨_, fun p hp => ?_, HJx.out⟩⟩
          rcases List.mem_append.1 hp with hp | hp
          · exact HW.out.at' p hp
          · rw [List.mem_singleton.1 hp]
            exact HF.out.1
      · have hd : decide ((pre.length : Int) < N) = false := decide_eq_false hlt
        have HLt := hid hlt
        clear hx hkx hlt h2
        gi_wp2_with (first
          | ((first | refine ⟨trivial, wideNo, ?_⟩ | refine ⟨trivial, ?_⟩); gi_at_call 39; refine (callsIn_wide.2 HAt.out).mono ?_; rintro e w1 ⟨rfl, rfl⟩)
          | ((first | refine ⟨trivial, wideNo, ?_⟩ | refine ⟨trivial, ?_⟩); gi_at_call 99; refine (callsIn_wide.2 HMay.out).mono ?_; rintro e w1 ⟨rfl, rfl⟩))
        refine ⟨fun _ h => (by cases h), ?_⟩
        gi_wp2_with fail
        refine bodyPost_ret (results_none rfl _ _ _) rfl ?_
        exact ⟨⟨_, rfl⟩, .inl ⟨pre, takS_end HW.out.gone HW.out.from' (cnt_its σ HW.out.le) HW.out.len (.inr (by have := HLt.out; omega)) HW.out.at', HW.out.j⟩⟩
/-- What up's iterator has: its boxes, its array. -/
structure UtW (f : SF) (B1 B2 B3 Bo Bn : Nat) (σ : List (Option Int)) (lo : Int) (W : World) : Prop where
  b1 : Has W B1 [.pointer (some ⟨f.s, 0, none⟩)] 31
  b2 : Has W B2 [.int .i64 lo] 3
  b3 : Has W B3 [.func (.func 99) #[] #[.pointer (some ⟨Bo, 0, none⟩), .pointer (some ⟨Bn, 0, none⟩)]] 57
  sl : SlotsR W f σ
  up : Up (its σ)
def UtT (f : SF) (B1 B2 B3 : Nat) (k : Nat) : Prop := k = B1 ∨ k = B2 ∨ k = B3 ∨ f.mem k
section
variable {f : SF} {B1 B2 B3 Bo Bn : Nat} {σ : List (Option Int)} {lo : Int} {w W : World}
theorem UtW.new (H : UtW f B1 B2 B3 Bo Bn σ lo w) (hf : Fr Nil1 w W) : UtW f B1 B2 B3 Bo Bn σ lo W := ⟨H.b1.fr' hf id, H.b2.fr' hf id, H.b3.fr' hf id, H.sl.new hf, H.up⟩
theorem UtW.lt (H : UtW f B1 B2 B3 Bo Bn σ lo w) : ∀ k, UtT f B1 B2 B3 k → k < w.heap.size := by
  rintro k (rfl | rfl | rfl | hk)
  · exact H.b1.lt
  · exact H.b2.lt
  · exact H.b3.lt
  · exact H.sl.lt k hk
end
set_option maxRecDepth 100000 in
set_option maxHeartbeats 4000000 in
theorem scanUp1Take_in (n l : Nat) {f : SF} {B1 B2 B3 Bo Bn : Nat} {σ : List (Option Int)} {lo N : Int} (hN0 : 0 ≤ N) (J Jx : List (Nat × Int) → World → Prop) (W : World) (H : UtW f B1 B2 B3 Bo Bn σ lo W) (hCl : ∀ pre W, J pre W → TakC Bo Bn N pre W)
    (hJ : ∀ pre W W', J pre W → Fr Nil1 W W' → J pre W')
    (hY : ∀ pre x W, J pre W → pre.length < (its σ).length → YieldAt Fence.wide (n - 1) Tryz.prog l (encIx x) W fun e W' =>
      (e = .returned (.bool true) ∧ J (pre ++ [x]) W' ∧ KeepT (UtT f B1 B2 B3) W W') ∨ (e = .returned (.bool false) ∧ Jx (pre ++ [x]) W'))
    (h0 : J [] W) :
    CallsIn Fence.wide n Tryz.prog 160 #[.func (.yield l) #[] #[], .pointer (some ⟨B1, 0, none⟩), .pointer (some ⟨B2, 0, none⟩), .pointer (some ⟨B3, 0, none⟩)] W fun e W' => (∃ v, e = .returned v) ∧
      ((∃ ys, TakS σ lo N ys ∧ J ys W') ∨ (∃ pre, (∀ p ∈ pre, σ.getD p.1 none = some p.2) ∧ Jx pre W')) := by
  refine callsIn_of_wp Tryz.func160 rfl trivial ?_ rfl
  simp only [Tryz.ntmps160, List.size_toArray, List.length_cons, List.length_nil, Nat.reduceAdd, Nat.reduceSub, Array.replicate_succ, Array.replicate_zero, List.push_toArray, List.append_toArray, List.nil_append, List.cons_append]
  have HL := hid (findLower_any H.sl H.up lo)
  obtain ⟨c1, f1⟩ := H.b1.one
  obtain ⟨c2, f2⟩ := H.b2.one
  obtain ⟨c3, f3⟩ := H.b3.one
  have HRun := hid (fun (i : Nat) (W1 : World) (hf : Fr Nil1 W W1) (hi1 : i ≤ σ.length) (hi2 : cntOn (onOf σ) i = lessC (its σ) lo) => scanRunTake_in (n - 1) l B1 Bo Bn f σ lo N J Jx hCl
    (fun pre x W hj hl => YieldAt.deep 0 ((hY pre x W hj hl).mono (fun e W' h => by
      rcases h with ⟨a, b, c⟩ | h
      · exact .inl ⟨a, b, ⟨c.size, fun k hk hl => c.block k (by
          rcases hk with hk | hk
          · exact .inl hk
          · exact .inr (by rcases hk with rfl | hk; exact .inl rfl; exact .inr (.inr (.inr hk)))) hl⟩⟩
      · exact .inr h))) i W1 ⟨hi1, hJ _ _ _ h0 hf, by unfold gone; rw [hi2]; simp, Nat.le_of_eq hi2.symm, by simpa using hN0, (fun p hp => by cases hp), H.sl.new hf, H.b1.fr' hf id⟩)
  have HLen := hid (fun (h : lessC (its σ) lo = (its σ).length) => show cntOn (onOf σ) σ.length = lessC (its σ) lo from by rw [h, its_length])
  have HH := hid H
  clear H hJ hY h0 hCl
  by_cases hl : lessC (its σ) lo = (its σ).length
  · have HLs := hid hl
    clear hl
    gi_wp2_with (first
      | ((first | refine ⟨trivial, wideNo, ?_⟩ | refine ⟨trivial, ?_⟩); gi_at_call 118; refine (callsIn_wide.2 HL.out).mono ?_; rintro e w1 ⟨r, cc, rfl, H1⟩; obtain rfl := H1.out.1.neg HLs.out; have hrun := HRun.out σ.length w1 H1.out.2 (Nat.le_refl _) (HLen.out HLs.out); rw [nxt_end] at hrun; have HR := hid hrun; have hw := HH.out.new H1.out.2; have d1 := hw.b1.cell 0; have d2 := hw.b2.cell 0; have d3 := hw.b3.cell 0; clear hrun hw)
      | ((first | refine ⟨trivial, wideNo, ?_⟩ | refine ⟨trivial, ?_⟩); gi_at_call 106; refine HR.out.mono ?_; rintro e w2 ⟨⟨v, rfl⟩, h2⟩; have H2 := hid h2; clear h2))
    refine bodyPost_end (results_none rfl _ _ _) rfl ?_
    exact ⟨⟨_, rfl⟩, H2.out⟩
  · have HLs := hid hl
    clear hl
    gi_wp2_with (first
      | ((first | refine ⟨trivial, wideNo, ?_⟩ | refine ⟨trivial, ?_⟩); gi_at_call 118; refine (callsIn_wide.2 HL.out).mono ?_; rintro e w1 ⟨r, cc, rfl, H1⟩; obtain ⟨q, rfl, hq, hc, hon⟩ := H1.out.1.posOn HLs.out; have hrun := HRun.out q w1 H1.out.2 (Nat.le_of_lt hq) hc; rw [nxt_self hq hon] at hrun; have HR := hid hrun; have hw := HH.out.new H1.out.2; have d1 := hw.b1.cell 0; have d2 := hw.b2.cell 0; have d3 := hw.b3.cell 0; clear hrun hw hq hc hon)
      | ((first | refine ⟨trivial, wideNo, ?_⟩ | refine ⟨trivial, ?_⟩); gi_at_call 106; refine HR.out.mono ?_; rintro e w2 ⟨⟨v, rfl⟩, h2⟩; have H2 := hid h2; clear h2))
    refine bodyPost_end (results_none rfl _ _ _) rfl ?_
    exact ⟨⟨_, rfl⟩, H2.out⟩
/-- up's iterator, as Take's range over it wants its contract. -/
theorem scanUp_X (n : Nat) {f : SF} {B1 B2 B3 Bo Bn : Nat} {σ : List (Option Int)} {lo N : Int} (hN0 : 0 ≤ N) (w : World) (H : UtW f B1 B2 B3 Bo Bn σ lo w) :
    SeqX (UtT f B1 B2 B3) n Tryz.prog 160 #[.pointer (some ⟨B1, 0, none⟩), .pointer (some ⟨B2, 0, none⟩), .pointer (some ⟨B3, 0, none⟩)] encIx (TakC Bo Bn N) (TakS σ lo N) (fun pre => ∀ p ∈ pre, σ.getD p.1 none = some p.2) (its σ).length w := fun l J Jx W hW hG hl hCl hJ hJx hY h0 => by
  have hf : Fr Nil1 w W := Fr.of_below hW
  refine (scanUp1Take_in n l hN0 (fun pre Wk => J W.heap.size pre Wk ∧ W.heap.size ≤ Wk.heap.size) Jx W (H.new hf) (fun pre Wk h => hCl _ pre Wk h.1) (fun pre W1 W2 h hf' => ⟨hJ _ _ W1 W2 none h.1 hf'.grownNil (fun r e => by cases e), Nat.le_trans h.2 hf'.size⟩) (fun pre x Wk hj hlen => (hY W.heap.size pre x Wk (Nat.le_refl _) hj.2 hj.1 hlen).mono (fun e W' h => by
    rcases h with ⟨a, b, c⟩ | ⟨a, b, _⟩
    · exact .inl ⟨a, ⟨b, Nat.le_trans hj.2 c.size⟩, ⟨c.size, fun k hk hl => c.low k (by rcases hk with hk | hk; exact .inl hk; exact .inr (.inl hk)) hl⟩⟩
    · exact .inr ⟨a, b⟩)) ⟨h0 _ (Nat.le_refl _), Nat.le_refl _⟩).mono ?_
  rintro e W' ⟨h1, ⟨ys, h2, h3⟩ | ⟨pre, hp, h2⟩⟩
  · exact ⟨h1, .inl ⟨ys, _, h2, h3.1⟩⟩
  · exact ⟨h1, .inr ⟨pre, hp, h2⟩⟩
end Go.Proofs.YtechphliifginaaGreatDoor
