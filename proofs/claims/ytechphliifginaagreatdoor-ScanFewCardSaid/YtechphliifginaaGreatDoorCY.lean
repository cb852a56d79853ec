/- In one: CD, CE, CG, CH, CI. -/
import Derived.Test.YtechphliifginaaGreatDoorCX
/- scan: who goes through keys from a slot on, falling; Back, its iterator. -/
set_option linter.unusedVariables false
set_option linter.unusedSimpArgs false
namespace Go.Proofs.YtechphliifginaaGreatDoor
open Go.RowKit Go.Shelf
attribute [local go_sem] Oper.semAt_some

def dnOf (v : Value) : Nat := (intOf v + 1).toNat
theorem dnOf_lt (r : Nat) (v : Int) (h : v = -1 ∨ ∃ q : Nat, v = q ∧ q < r) : dnOf (.int .i64 v) < dnOf (.int .i64 (r : Int)) := by
  show (v + 1).toNat < ((r : Int) + 1).toNat
  rcases h with rfl | ⟨q, rfl, hq⟩ <;> omega
theorem lessC_le_of {ks : List Int} (H : Up ks) {lo x : Int} {m : Nat} (hx : ks[m]? = some x) (h : lo ≤ x) : lessC ks lo ≤ m := by
  rcases Nat.lt_or_ge m (lessC ks lo) with g | g
  · have := lessC_lt hx g; omega
  · exact g
/-- What has come, m keys being ahead. -/
def fell (ks : List Int) (hi : Int) (m : Nat) (pre : List Int) : Prop := pre = ((ks.take (lessC ks hi)).drop m).reverse ∧ m ≤ lessC ks hi
theorem fell_zero (ks : List Int) (hi : Int) : fell ks hi (lessC ks hi) [] := ⟨by rw [List.drop_eq_nil_of_le (by rw [List.length_take]; omega)]; rfl, Nat.le_refl _⟩
theorem fell_step {ks : List Int} {hi : Int} {m : Nat} {pre : List Int} (h : fell ks hi (m + 1) pre) {x : Int} (hx : ks[m]? = some x) : fell ks hi m (pre ++ [x]) := by
  refine ⟨?_, Nat.le_of_succ_le h.2⟩
  have hg : (ks.take (lessC ks hi))[m]? = some x := by rw [List.getElem?_take_of_lt h.2]; exact hx
  obtain ⟨hlt, e⟩ := List.getElem?_eq_some_iff.1 hg
  rw [List.drop_eq_getElem_cons hlt, e, List.reverse_cons, ← h.1]
theorem fell_end {ks : List Int} {lo hi : Int} {m : Nat} {pre : List Int} (h : fell ks hi m pre) (h1 : m = lessC ks hi ∨ lessC ks lo ≤ m) (h2 : m ≤ lessC ks lo) : pre = (btwL ks lo hi).reverse := by
  rw [h.1]
  unfold btwL
  rcases h1 with e | e
  · rw [List.drop_eq_nil_of_le (by rw [List.length_take]; omega), List.drop_eq_nil_of_le (by rw [List.length_take]; omega)]
  · rw [show m = lessC ks lo by omega]
theorem fell_len {ks : List Int} {hi : Int} {m : Nat} {pre : List Int} (h : fell ks hi (m + 1) pre) : pre.length < ks.length := by
  have := congrArg List.length h.1
  have h2 := lessC_le ks hi
  have h3 := h.2
  rw [List.length_reverse, List.length_drop, List.length_take] at this
  omega
section
variable {w : World} {f : SF} {σ : List (Option Int)}
theorem scanBackOn_any (H : SlotsR w f σ) {B1 : Nat} (hB : Has w B1 [.pointer (some ⟨f.s, 0, none⟩)] 31) (r : Nat) (hr : r < σ.length) :
    Calls Tryz.prog 107 #[.int .i64 r, .pointer (some ⟨B1, 0, none⟩)] w fun e w' => e = .returned (.int .i64 (prv (onOf σ) σ.length ((r : Int) - 1))) ∧ w = w' := by
  have HN := hid (gapsPrev_any H ((r : Int) - 1))
  have c0 := hB.cell 0
  have hmx := H.bits.n2
  have hrb : (r : Int) < 65536 := by omega
  clear H hB hr
  go_enter Tryz.func107, Tryz.ntmps107
  go_wp2_with (go_at_call 108; refine HN.out.mono ?_; rintro e w1 ⟨rfl, rfl⟩)
  go_ret
  exact ⟨rfl, rfl⟩
theorem scanMayGe_any {Bl : Nat} {lo : Int} (hB : Has w Bl [.int .i64 lo] 3) (key : Int) :
    Calls Tryz.prog 109 #[.int .i64 key, .pointer (some ⟨Bl, 0, none⟩)] w fun e w' => e = .returned (.bool (decide (lo ≤ key))) ∧ w = w' := by
  have c0 := hB.cell 0
  clear hB
  go_enter Tryz.func109, Tryz.ntmps109
  go_wp2_with fail
  go_ret
  exact ⟨by simp, rfl⟩
end
theorem scanYield_in (n : Nat) {By l : Nat} {w : World} (hB : Has w By [.func (.yield l) #[] #[]] 57) (at' x : Int) {R : Bool → World → Prop}
    (hY : YieldAt Fence.wide 0 Tryz.prog l #[.int .i64 x] w fun e w' => ∃ b, e = .returned (.bool b) ∧ R b w') :
    CallsIn Fence.wide n Tryz.prog 110 #[.int .i64 at', .int .i64 x, .pointer (some ⟨By, 0, none⟩)] w fun e w' => ∃ b, e = .returned (.bool b) ∧ R b w' := by
  refine callsIn_of_wp Tryz.func110 rfl trivial ?_ rfl
  simp only [Tryz.ntmps110, List.size_toArray, List.length_cons, List.length_nil, Nat.reduceAdd, Nat.reduceSub, Array.replicate_succ, Array.replicate_zero, List.push_toArray, List.append_toArray, List.nil_append, List.cons_append]
  obtain ⟨fn, tmps, assign, body, hy, hR⟩ := YieldAt.deep (n - 1) hY
  have HR := hid hR
  have c0 := hB.cell 0
  clear hB hY hR
  gi_wp2_with fail
  refine ⟨wideNo, HR.out.mono ?_⟩
  rintro e W3 ⟨b, rfl, h3⟩
  have H3 := hid h3
  clear h3
  gi_wp2_with fail
  refine bodyPost_ret (results_tmp rfl _ _ _) rfl ?_
  exact ⟨b, rfl, H3.out⟩
/-- The head of run's loop, falling. -/
structure RunD (f : SF) (Bx By Bl l : Nat) (σ : List (Option Int)) (lo hi : Int) (J : List Int → World → Prop) (i : Nat) (pre : List Int) (W : World) : Prop where
  le : i ≤ σ.length
  j : J pre W
  fell : fell (its σ) hi (cntOn (onOf σ) i) pre
  may : cntOn (onOf σ) i = lessC (its σ) hi ∨ lessC (its σ) lo ≤ cntOn (onOf σ) i
  sl : SlotsR W f σ
  bx : Has W Bx [.pointer (some ⟨f.s, 0, none⟩)] 31
  by' : Has W By [.func (.yield l) #[] #[]] 57
  bl : Has W Bl [.int .i64 lo] 3
def DnT (f : SF) (Bx By Bl : Nat) (k : Nat) : Prop := k = Bx ∨ k = By ∨ k = Bl ∨ f.mem k
set_option maxRecDepth 100000 in
set_option maxHeartbeats 4000000 in
theorem scanRunDn_in (n : Nat) (l Bx By Bl : Nat) (f : SF) (σ : List (Option Int)) (hU : Up (its σ)) (lo hi : Int) (J Jx : List Int → World → Prop)
    (hY : ∀ pre x W, J pre W → pre.length < (its σ).length → YieldAt Fence.wide 0 Tryz.prog l #[.int .i64 x] W fun e W' =>
      (e = .returned (.bool true) ∧ J (pre ++ [x]) W' ∧ KeepT (DnT f Bx By Bl) W W') ∨ (e = .returned (.bool false) ∧ Jx (pre ++ [x]) W'))
    (i : Nat) (W : World) (H : RunD f Bx By Bl l σ lo hi J i [] W) :
    CallsIn Fence.wide n Tryz.prog 106 #[.pointer (some ⟨f.s, 0, none⟩), .int .i64 (prv (onOf σ) σ.length ((i : Int) - 1)), .func (.func 107) #[] #[.pointer (some ⟨Bx, 0, none⟩)], .func (.func 109) #[] #[.pointer (some ⟨Bl, 0, none⟩)], .func (.func 110) #[] #[.pointer (some ⟨By, 0, none⟩)]] W fun e W' => (∃ v, e = .returned v) ∧
      (J (btwL (its σ) lo hi).reverse W' ∨ (∃ pre, Jx pre W')) := by
  refine callsIn_of_wp Tryz.func106 rfl trivial ?_ rfl
  simp only [Tryz.ntmps106, List.size_toArray, List.length_cons, List.length_nil, Nat.reduceAdd, Nat.reduceSub, Array.replicate_succ, Array.replicate_zero, List.push_toArray, List.append_toArray, List.nil_append, List.cons_append]
  have HY := hid hY
  have HH := hid H
  have HU := hid hU
  have hent1 : ∀ (args : Array Value) (W : World), Sem.run Tryz.prog (callFunc 107 args) W = .ok (.enter 107 args) W := enters_of Tryz.func107 (by kernel_rfl) rfl
  have hent2 : ∀ (args : Array Value) (W : World), Sem.run Tryz.prog (callFunc 109 args) W = .ok (.enter 109 args) W := enters_of Tryz.func109 (by kernel_rfl) rfl
  have hent3 : ∀ (args : Array Value) (W : World), Sem.run Tryz.prog (callFunc 110 args) W = .ok (.enter 110 args) W := enters_of Tryz.func110 (by kernel_rfl) rfl
  clear hY H hU
  gi_wp2_with fail
  gi_loopw [1, 10, 11] (fun v _ _ wr => ∃ (i : Nat) (pre : List Int), v = .int .i64 (prv (onOf σ) σ.length ((i : Int) - 1)) ∧ Hid (RunD f Bx By Bl l σ lo hi J i pre wr)) (fun v _ _ _ => dnOf v)
  case atStart => exact ⟨i, [], rfl, HH⟩
  case round =>
    obtain ⟨i, pre, rfl, HW⟩ := hrel
    rcases prv_cases (onOf σ) σ.length ((i : Int) - 1) with ⟨hn, hno⟩ | ⟨r, hn, h2, h1, h3, h4⟩
    · have Hno := hid hno
      rw [hn]
      clear hn hno
      gi_wp2_with fail
      go_end0
      have hc : cntOn (onOf σ) i = 0 := by
        have := cntOn_gap (onOf σ) 0 i (fun j a b => Hno.out j (by omega) (by have := HW.out.le; omega))
        rw [Nat.zero_add] at this
        rw [this]; rfl
      have he := fell_end HW.out.fell HW.out.may (by rw [hc]; exact Nat.zero_le _)
      exact ⟨⟨_, rfl⟩, .inl (he ▸ HW.out.j)⟩
    · obtain ⟨x, hx⟩ := onOf_true h3
      have hri : r < i := by omega
      have hcr : cntOn (onOf σ) i = cntOn (onOf σ) r + 1 := by
        rw [← cntOn_on (onOf σ) r h3]
        have := cntOn_gap (onOf σ) (r + 1) (i - (r + 1)) (fun j a b => h4 j (by omega) (by omega) (by have := HW.out.le; omega))
        rwa [show r + 1 + (i - (r + 1)) = i by omega] at this
      have hkx : (its σ)[cntOn (onOf σ) r]? = some x := its_get σ r x hx
      have hfl := HW.out.fell
      rw [hcr] at hfl
      have hat := gapsAt_any HW.out.sl (r : Int)
      rw [(at_some hx).1, (at_some hx).2] at hat
      have HAt := hid hat
      have HMay := hid (scanMayGe_any HW.out.bl x)
      have hmx : σ.length ≤ 65536 := HW.out.sl.bits.n2
      have hr0 : 0 ≤ (r : Int) := by omega
      have HF := hid (And.intro hx (And.intro hcr (And.intro hkx (And.intro hri (And.intro h1 hfl)))))
      rw [hn]
      clear hn h1 h3 h4 hat hcr
      by_cases hlt : lo ≤ x
      · have hd : decide (lo ≤ x) = true := decide_eq_true hlt
        have HLt := hid hlt
        have HYd := hid (scanYield_in (n - 1) HW.out.by' (r : Int) x (R := fun b W' => (b = true ∧ J (pre ++ [x]) W' ∧ KeepT (DnT f Bx By Bl) wr W') ∨ (b = false ∧ Jx (pre ++ [x]) W')) ((HY.out pre x wr HW.out.j (fell_len hfl)).mono (fun e W' h => by
          rcases h with ⟨rfl, a, b⟩ | ⟨rfl, a⟩
          · exact ⟨true, rfl, .inl ⟨rfl, a, b⟩⟩
          · exact ⟨false, rfl, .inr ⟨rfl, a⟩⟩)))
        clear hx hkx hlt h2 hfl
        gi_wp2_with (first
          | ((first | refine ⟨trivial, wideNo, ?_⟩ | refine ⟨trivial, ?_⟩); gi_at_call 39; refine (callsIn_wide.2 HAt.out).mono ?_; rintro e w1 ⟨rfl, rfl⟩)
          | ((first | refine ⟨trivial, wideNo, ?_⟩ | refine ⟨trivial, ?_⟩); gi_at_call 110; refine HYd.out.mono ?_; rintro e W3 ⟨b, rfl, H3⟩; have H3' := hid H3; clear H3)
          | ((first | refine ⟨trivial, wideNo, ?_⟩ | refine ⟨trivial, ?_⟩); gi_at_call 109; refine (callsIn_wide.2 HMay.out).mono ?_; rintro e w1 ⟨rfl, rfl⟩))
        · rename_i hb
          refine bodyPost_ret (results_none rfl _ _ _) rfl ?_
          rcases H3'.out with ⟨rfl, _⟩ | ⟨_, h3⟩
          · cases hb
          · exact ⟨⟨_, rfl⟩, .inr ⟨_, h3⟩⟩
        · rename_i hb K' hK'
          obtain ⟨rfl, hJ3, hk3⟩ := H3'.out.resolve_right (fun h => by rw [h.1] at hb; cases hb)
          clear hb H3'
          have HS3 := hid (HW.out.sl.keep hk3 (fun k h => .inr (.inr (.inr h))))
          have HX3 := hid (HW.out.bx.keep hk3 (.inl rfl))
          have HB3 := hid (HW.out.by'.keep hk3 (.inr (.inl rfl)))
          have HL3 := hid (HW.out.bl.keep hk3 (.inr (.inr (.inl rfl))))
          have HJ3 := hid hJ3
          have HOn := hid (scanBackOn_any HS3.out HX3.out r HF.out.2.2.2.2.1)
          clear hJ3 hk3
          refine ⟨trivial, wideNo, (callsIn_wide.2 HOn.out).mono ?_⟩
          rintro e w1 ⟨rfl, rfl⟩
          gi_wp2_with fail
          go_roundw
          case rel =>
            have hr := HF.out
            refine ⟨r, pre ++ [x], by go_num, hid ⟨by omega, HJ3.out, fell_step hr.2.2.2.2.2 hr.2.2.1, .inr (lessC_le_of HU.out hr.2.2.1 HLt.out), HS3.out, HX3.out, HB3.out, HL3.out⟩⟩
          case measure =>
            apply dnOf_lt
            rcases prv_cases (onOf σ) σ.length ((r : Int) - 1) with ⟨hn, _⟩ | ⟨q, hn, g1, _⟩
            · exact .inl hn
            · exact .inr ⟨q, hn, by omega⟩
      · have hd : decide (lo ≤ x) = false := decide_eq_false hlt
        have HLt := hid hlt
        clear hx hkx hlt h2 hfl
        gi_wp2_with (first
          | ((first | refine ⟨trivial, wideNo, ?_⟩ | refine ⟨trivial, ?_⟩); gi_at_call 39; refine (callsIn_wide.2 HAt.out).mono ?_; rintro e w1 ⟨rfl, rfl⟩)
          | ((first | refine ⟨trivial, wideNo, ?_⟩ | refine ⟨trivial, ?_⟩); gi_at_call 109; refine (callsIn_wide.2 HMay.out).mono ?_; rintro e w1 ⟨rfl, rfl⟩))
        refine ⟨fun _ h => (by cases h), ?_⟩
        gi_wp2_with fail
        refine bodyPost_ret (results_none rfl _ _ _) rfl ?_
        have hf := HF.out
        have he := fell_end HW.out.fell HW.out.may (by
          rw [hf.2.1]
          have := (lessC_iff HU.out hf.2.2.1 (key := lo)).1 (by have := HLt.out; omega)
          omega)
        exact ⟨⟨_, rfl⟩, .inl (he ▸ HW.out.j)⟩
end Go.Proofs.YtechphliifginaaGreatDoor

/- scan: Back, its iterator; both iterators, as a range over them wants their contracts. -/
set_option linter.unusedVariables false
set_option linter.unusedSimpArgs false
namespace Go.Proofs.YtechphliifginaaGreatDoor
open Go.RowKit Go.Shelf
attribute [local go_sem] Oper.semAt_some

theorem scanBack_any (s : Nat) (lo hi : Int) (w : World) : Calls Tryz.prog 44 #[.pointer (some ⟨s, 0, none⟩), .int .i64 lo, .int .i64 hi] w fun e w' =>
    e = .returned (.func (.func 104) #[] #[.pointer (some ⟨w.heap.size, 0, none⟩), .pointer (some ⟨w.heap.size + 1 + 1, 0, none⟩), .pointer (some ⟨w.heap.size + 1, 0, none⟩)]) ∧
    RngW s w.heap.size (w.heap.size + 1) (w.heap.size + 1 + 1) lo hi w' ∧ Fr Nil1 w w' ∧ w'.heap.size = w.heap.size + 3 := by
  have b1 := ((Has.new w [.pointer (some ⟨s, 0, none⟩)] 58).alloc (.cells #[.int .i64 lo] 3)).alloc (.cells #[.int .i64 hi] 3)
  have b2 := (Has.new (w.alloc (.cells #[.pointer (some ⟨s, 0, none⟩)] 58)) [.int .i64 lo] 3).alloc (.cells #[.int .i64 hi] 3)
  have b3 := Has.new ((w.alloc (.cells #[.pointer (some ⟨s, 0, none⟩)] 58)).alloc (.cells #[.int .i64 lo] 3)) [.int .i64 hi] 3
  simp only [World.size_alloc] at b2 b3
  have HB := hid (And.intro b1 (And.intro b2 b3))
  clear b1 b2 b3
  go_enter Tryz.func44, Tryz.ntmps44
  go_wp2_with fail
  go_ret
  exact ⟨rfl, ⟨HB.out.1, HB.out.2.1, HB.out.2.2⟩, (((Fr.refl _ _).alloc _).alloc _).alloc _, by simp⟩
/-- Where Back begins. -/
theorem BefO.start {σ : List (Option Int)} {hi r : Int} (H : BefO σ hi r) : ∃ i : Nat, i ≤ σ.length ∧ r = prv (onOf σ) σ.length ((i : Int) - 1) ∧ cntOn (onOf σ) i = lessC (its σ) hi := by
  cases H with
  | none hr hl =>
    refine ⟨0, Nat.zero_le _, ?_, hl.symm⟩
    rw [hr]
    rcases prv_cases (onOf σ) σ.length (((0 : Nat) : Int) - 1) with ⟨h, _⟩ | ⟨q, h, h1, _⟩
    · exact h.symm
    · omega
  | some q x hr hq hx hc =>
    have hlt := getD_lt hq
    have hon := onOf_some hq
    refine ⟨q + 1, hlt, ?_, by rw [cntOn_on _ _ hon, hc]⟩
    rw [hr]
    rcases prv_cases (onOf σ) σ.length (((q + 1 : Nat) : Int) - 1) with ⟨h, hno⟩ | ⟨r', h, h1, h2, h3, h4⟩
    · have := hno q (by omega) hlt
      rw [hon] at this
      cases this
    · rw [h]
      rcases Nat.lt_or_ge r' q with g | g
      · have := h4 q g (by omega) hlt
        rw [hon] at this
        cases this
      · congr 1; omega
set_option maxHeartbeats 4000000 in
theorem scanBack1_run (n l : Nat) {w0 : World} {s Bs Bl Bh : Nat} {ks : List Int} {lo hi : Int} (J : Nat → List Int → World → Prop) (Jx : List Int → World → Prop) (W : World) (hS : SS w0 s ks W) (hR : RngW s Bs Bl Bh lo hi W)
    (hJ : ∀ X, OwnFrom W.heap.size (J X))
    (hY : ∀ X pre x W1, W.heap.size ≤ X → X ≤ W1.heap.size → J X pre W1 → pre.length < ks.length → YieldAt Fence.wide (n - 1) Tryz.prog l #[.int .i64 x] W1 fun e W' =>
      (e = .returned (.bool true) ∧ J X (pre ++ [x]) W' ∧ KeepX (RngT Bs Bl Bh) W.heap.size X W1 W') ∨ (e = .returned (.bool false) ∧ Jx (pre ++ [x]) W' ∧ KeepsFrom W.heap.size W1 W'))
    (h0 : ∀ X, W.heap.size ≤ X → J X [] W) {Y : Nat} (hYs : W.heap.size = Y)
    (f : SF) (σ : List (Option Int)) (w1 w2 : World) (i : Nat) (he : its σ = ks) (hs : SlotsR w1 f σ) (hm : ∀ k, f.mem k → Y ≤ k) (h1 : Fr Nil1 W w1) (hyb : Has w1 Y [.func (.yield l) #[] #[]] 57) (h2 : Fr Nil1 (w1.alloc (.cells #[.pointer (some ⟨f.s, 0, none⟩)] 31)) w2) (hi1 : i ≤ σ.length) (hi2 : cntOn (onOf σ) i = lessC (its σ) hi) :
    CallsIn Fence.wide (n - 1) Tryz.prog 106 #[.pointer (some ⟨f.s, 0, none⟩), .int .i64 (prv (onOf σ) σ.length ((i : Int) - 1)), .func (.func 107) #[] #[.pointer (some ⟨w1.heap.size, 0, none⟩)], .func (.func 109) #[] #[.pointer (some ⟨Bl, 0, none⟩)], .func (.func 110) #[] #[.pointer (some ⟨Y, 0, none⟩)]] w2 fun e W' => (∃ v, e = .returned v) ∧
      (J w2.heap.size (btwL (its σ) lo hi).reverse W' ∨ (∃ pre, Jx pre W')) :=
    have hfx : Fr Nil1 w1 (w1.alloc (.cells #[.pointer (some ⟨f.s, 0, none⟩)] 31)) := (Fr.refl Nil1 w1).alloc _
    have hfA : Fr Nil1 W w2 := h1.trans (hfx.trans h2)
    have hrg := hR.new hfA
    have hsz : w1.heap.size + 1 ≤ w2.heap.size := by have := h2.size; simpa using this
    have hYW : Y < w1.heap.size := hyb.lt
    (scanRunDn_in (n - 1) l w1.heap.size Y Bl f σ (by rw [he]; exact hS.up) lo hi (fun pre Wk => J w2.heap.size pre Wk ∧ w2.heap.size ≤ Wk.heap.size) Jx
      (fun pre x Wk hj hlen => YieldAt.deep 0 ((hY w2.heap.size pre x Wk (by omega) hj.2 hj.1 (by rw [← he]; exact hlen)).mono (fun e W' h => by
        rcases h with ⟨a, b, c⟩ | ⟨a, b, _⟩
        · exact .inl ⟨a, ⟨b, Nat.le_trans hj.2 c.size⟩, ⟨c.size, fun k hk hl => c.low k (by
            rcases hk with hk | rfl | rfl | rfl | hk
            · exact .inl hk
            · exact .inr (.inr (by omega))
            · exact .inr (.inr (by omega))
            · exact .inr (.inl (.inr (.inl rfl)))
            · have := hm k hk; have := hs.lt k hk; exact .inr (.inr (by omega))) hl⟩⟩
        · exact .inr ⟨a, b⟩))) i w2
      ⟨hi1, ⟨hJ _ _ _ _ none (h0 w2.heap.size (by omega)) hfA.grownNil (fun r e => by cases e), Nat.le_refl _⟩, by rw [hi2]; exact fell_zero _ _, .inl hi2, (hs.new hfx).new h2, (Has.new w1 _ _).fr' h2 id, (hyb.fr' hfx id).fr' h2 id, hrg.bl⟩).mono (fun e W' h => ⟨h.1, h.2.imp And.left id⟩)
set_option maxRecDepth 100000 in
set_option maxHeartbeats 8000000 in
theorem scanBack1_in (n l : Nat) {w0 : World} {s Bs Bl Bh : Nat} {ks : List Int} {lo hi : Int} (J : Nat → List Int → World → Prop) (Jx : List Int → World → Prop) (W : World) (hS : SS w0 s ks W) (hR : RngW s Bs Bl Bh lo hi W) (hG : NG ≤ W.heap.size) (hl : l < W.heap.size)
    (hJ : ∀ X, OwnFrom W.heap.size (J X)) (hJx : OwnFrom W.heap.size Jx)
    (hY : ∀ X pre x W1, W.heap.size ≤ X → X ≤ W1.heap.size → J X pre W1 → pre.length < ks.length → YieldAt Fence.wide (n - 1) Tryz.prog l #[.int .i64 x] W1 fun e W' =>
      (e = .returned (.bool true) ∧ J X (pre ++ [x]) W' ∧ KeepX (RngT Bs Bl Bh) W.heap.size X W1 W') ∨ (e = .returned (.bool false) ∧ Jx (pre ++ [x]) W' ∧ KeepsFrom W.heap.size W1 W'))
    (h0 : ∀ X, W.heap.size ≤ X → J X [] W) :
    CallsIn Fence.wide n Tryz.prog 104 #[.func (.yield l) #[] #[], .pointer (some ⟨Bs, 0, none⟩), .pointer (some ⟨Bh, 0, none⟩), .pointer (some ⟨Bl, 0, none⟩)] W fun e W' => (∃ v, e = .returned v) ∧
      ((∃ ys X, ys = (btwL ks lo hi).reverse ∧ J X ys W') ∨ (∃ pre, Jx pre W')) := by
  refine callsIn_of_wp Tryz.func104 rfl trivial ?_ rfl
  simp only [Tryz.ntmps104, List.size_toArray, List.length_cons, List.length_nil, Nat.reduceAdd, Nat.reduceSub, Array.replicate_succ, Array.replicate_zero, List.push_toArray, List.append_toArray, List.nil_append, List.cons_append]
  have HSl := hid (fun wz (hf : Fr Nil1 W wz) => scanSlots_any (hS.new hf))
  have HRg := hid hR
  have HUp := hid hS.up
  have HGl := hid (And.intro hG hl)
  have HY := hid hY
  have H0 := hid h0
  have HJ := hid (And.intro hJ hJx)
  obtain ⟨Y, hYs⟩ : ∃ Y, W.heap.size = Y := ⟨_, rfl⟩
  have hF0 : Fr Nil1 W (W.alloc (.cells #[.func (.yield l) #[] #[]] 57)) := (Fr.refl _ _).alloc _
  have HF0 := hid hF0
  have HBy := hid (show Has (W.alloc (.cells #[.func (.yield l) #[] #[]] 57)) Y [.func (.yield l) #[] #[]] 57 from hYs ▸ Has.new W _ _)
  have hr := hR.new hF0
  have c1 := hr.bs.cell 0
  have c2 := hr.bl.cell 0
  have c3 := hr.bh.cell 0
  have HYs := hid hYs
  have HRun := hid (fun f σ w1 w2 i => scanBack1_run n l J Jx W hS hR hJ hY h0 (Y := Y) hYs f σ w1 w2 i)
  clear hS hR hG hl hY h0 hJ hJx hF0 hr
  gi_wp2_with fail
  obtain ⟨W0, hW0⟩ : ∃ W0, W.alloc (.cells #[.func (.yield l) #[] #[]] 57) = W0 := ⟨_, rfl⟩
  rw [hW0] at HF0 HBy c1 c2 c3 ⊢
  clear hW0
  gi_wp2_with (first
    | ((first | refine ⟨trivial, wideNo, ?_⟩ | refine ⟨trivial, ?_⟩); gi_at_call 105; refine (callsIn_wide.2 (findBefore_any (H1.out.1.new HFx.out) (by rw [H1.out.2.1]; exact HUp.out) hi)).mono ?_; rintro e w2 ⟨r, cc, rfl, H2⟩; obtain ⟨i, hi1, rfl, hi2⟩ := H2.out.1.start; have HR := hid (HRun.out f σ w1 w2 i H1.out.2.1 H1.out.1 (fun k hk => by have : W0.heap.size ≤ k := H1.out.2.2.2 k hk; have := HF0.out.size; have := HYs.out; omega) (HF0.out.trans H1.out.2.2.1) (HBy.out.fr' H1.out.2.2.1 id) H2.out.2 hi1 hi2); have d4 := ((Has.new w1 [.pointer (some ⟨f.s, 0, none⟩)] 31).fr' H2.out.2 id).cell 0; clear hi1 hi2)
    | ((first | refine ⟨trivial, wideNo, ?_⟩ | refine ⟨trivial, ?_⟩); gi_at_call 106; refine HR.out.mono ?_; rintro e w3 ⟨⟨v, rfl⟩, h3⟩; have H3 := hid h3; clear h3)
    | ((first | refine ⟨trivial, wideNo, ?_⟩ | refine ⟨trivial, ?_⟩); gi_at_call 98; refine (callsIn_wide.2 (HSl.out W0 HF0.out)).mono ?_; rintro e w1 ⟨f, rfl, σ, H1⟩; have hfx : Fr Nil1 w1 (w1.alloc (.cells #[.pointer (some ⟨f.s, 0, none⟩)] 31)) := (Fr.refl Nil1 w1).alloc _; have hr1 := HRg.out.new ((HF0.out.trans H1.out.2.2.1).trans hfx); have HFx := hid hfx; clear hfx; have d1 := hr1.bs.cell 0; have d2 := hr1.bl.cell 0; have d3 := hr1.bh.cell 0; clear hr1))
  refine bodyPost_end (results_none rfl _ _ _) rfl ?_
  refine ⟨⟨_, rfl⟩, ?_⟩
  rcases H3.out with h3 | h3
  · exact .inl ⟨_, w2.heap.size, by rw [H1.out.2.1], h3⟩
  · exact .inr h3
/-- Range's iterator, as a range over it wants its contract. -/
theorem scanRange1_X (n : Nat) {w0 w : World} {s Bs Bl Bh : Nat} {ks : List Int} {lo hi : Int} (hS : SS w0 s ks w) (hR : RngW s Bs Bl Bh lo hi w) :
    SeqX (RngT Bs Bl Bh) n Tryz.prog 102 #[.pointer (some ⟨Bs, 0, none⟩), .pointer (some ⟨Bl, 0, none⟩), .pointer (some ⟨Bh, 0, none⟩)] (fun (x : Int) => #[.int .i64 x]) (fun _ _ => True) (fun ys => ys = btwL ks lo hi) (fun _ => True) ks.length w := fun l J Jx W hW hG hl _ hJ hJx hY h0 => by
  have hf : Fr Nil1 w W := Fr.of_below hW
  have hs := hf.size
  refine callsIn_wide.2 ((callsIn_wide.1 (scanRange1_in 1 l (Nat.le_refl 1) J Jx W (hS.new hf) (hR.new hf) (by omega) hl hJ hJx (fun X pre x W1 a b c d => YieldAt.deep _ (hY X pre x W1 a b c d)) h0)).mono ?_)
  rintro e W' ⟨h1, h2 | ⟨pre, h2⟩⟩
  · exact ⟨h1, .inl h2⟩
  · exact ⟨h1, .inr ⟨pre, trivial, h2⟩⟩
/-- Back's iterator. -/
theorem scanBack1_X (n : Nat) {w0 w : World} {s Bs Bl Bh : Nat} {ks : List Int} {lo hi : Int} (hS : SS w0 s ks w) (hR : RngW s Bs Bl Bh lo hi w) :
    SeqX (RngT Bs Bl Bh) n Tryz.prog 104 #[.pointer (some ⟨Bs, 0, none⟩), .pointer (some ⟨Bh, 0, none⟩), .pointer (some ⟨Bl, 0, none⟩)] (fun (x : Int) => #[.int .i64 x]) (fun _ _ => True) (fun ys => ys = (btwL ks lo hi).reverse) (fun _ => True) ks.length w := fun l J Jx W hW hG hl _ hJ hJx hY h0 => by
  have hf : Fr Nil1 w W := Fr.of_below hW
  have hs := hf.size
  refine callsIn_wide.2 ((callsIn_wide.1 (scanBack1_in 1 l J Jx W (hS.new hf) (hR.new hf) (by omega) hl hJ hJx (fun X pre x W1 a b c d => YieldAt.deep _ (hY X pre x W1 a b c d)) h0)).mono ?_)
  rintro e W' ⟨h1, h2 | ⟨pre, h2⟩⟩
  · exact ⟨h1, .inl h2⟩
  · exact ⟨h1, .inr ⟨pre, trivial, h2⟩⟩
end Go.Proofs.YtechphliifginaaGreatDoor

/- scan.Count; the rows that the law makes of Range, Back. -/
set_option linter.unusedVariables false
set_option linter.unusedSimpArgs false
namespace Go.Proofs.YtechphliifginaaGreatDoor
open Go.RowKit Go.Shelf
attribute [local go_sem] Oper.semAt_some

theorem SS.gg {w0 w : World} {s : Nat} {ks : List Int} (H : SS w0 s ks w) : NG ≤ w.heap.size := by
  obtain ⟨p, F, σ, h, evs, a, _⟩ := H.ex
  exact Nat.le_trans a.gs (Nat.le_of_lt a.c.lt)
theorem btwL_len (ks : List Int) (lo hi : Int) : (btwL ks lo hi).length ≤ ks.length := by unfold btwL; rw [List.length_drop, List.length_take]; omega
set_option maxRecDepth 100000 in
set_option maxHeartbeats 8000000 in
theorem scanCount_any {w0 w : World} {s : Nat} {ks : List Int} (hS : SS w0 s ks w) (lo hi : Int) :
    Calls Tryz.prog 48 #[.pointer (some ⟨s, 0, none⟩), .int .i64 lo, .int .i64 hi] w fun e w' => e = .returned (.int .i64 ((btwL ks lo hi).length : Int)) ∧ Fr Nil1 w w' := by
  refine (callsIn_wide (n := 3)).1 ?_
  have hG := hS.gg
  have hsm := hS.small
  refine callsIn_of_wp_marks Tryz.func48 rfl trivial ?_ rfl
  simp only [Tryz.ntmps48, List.size_toArray, List.length_cons, List.length_nil, Nat.reduceAdd, Nat.reduceSub, Array.replicate_succ, Array.replicate_zero, List.push_toArray, List.append_toArray, List.nil_append, List.cons_append]
  have HS := hid hS
  clear hS
  gi_wp2_with (first
    | ((first | refine ⟨trivial, wideNo, ?_⟩ | refine ⟨trivial, ?_⟩); gi_at_call 43; refine (callsIn_wide.2 (scanRange_any s lo hi _)).mono ?_; rintro e w2 ⟨rfl, hr, hf, hs⟩; have H2 := hid (And.intro hr (And.intro hf hs)); clear hr hf hs))
  have hbx := Has.new w [.int .i64 0] 3
  have hf1 : Fr Nil1 w (w.alloc (.cells #[.int .i64 0] 3)) := (Fr.refl _ _).alloc _
  obtain ⟨w1, hw1⟩ : ∃ w1, w.alloc (.cells #[.int .i64 0] 3) = w1 := ⟨_, rfl⟩
  have hs1 : w1.heap.size = w.heap.size + 1 := by rw [← hw1]; simp
  rw [hw1] at hf1 hbx H2
  clear hw1
  obtain ⟨N0, hN0⟩ : ∃ N0, w.heap.size = N0 := ⟨_, rfl⟩
  rw [hN0] at hbx hs1 hG ⊢
  rw [hs1] at H2
  have h2 := H2.out
  have hfA := hf1.trans h2.2.1
  refine wpIn_rangeX (by omega) (by omega) (T := RngT (N0 + 1) (N0 + 1 + 1) (N0 + 1 + 1 + 1)) (fun k hk => h2.1.lt k hk) (gf := 102) (lb := #[.pointer (some ⟨N0 + 1, 0, none⟩), .pointer (some ⟨N0 + 1 + 1, 0, none⟩), .pointer (some ⟨N0 + 1 + 1 + 1, 0, none⟩)]) rfl (enters_of Tryz.func102 (by kernel_rfl) rfl)
    (scanRange1_X _ (HS.out.new hfA) h2.1) (fun _ => rfl)
    (fun X (pre : List Int) (W : World) => Has W N0 [.int .i64 (pre.length : Int)] 3 ∧ Fr Nil1 w W)
    (fun _ _ _ => False) (fun _ _ _ _ => trivial)
    (fun X pre A B row hs hg hrow => ⟨hs.1.grownBy hg (fun r e => (hrow r e).2), hs.2.grownBy hg hrow (by omega) (by omega)⟩)
    (fun _ _ _ _ _ hs _ _ => hs)
    (fun X hX => ⟨hbx.fr' h2.2.1 id, hfA⟩)
    (fun x => { tmps := #[.pointer (some ⟨s, 0, none⟩), .int .i64 lo, .int .i64 hi, undef, undef, undef, .int .i64 0, .pointer (some ⟨N0, 0, none⟩), .pointer (some ⟨s, 0, none⟩), .int .i64 lo, .int .i64 hi, .func (.func 102) #[] #[.pointer (some ⟨N0 + 1, 0, none⟩), .pointer (some ⟨N0 + 1 + 1, 0, none⟩), .pointer (some ⟨N0 + 1 + 1 + 1, 0, none⟩)], .int .i64 x, undef, undef, undef], defers := [] }) ?assign ?body ?done ?stop
  case assign =>
    intro l x W K hK
    gi_wp2
    simpa using hK
  case body =>
    rintro l X pre x W hX hXW ⟨hb, hF⟩ hlt
    obtain ⟨hc, hfz⟩ := hb.one
    have hbd : 0 ≤ (pre.length : Int) ∧ (pre.length : Int) < 5000 := by omega
    gi_wp2_with fail
    have hb' := hb.set 0 (.int .i64 ((pre.length : Int) + 1))
    have hFr : Fr (fun k => k = N0) W (W.setCell ⟨N0, 0, none⟩ (.int .i64 ((pre.length : Int) + 1))) := (Fr.refl _ W).setCell ⟨N0, 0, none⟩ _ (by show NG ≤ N0; omega) (fun _ => rfl)
    refine ⟨KeepX.of_fr hFr (fun k hk e => ?_) (fun k e => .inl (by omega)) (fun k o e hB ho => by omega), ?_, ?_⟩
    · rcases hk with rfl | rfl | rfl <;> omega
    · rw [List.length_append]
      exact hb'
    · exact hF.trans' (S' := fun k => k = N0) hFr (fun j hj hl e => by omega)
  case done =>
    rintro D X ys W hD rfl ⟨hb, hF⟩ hK
    obtain ⟨hc, hfz⟩ := hb.one
    gi_wp2_with fail
    refine ⟨by simp, .inl ⟨_, _, rfl, run_takeDeferred hK, ?_⟩⟩
    exact ⟨_, results_tmp rfl _ _ _, rfl, hF.putObj D _ (by omega) (by omega)⟩
  case stop =>
    rintro D c pre W _ _ h _
    exact h.elim
end Go.Proofs.YtechphliifginaaGreatDoor

/- The row that the law makes of Range. -/
set_option linter.unusedVariables false
set_option linter.unusedSimpArgs false
namespace Go.Proofs.YtechphliifginaaGreatDoor
open Go.RowKit Go.Shelf
attribute [local go_sem] Oper.semAt_some

theorem eqSeq (k : Nat) (c : Array Value) (W : World) : Sem.run Tryz.prog (binOp .eql 70 (.func (.func k) #[] c) .nilFunc) W = .ok (.bool false) W := by
  have h1 : Sem.run Tryz.prog (Op.equal 70 (.func (.func k) #[] c) .nilFunc) W = .ok false W := by
    unfold Op.equal Op.maxDepth
    unfold Op.equalIn
    simp [go_sem, Tryz.underlying70]
  show Sem.run Tryz.prog (do pure (Value.bool (← Op.equal 70 (.func (.func k) #[] c) .nilFunc))) W = _
  simp [go_sem, h1]
set_option maxRecDepth 100000 in
set_option maxHeartbeats 8000000 in
theorem up14_any {w0 w : World} {s : Nat} {ks : List Int} (hS : SS w0 s ks w) (lo hi : Int) :
    Calls Tryz.prog 41 #[.pointer (some ⟨s, 0, none⟩), .int .i64 lo, .int .i64 hi] w fun e w' => ∃ v, e = .returned v ∧ Hid (RowI w' w.heap.size v (btwL ks lo hi) ∧ Fr Nil1 w w') := by
  refine (callsIn_wide (n := 3)).1 ?_
  obtain ⟨i0, hi0, hz0, hz1, hz2⟩ := info_parts info_int
  have hG := hS.gg
  have hsm := hS.small
  refine callsIn_of_wp_marks Tryz.func41 rfl trivial ?_ rfl
  simp only [Tryz.ntmps41, List.size_toArray, List.length_cons, List.length_nil, Nat.reduceAdd, Nat.reduceSub, Array.replicate_succ, Array.replicate_zero, List.push_toArray, List.append_toArray, List.nil_append, List.cons_append]
  have HS := hid hS
  have HA := hid (ApJ.start w)
  have hent1 := eqSeq
  clear hS
  gi_wp2_with (first
    | ((first | refine ⟨trivial, wideNo, ?_⟩ | refine ⟨trivial, ?_⟩); gi_at_call 43; refine (callsIn_wide.2 (scanRange_any s lo hi _)).mono ?_; rintro e w2 ⟨rfl, hr, hf, hs⟩; have H2 := hid (And.intro hr (And.intro hf hs)); clear hr hf hs))
  obtain ⟨N0, hN0⟩ : ∃ N0, w.heap.size = N0 := ⟨_, rfl⟩
  have hap := HA.out
  simp only [World.size_alloc] at H2
  have hbx := Has.new (w.alloc (.cells #[] 3)) [.slice (some ⟨w.heap.size, 0, none⟩) 0 0] 30
  have hfb : Fr Nil1 (w.alloc (.cells #[] 3)) ((w.alloc (.cells #[] 3)).alloc (.cells #[.slice (some ⟨w.heap.size, 0, none⟩) 0 0] 30)) := (Fr.refl _ _).alloc _
  simp only [World.size_alloc] at hbx
  rw [hN0] at hap H2 hbx hfb hG ⊢
  obtain ⟨hrg, hf2, hs2⟩ := H2.out
  have hfA := (hap.new (hfb.trans hf2)).fr
  have hrow0 : RowI w2 N0 (.slice (some ⟨N0, 0, none⟩) 0 0) [] := hN0 ▸ (hap.new (hfb.trans hf2)).row
  have hbx0 := hbx.fr' hf2 id
  clear hbx hfb hap H2 HA
  refine wpIn_rangeX (by omega) (by omega) (T := RngT (N0 + 1 + 1) (N0 + 1 + 1 + 1) (N0 + 1 + 1 + 1 + 1)) (fun k hk => hrg.lt k hk) (gf := 102) (lb := #[.pointer (some ⟨N0 + 1 + 1, 0, none⟩), .pointer (some ⟨N0 + 1 + 1 + 1, 0, none⟩), .pointer (some ⟨N0 + 1 + 1 + 1 + 1, 0, none⟩)]) rfl (enters_of Tryz.func102 (by kernel_rfl) rfl)
    (scanRange1_X _ (HS.out.new hfA) hrg) (fun _ => rfl)
    (fun X (pre : List Int) (W : World) => (∃ v, Has W (N0 + 1) [v] 30 ∧ RowI W N0 v pre ∧ ∀ j, v.ownBlock = some j → j = N0 ∨ X ≤ j) ∧ Fr Nil1 w W)
    (fun _ _ _ => False) (fun _ _ _ _ => trivial)
    (fun X pre A B row hs hg hrow => ⟨(by obtain ⟨⟨v, h1, h2, h3⟩, _⟩ := hs; exact ⟨v, h1.grownBy hg (fun r e => (hrow r e).2), own_grown h2 hg (fun r e => (hrow r e).2), h3⟩), hs.2.grownBy hg hrow (by omega) (by omega)⟩)
    (fun _ _ _ _ _ hs _ _ => hs)
    (fun X hX => ⟨⟨_, hbx0, hrow0, fun j e => .inl (by simpa [Value.ownBlock] using e.symm)⟩, hfA⟩)
    (fun x => { tmps := #[.pointer (some ⟨s, 0, none⟩), .int .i64 lo, .int .i64 hi, undef, undef, undef, .slice none 0 0, .pointer (some ⟨N0 + 1, 0, none⟩), .func (.func 102) #[] #[.pointer (some ⟨N0 + 1 + 1, 0, none⟩), .pointer (some ⟨N0 + 1 + 1 + 1, 0, none⟩), .pointer (some ⟨N0 + 1 + 1 + 1 + 1, 0, none⟩)], .int .i64 x, .slice (some ⟨N0, 0, none⟩) 0 0, .pointer (some ⟨s, 0, none⟩), .int .i64 lo, .int .i64 hi, .func (.func 102) #[] #[.pointer (some ⟨N0 + 1 + 1, 0, none⟩), .pointer (some ⟨N0 + 1 + 1 + 1, 0, none⟩), .pointer (some ⟨N0 + 1 + 1 + 1 + 1, 0, none⟩)], .func (.func 102) #[] #[.pointer (some ⟨N0 + 1 + 1, 0, none⟩), .pointer (some ⟨N0 + 1 + 1 + 1, 0, none⟩), .pointer (some ⟨N0 + 1 + 1 + 1 + 1, 0, none⟩)], .bool false, undef, undef, undef, undef, .func (.func 102) #[] #[.pointer (some ⟨N0 + 1 + 1, 0, none⟩), .pointer (some ⟨N0 + 1 + 1 + 1, 0, none⟩), .pointer (some ⟨N0 + 1 + 1 + 1 + 1, 0, none⟩)], .int .i64 x, undef, undef, undef, undef, undef, undef, undef, undef], defers := [] }) ?assign ?body ?done ?stop
  case assign =>
    intro l x W K hK
    gi_wp2
    simpa using hK
  case body =>
    rintro l X pre x W hX hXW ⟨⟨v, hv, hrow, hat⟩, hF⟩ hlt
    obtain ⟨hc, hfz⟩ := hv.one
    have hWs : N0 ≤ W.heap.size := by omega
    have hat0 : ∀ j, v.ownBlock = some j → N0 ≤ j := own_block hrow
    have Hv := hid hv
    have Hrow := hid hrow
    have HB := hid hF
    have Hat := hid hat
    have HG := hid (And.intro hG hs2)
    clear hF hat hG hfA hrow0 hbx0
    have hmxn : pre.length ≤ 4096 := by omega
    gi_wp2_with (gi_at_builtin; first
      | (refine wpListIn_append_at _ rfl _ _ 30 rfl N0 3 i0 (.int .i64 0) 1 8 Tryz.underlying30 hi0 hz0 hz1 hz2 rfl (by decide) _ _ _ rfl (Hrow.out.alloc _) ⟨W.heap.size, 0, none⟩ 1 1 [.int .i64 x] rfl rfl (cell_one_new _ _ _) (by simp [Value.oneCell']) (by unfold maxLen; omega) (by omega) (by simp; omega) ?_; intro v' w1 hown' hgrow hat'; obtain ⟨g', cap', rfl⟩ := ownsRow_succ hown'; obtain ⟨hv1, hv2, hr2, hk2, hb2⟩ := Hv.out.appended (by decide) Hrow.out hWs hown' hgrow; obtain ⟨hc1, hf1⟩ := hv1.one; have hc2 := hv2.cell 0; have hgrow' := hid hgrow; have hat2 := hid hat'; clear hgrow hb2 hat'))
    have hg1 : (W.alloc (.cells #[.int .i64 x] 3)).grownBy w1 v.ownBlock := hgrow'.out
    have hat3 : some g' = v.ownBlock ∨ some g' = some (W.alloc (.cells #[.int .i64 x] 3)).heap.size := hat2.out
    have hG1 := HG.out
    refine ⟨KeepX.appended hk2 hg1 (fun k hk => ⟨?_, fun e => ?_⟩), ⟨⟨_, hv2, ?_, ?_⟩, HB.out.appended hg1 (by omega) (fun j e => by have := hat0 j e; omega) (by omega)⟩⟩
    · rcases hk with hk | (rfl | rfl | rfl) | hk <;> omega
    · have h1 := hat0 k e.symm
      rcases Hat.out k e.symm with h2 | h2 <;> rcases hk with hk | (rfl | rfl | rfl) | hk <;> omega
    · unfold RowI
      rw [List.length_append, List.map_append]
      exact hr2
    · intro j e
      obtain rfl : g' = j := by simpa [Value.ownBlock] using e
      rcases hat3 with h3 | h3
      · exact Hat.out _ h3.symm
      · right
        simp at h3
        omega
  case done =>
    rintro D X ys W hD rfl ⟨⟨v, hv, hrow, hat⟩, hF⟩ hK
    obtain ⟨hc, hfz⟩ := hv.one
    gi_wp2_with fail
    refine ⟨by simp, .inl ⟨_, _, rfl, run_takeDeferred hK, ?_⟩⟩
    exact ⟨_, results_tmp rfl _ _ _, v, rfl, hid ⟨hN0.symm ▸ ownsRow_putObj hrow _ hK rfl, hF.putObj D _ (by omega) (by omega)⟩⟩
  case stop =>
    rintro D c pre W _ _ h _
    exact h.elim
end Go.Proofs.YtechphliifginaaGreatDoor

/- The row that the law makes of Back. -/
set_option linter.unusedVariables false
set_option linter.unusedSimpArgs false
namespace Go.Proofs.YtechphliifginaaGreatDoor
open Go.RowKit Go.Shelf
attribute [local go_sem] Oper.semAt_some

set_option maxRecDepth 100000 in
set_option maxHeartbeats 8000000 in
theorem down14_any {w0 w : World} {s : Nat} {ks : List Int} (hS : SS w0 s ks w) (lo hi : Int) :
    Calls Tryz.prog 42 #[.pointer (some ⟨s, 0, none⟩), .int .i64 lo, .int .i64 hi] w fun e w' => ∃ v, e = .returned v ∧ Hid (RowI w' w.heap.size v (btwL ks lo hi).reverse ∧ Fr Nil1 w w') := by
  refine (callsIn_wide (n := 3)).1 ?_
  obtain ⟨i0, hi0, hz0, hz1, hz2⟩ := info_parts info_int
  have hG := hS.gg
  have hsm := hS.small
  refine callsIn_of_wp_marks Tryz.func42 rfl trivial ?_ rfl
  simp only [Tryz.ntmps42, List.size_toArray, List.length_cons, List.length_nil, Nat.reduceAdd, Nat.reduceSub, Array.replicate_succ, Array.replicate_zero, List.push_toArray, List.append_toArray, List.nil_append, List.cons_append]
  have HS := hid hS
  have HA := hid (ApJ.start w)
  have hent1 := eqSeq
  clear hS
  gi_wp2_with (first
    | ((first | refine ⟨trivial, wideNo, ?_⟩ | refine ⟨trivial, ?_⟩); gi_at_call 44; refine (callsIn_wide.2 (scanBack_any s lo hi _)).mono ?_; rintro e w2 ⟨rfl, hr, hf, hs⟩; have H2 := hid (And.intro hr (And.intro hf hs)); clear hr hf hs))
  obtain ⟨N0, hN0⟩ : ∃ N0, w.heap.size = N0 := ⟨_, rfl⟩
  have hap := HA.out
  simp only [World.size_alloc] at H2
  have hbx := Has.new (w.alloc (.cells #[] 3)) [.slice (some ⟨w.heap.size, 0, none⟩) 0 0] 30
  have hfb : Fr Nil1 (w.alloc (.cells #[] 3)) ((w.alloc (.cells #[] 3)).alloc (.cells #[.slice (some ⟨w.heap.size, 0, none⟩) 0 0] 30)) := (Fr.refl _ _).alloc _
  simp only [World.size_alloc] at hbx
  rw [hN0] at hap H2 hbx hfb hG ⊢
  obtain ⟨hrg, hf2, hs2⟩ := H2.out
  have hfA := (hap.new (hfb.trans hf2)).fr
  have hrow0 : RowI w2 N0 (.slice (some ⟨N0, 0, none⟩) 0 0) [] := hN0 ▸ (hap.new (hfb.trans hf2)).row
  have hbx0 := hbx.fr' hf2 id
  clear hbx hfb hap H2 HA
  refine wpIn_rangeX (by omega) (by omega) (T := RngT (N0 + 1 + 1) (N0 + 1 + 1 + 1) (N0 + 1 + 1 + 1 + 1)) (fun k hk => hrg.lt k hk) (gf := 104) (lb := #[.pointer (some ⟨N0 + 1 + 1, 0, none⟩), .pointer (some ⟨N0 + 1 + 1 + 1 + 1, 0, none⟩), .pointer (some ⟨N0 + 1 + 1 + 1, 0, none⟩)]) rfl (enters_of Tryz.func104 (by kernel_rfl) rfl)
    (scanBack1_X _ (HS.out.new hfA) hrg) (fun _ => rfl)
    (fun X (pre : List Int) (W : World) => (∃ v, Has W (N0 + 1) [v] 30 ∧ RowI W N0 v pre ∧ ∀ j, v.ownBlock = some j → j = N0 ∨ X ≤ j) ∧ Fr Nil1 w W)
    (fun _ _ _ => False) (fun _ _ _ _ => trivial)
    (fun X pre A B row hs hg hrow => ⟨(by obtain ⟨⟨v, h1, h2, h3⟩, _⟩ := hs; exact ⟨v, h1.grownBy hg (fun r e => (hrow r e).2), own_grown h2 hg (fun r e => (hrow r e).2), h3⟩), hs.2.grownBy hg hrow (by omega) (by omega)⟩)
    (fun _ _ _ _ _ hs _ _ => hs)
    (fun X hX => ⟨⟨_, hbx0, hrow0, fun j e => .inl (by simpa [Value.ownBlock] using e.symm)⟩, hfA⟩)
    (fun x => { tmps := #[.pointer (some ⟨s, 0, none⟩), .int .i64 lo, .int .i64 hi, undef, undef, undef, .slice none 0 0, .pointer (some ⟨N0 + 1, 0, none⟩), .func (.func 104) #[] #[.pointer (some ⟨N0 + 1 + 1, 0, none⟩), .pointer (some ⟨N0 + 1 + 1 + 1 + 1, 0, none⟩), .pointer (some ⟨N0 + 1 + 1 + 1, 0, none⟩)], .int .i64 x, .slice (some ⟨N0, 0, none⟩) 0 0, .pointer (some ⟨s, 0, none⟩), .int .i64 lo, .int .i64 hi, .func (.func 104) #[] #[.pointer (some ⟨N0 + 1 + 1, 0, none⟩), .pointer (some ⟨N0 + 1 + 1 + 1 + 1, 0, none⟩), .pointer (some ⟨N0 + 1 + 1 + 1, 0, none⟩)], .func (.func 104) #[] #[.pointer (some ⟨N0 + 1 + 1, 0, none⟩), .pointer (some ⟨N0 + 1 + 1 + 1 + 1, 0, none⟩), .pointer (some ⟨N0 + 1 + 1 + 1, 0, none⟩)], .bool false, undef, undef, undef, undef, .func (.func 104) #[] #[.pointer (some ⟨N0 + 1 + 1, 0, none⟩), .pointer (some ⟨N0 + 1 + 1 + 1 + 1, 0, none⟩), .pointer (some ⟨N0 + 1 + 1 + 1, 0, none⟩)], .int .i64 x, undef, undef, undef, undef, undef, undef, undef, undef], defers := [] }) ?assign ?body ?done ?stop
  case assign =>
    intro l x W K hK
    gi_wp2
    simpa using hK
  case body =>
    rintro l X pre x W hX hXW ⟨⟨v, hv, hrow, hat⟩, hF⟩ hlt
    obtain ⟨hc, hfz⟩ := hv.one
    have hWs : N0 ≤ W.heap.size := by omega
    have hat0 : ∀ j, v.ownBlock = some j → N0 ≤ j := own_block hrow
    have Hv := hid hv
    have Hrow := hid hrow
    have HB := hid hF
    have Hat := hid hat
    have HG := hid (And.intro hG hs2)
    clear hF hat hG hfA hrow0 hbx0
    have hmxn : pre.length ≤ 4096 := by omega
    gi_wp2_with (gi_at_builtin; first
      | (refine wpListIn_append_at _ rfl _ _ 30 rfl N0 3 i0 (.int .i64 0) 1 8 Tryz.underlying30 hi0 hz0 hz1 hz2 rfl (by decide) _ _ _ rfl (Hrow.out.alloc _) ⟨W.heap.size, 0, none⟩ 1 1 [.int .i64 x] rfl rfl (cell_one_new _ _ _) (by simp [Value.oneCell']) (by unfold maxLen; omega) (by omega) (by simp; omega) ?_; intro v' w1 hown' hgrow hat'; obtain ⟨g', cap', rfl⟩ := ownsRow_succ hown'; obtain ⟨hv1, hv2, hr2, hk2, hb2⟩ := Hv.out.appended (by decide) Hrow.out hWs hown' hgrow; obtain ⟨hc1, hf1⟩ := hv1.one; have hc2 := hv2.cell 0; have hgrow' := hid hgrow; have hat2 := hid hat'; clear hgrow hb2 hat'))
    have hg1 : (W.alloc (.cells #[.int .i64 x] 3)).grownBy w1 v.ownBlock := hgrow'.out
    have hat3 : some g' = v.ownBlock ∨ some g' = some (W.alloc (.cells #[.int .i64 x] 3)).heap.size := hat2.out
    have hG1 := HG.out
    refine ⟨KeepX.appended hk2 hg1 (fun k hk => ⟨?_, fun e => ?_⟩), ⟨⟨_, hv2, ?_, ?_⟩, HB.out.appended hg1 (by omega) (fun j e => by have := hat0 j e; omega) (by omega)⟩⟩
    · rcases hk with hk | (rfl | rfl | rfl) | hk <;> omega
    · have h1 := hat0 k e.symm
      rcases Hat.out k e.symm with h2 | h2 <;> rcases hk with hk | (rfl | rfl | rfl) | hk <;> omega
    · unfold RowI
      rw [List.length_append, List.map_append]
      exact hr2
    · intro j e
      obtain rfl : g' = j := by simpa [Value.ownBlock] using e
      rcases hat3 with h3 | h3
      · exact Hat.out _ h3.symm
      · right
        simp at h3
        omega
  case done =>
    rintro D X ys W hD rfl ⟨⟨v, hv, hrow, hat⟩, hF⟩ hK
    obtain ⟨hc, hfz⟩ := hv.one
    gi_wp2_with fail
    refine ⟨by simp, .inl ⟨_, _, rfl, run_takeDeferred hK, ?_⟩⟩
    exact ⟨_, results_tmp rfl _ _ _, v, rfl, hid ⟨hN0.symm ▸ ownsRow_putObj hrow _ hK rfl, hF.putObj D _ (by omega) (by omega)⟩⟩
  case stop =>
    rintro D c pre W _ _ h _
    exact h.elim
end Go.Proofs.YtechphliifginaaGreatDoor
