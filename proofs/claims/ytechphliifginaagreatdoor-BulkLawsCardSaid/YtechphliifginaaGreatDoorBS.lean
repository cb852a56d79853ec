/- bulk.side: two rows gone through side by side. -/
import Derived.Test.YtechphliifginaaGreatDoorBM
import Derived.Test.YtechphliifginaaGreatDoorRY
import Derived.OwnWalkIn
import Derived.BigQuiet
set_option linter.unusedVariables false
set_option linter.unusedSimpArgs false
namespace Go.Proofs.YtechphliifginaaGreatDoor
open Go.RowKit Go.Shelf
attribute [local go_sem] Oper.semAt_some

def encSd (x : Int × Bool × Bool) : Array Value := #[.int .i64 x.1, .agg #[.bool x.2.1, .bool x.2.2]]
/-- A row, of which i are behind, in a box. -/
structure SdB (W : World) (b g : Nat) (xs : List Int) (i : Nat) : Prop where
  box : ∃ B c, Has W b [.slice B (xs.length - i) c] 30 ∧ xs.length - i ≤ c ∧ (i < xs.length → B = some ⟨g, i, none⟩)
  row : ∀ k, k < xs.length → W.cell? ⟨g, k, none⟩ = some (.int .i64 (xs.getD k 0))
  lt : b < W.heap.size
section
variable {W W' : World} {b g : Nat} {xs : List Int} {i : Nat}
theorem SdB.stay (H : SdB W b g xs i) (hb : ∀ c T, Has W b c T → Has W' b c T) (hg : ∀ a v, a.block = g → W.cell? a = some v → W'.cell? a = some v) (hs : W.heap.size ≤ W'.heap.size) : SdB W' b g xs i := by
  obtain ⟨B, c, h1, h2, h3⟩ := H.box
  exact ⟨⟨B, c, hb _ _ h1, h2, h3⟩, fun k hk => hg _ _ rfl (H.row k hk), Nat.lt_of_lt_of_le H.lt hs⟩
theorem SdB.next (H : SdB W b g xs i) {B : Option Addr} {c : Nat} (hi : i < xs.length) (hb : Has W' b [.slice B (xs.length - i - 1) c] 30) (hc : xs.length - i - 1 ≤ c) (hB : i + 1 < xs.length → B = some ⟨g, i + 1, none⟩) (hg : ∀ a v, a.block = g → W.cell? a = some v → W'.cell? a = some v) (hs : b < W'.heap.size) : SdB W' b g xs (i + 1) :=
  ⟨⟨B, c, by rw [show xs.length - (i + 1) = xs.length - i - 1 by omega]; exact hb, by omega, hB⟩, fun k hk => hg _ _ rfl (H.row k hk), hs⟩
theorem SdB.keepX {T : Nat → Prop} {Y X : Nat} (H : SdB W b g xs i) (hk : KeepX T Y X W W') (hb : T b) (hg : T g) : SdB W' b g xs i :=
  H.stay (fun c T h => (hk.low b (.inr (.inl hb)) H.lt).trans h) (fun a v e h => by
    obtain ⟨o, ho, _⟩ := cells_of_cell h
    have := hk.low a.block (.inr (.inl (e ▸ hg))) (Array.getElem?_eq_some_iff.1 ho).1
    exact (World.cell?_of_block (w := W) this).trans h) hk.size
end
/-- How long a boxed slice is. -/
def lenAt (W : World) (b : Nat) : Nat := match W.cell? ⟨b, 0, none⟩ with
  | some (.slice _ n _) => n
  | _ => 0
theorem lenAt_is {W : World} {b g : Nat} {xs : List Int} {i : Nat} (H : SdB W b g xs i) : lenAt W b = xs.length - i := by
  obtain ⟨B, c, h1, _⟩ := H.box
  unfold lenAt
  rw [h1.cell 0]
  rfl
def SdT (Ba Bb ga gb : Nat) (k : Nat) : Prop := k = Ba ∨ k = Bb ∨ k = ga ∨ k = gb
def SdO (Ba Bb : Nat) (k : Nat) : Prop := k = Ba ∨ k = Bb
/-- The head of the loop. -/
structure SdI (Ba Bb ga gb : Nat) (ka kb : List Int) (X : Nat) (J : Nat → List (Int × Bool × Bool) → World → Prop) (Y i j : Nat) (pre : List (Int × Bool × Bool)) (W : World) : Prop where
  a : SdB W Ba ga ka i
  b : SdB W Bb gb kb j
  d : SideD ka kb i j pre
  jj : J X pre W
  sz : Y ≤ W.heap.size
set_option maxRecDepth 100000 in
set_option maxHeartbeats 8000000 in
theorem bulkSide1_in (n l : Nat) {Ba Bb ga gb : Nat} (hab : Ba ≠ Bb) (hag : ga ≠ Ba ∧ ga ≠ Bb ∧ gb ≠ Ba ∧ gb ≠ Bb) {ka kb : List Int} (hA : Up ka) (hB : Up kb) (J : Nat → List (Int × Bool × Bool) → World → Prop) (Jx : List (Int × Bool × Bool) → World → Prop) (W : World)
    (Ha : SdB W Ba ga ka 0) (Hb : SdB W Bb gb kb 0) (hN : NG ≤ Ba ∧ NG ≤ Bb) (hlen : ka.length ≤ 5000 ∧ kb.length ≤ 5000)
    (hS : ∀ X pre W1 W2, J X pre W1 → Fr (SdO Ba Bb) W1 W2 → J X pre W2)
    (hY : ∀ X pre x W1, W.heap.size ≤ X → X ≤ W1.heap.size → J X pre W1 → pre.length < ka.length + kb.length → YieldAt Fence.wide (n - 1) Tryz.prog l (encSd x) W1 fun e W' =>
      (e = .returned (.bool true) ∧ J X (pre ++ [x]) W' ∧ KeepX (SdT Ba Bb ga gb) W.heap.size X W1 W') ∨ (e = .returned (.bool false) ∧ Jx (pre ++ [x]) W' ∧ KeepsFrom W.heap.size W1 W'))
    (h0 : ∀ X, W.heap.size ≤ X → J X [] W) :
    CallsIn Fence.wide n Tryz.prog 193 #[.func (.yield l) #[] #[], .pointer (some ⟨Ba, 0, none⟩), .pointer (some ⟨Bb, 0, none⟩)] W fun e W' => (∃ v, e = .returned v) ∧
      ((∃ xs X, SideS ka kb xs ∧ J X xs W') ∨ (∃ pre, Jx pre W')) := by
  refine callsIn_of_wp Tryz.func193 rfl trivial ?_ rfl
  simp only [Tryz.ntmps193, List.size_toArray, List.length_cons, List.length_nil, Nat.reduceAdd, Nat.reduceSub, Array.replicate_succ, Array.replicate_zero, List.push_toArray, List.append_toArray, List.nil_append, List.cons_append]
  obtain ⟨Y, hYs⟩ : ∃ Y, W.heap.size = Y := ⟨_, rfl⟩
  have HI := hid (show SdI Ba Bb ga gb ka kb Y J Y 0 0 [] W from ⟨Ha, Hb, SideD.start ka kb, h0 Y (by omega), by omega⟩)
  have HY := hid hY
  have HS := hid hS
  have HP := hid (And.intro hab (And.intro hag (And.intro hA (And.intro hB (And.intro hN hlen)))))
  rw [hYs] at HY
  clear hab hag hA hB Ha Hb hN hlen hS hY h0 hYs
  gi_wp2_with fail
  gi_loopw [4, 18, 40] (fun _ _ _ wr => ∃ (i j : Nat) (pre : List (Int × Bool × Bool)), Hid (SdI Ba Bb ga gb ka kb Y J Y i j pre wr)) (fun _ _ _ wr => lenAt wr Ba + lenAt wr Bb)
  case atStart => exact ⟨0, 0, [], HI⟩
  case round =>
    obtain ⟨i, j, pre, HW⟩ := hrel
    obtain ⟨A1, c1, b1, r1, a1⟩ := HW.out.a.box
    obtain ⟨A2, c2, b2, r2, a2⟩ := HW.out.b.box
    obtain ⟨m, hm⟩ : ∃ m, ka.length - i = m := ⟨_, rfl⟩
    obtain ⟨k, hk⟩ : ∃ k, kb.length - j = k := ⟨_, rfl⟩
    rw [hm] at b1 r1
    rw [hk] at b2 r2
    have d1 := b1.cell 0
    have d2 := b2.cell 0
    have hh := HP.out
    have bW := HW.out.sz
    have hQa := HW.out.a.lt
    have hQb := HW.out.b.lt
    -- the round's own box
    have w1 := Has.new wr [.bool false, .bool false] 141
    have fA : Fr Nil1 wr (wr.alloc (.cells #[.bool false, .bool false] 141)) := (Fr.refl _ _).alloc _
    by_cases k0 : k = 0
    · by_cases m0 : m = 0
      · subst m0 k0
        have HMK := hid (And.intro hm hk)
        clear hm hk
        gi_wp2_with fail
        go_end0
        have e1 : i = ka.length := by have := HMK.out.1; have := HW.out.d.hi; omega
        have e2 : j = kb.length := by have := HMK.out.2; have := HW.out.d.hj; omega
        exact ⟨⟨_, rfl⟩, .inl ⟨pre, Y, (e1 ▸ e2 ▸ HW.out.d).done, HW.out.jj⟩⟩
      · have HMK := hid (And.intro hm hk)
        have hiL : i < ka.length := by omega
        have hmi : (0 : Int) < m := by omega
        have a1' := a1 hiL
        subst a1'
        have el := HW.out.a.row i hiL
        have hx := get_some hiL
        obtain ⟨x, hxx⟩ : ∃ x, ka.getD i 0 = x := ⟨_, rfl⟩
        rw [hxx] at el hx
        have HX := hid hx
        clear hx hxx
        subst k0
        obtain ⟨W2, hW2⟩ : ∃ W2, wr.alloc (.cells #[.bool false, .bool false] 141) = W2 := ⟨_, rfl⟩
        have HW2 := hid hW2
        rw [hW2] at w1 fA
        have qa : ∀ u : FrW W2, u.u.cell? ⟨Ba, 0, none⟩ = some (.slice (some ⟨ga, i, none⟩) m c1) := fun u => (b1.fr' (fA.trans u.h) id).cell 0
        have qb : ∀ u : FrW W2, u.u.cell? ⟨Bb, 0, none⟩ = some (.slice (A2) 0 c2) := fun u => (b2.fr' (fA.trans u.h) id).cell 0
        have qe : ∀ u : FrW W2, u.u.cell? ⟨ga, i, none⟩ = some (.int .i64 x) := fun u => (fA.trans u.h).cell el id
        have HFA := hid fA
        clear fA hW2 bW el
        have HQA := hid qa
        have HQB := hid qb
        have HQE := hid qe
        gi_wp2_with fail
        rw [HW2.out]
        clear d1 d2
        refine wpIn_region_fr0 W2 (Fr.refl _ _) (by kernel_rfl) (by kernel_rfl) ?_
        repeat (go_big_quiet_step (fail))
        refine wpQuiet_nil ?_
        rintro _ ⟨u0, rfl⟩
        obtain ⟨u1, hu1⟩ : ∃ u1 : FrW W2, u1 = u0 := ⟨_, rfl⟩
        subst hu1
        clear qa qb qe
        have da := HQA.out u1
        have db := HQB.out u1
        have de := HQE.out u1
        have w1' := w1.fr' u1.h id
        obtain ⟨e0, e1, ef⟩ := w1'.two
        have hF1 := HFA.out.trans u1.h
        obtain ⟨_, fa⟩ := (b1.fr' hF1 id).one
        obtain ⟨_, fb⟩ := (b2.fr' hF1 id).one
        have n1 : ¬ Ba = wr.heap.size := by omega
        have n2 : ¬ wr.heap.size = Ba := by omega
        have n3 : ¬ Bb = wr.heap.size := by omega
        have n4 : ¬ wr.heap.size = Bb := by omega
        have hGw : NG ≤ wr.heap.size := by have := hh.2.2.2.2.1.1; omega
        have hNa := hh.2.2.2.2.1.1
        have hNb := hh.2.2.2.2.1.2
        repeat gi_step
        obtain ⟨V, hV⟩ : ∃ V, (u1.u.setCell ⟨wr.heap.size, 0, none⟩ (.bool true)).setCell ⟨Ba, 0, none⟩ (.slice (if c1 = 1 then some ⟨ga, i, none⟩ else some ⟨ga, i + 1, none⟩) (m - 1) (c1 - 1)) = V := ⟨_, rfl⟩
        have hFr : Fr (SdO Ba Bb) wr V := hV ▸ (((hF1.mono (S' := SdO Ba Bb) (fun _ _ h => h.elim)).setCell ⟨wr.heap.size, 0, none⟩ _ hGw (fun h => absurd h (Nat.lt_irrefl _))).setCell ⟨Ba, 0, none⟩ _ hNa (fun _ => .inl rfl))
        have hBa : Has V Ba [.slice (if c1 = 1 then some ⟨ga, i, none⟩ else some ⟨ga, i + 1, none⟩) (m - 1) (c1 - 1)] 30 := hV ▸ (((b1.fr' hF1 id).other (p := ⟨wr.heap.size, 0, none⟩) (.bool true) (by show Ba ≠ wr.heap.size; omega)).set 0 (.slice (if c1 = 1 then some ⟨ga, i, none⟩ else some ⟨ga, i + 1, none⟩) (m - 1) (c1 - 1)))
        have hBb : Has V Bb [.slice (A2) 0 c2] 30 := hV ▸ (((b2.fr' hF1 id).other (p := ⟨wr.heap.size, 0, none⟩) (.bool true) (by show Bb ≠ wr.heap.size; omega)).other (p := ⟨Ba, 0, none⟩) (.slice (if c1 = 1 then some ⟨ga, i, none⟩ else some ⟨ga, i + 1, none⟩) (m - 1) (c1 - 1)) (by show Bb ≠ Ba; omega))
        have hga : ∀ a v, a.block = ga → wr.cell? a = some v → V.cell? a = some v := fun a v e h => hFr.cell h (fun s => by rcases s with s | s; exact hh.2.1.1 (e ▸ s); exact hh.2.1.2.1 (e ▸ s))
        have hgb : ∀ a v, a.block = gb → wr.cell? a = some v → V.cell? a = some v := fun a v e h => hFr.cell h (fun s => by rcases s with s | s; exact hh.2.1.2.2.1 (e ▸ s); exact hh.2.1.2.2.2 (e ▸ s))
        have HA1 := hid (HW.out.a.next (W' := V) hiL (by rw [HMK.out.1]; exact hBa) (by rw [HMK.out.1]; omega) (fun h => if_neg (by have := HMK.out.1; omega)) hga (Nat.lt_of_lt_of_le HW.out.a.lt hFr.size))
        have HB1 := hid (HW.out.b.stay (W' := V) (fun c T h => hV ▸ (((h.fr' hF1 id).other (p := ⟨wr.heap.size, 0, none⟩) (.bool true) (by show Bb ≠ wr.heap.size; omega)).other (p := ⟨Ba, 0, none⟩) (.slice (if c1 = 1 then some ⟨ga, i, none⟩ else some ⟨ga, i + 1, none⟩) (m - 1) (c1 - 1)) (by show Bb ≠ Ba; omega))) hgb hFr.size)
        have HD := hid (HW.out.d.stepA hh.2.2.1 hh.2.2.2.1 HX.out (fun z hz => by rw [List.getElem?_eq_none (by have := HMK.out.2; omega)] at hz; cases hz))
        have HVs := hid hFr.size
        have hlenp : pre.length < ka.length + kb.length := by have := HW.out.d.len; have := HW.out.d.hi; have := HW.out.d.hj; omega
        have HJ := hid (HS.out Y pre wr V HW.out.jj hFr)
        obtain ⟨fn, tmps, assign, body, hyy, hR⟩ := HY.out Y pre (x, true, false) V (Nat.le_refl _) (Nat.le_trans HW.out.sz hFr.size) HJ.out hlenp
        unfold encSd at hyy
        dsimp only at hyy
        have HR := hid hR
        rw [hV, hyy]
        clear hR hV hFr hBa hBb hga hgb hlenp
        clear da db n1 n2 n3 n4 e0 e1 ef fa fb
        refine ⟨wideNo, HR.out.mono ?_⟩
        rintro e W3 (⟨rfl, hJ3, hk3⟩ | ⟨rfl, hJx3, _⟩)
        · have HJ3 := hid hJ3
          have HK3 := hid hk3
          clear hJ3 hk3
          gi_wp2_with fail
          go_roundw
          case rel =>
            exact ⟨i + 1, j, pre ++ [(x, true, false)], hid ⟨HA1.out.keepX HK3.out (.inl rfl) (.inr (.inr (.inl rfl))), HB1.out.keepX HK3.out (.inr (.inl rfl)) (.inr (.inr (.inr rfl))), HD.out, HJ3.out, by have := HW.out.sz; have := HVs.out; have := HK3.out.size; omega⟩⟩
          case measure =>
            rw [lenAt_is (HA1.out.keepX HK3.out (.inl rfl) (.inr (.inr (.inl rfl)))), lenAt_is (HB1.out.keepX HK3.out (.inr (.inl rfl)) (.inr (.inr (.inr rfl)))), lenAt_is HW.out.a, lenAt_is HW.out.b]
            omega
        · have HJx := hid hJx3
          clear hJx3
          gi_wp2_with fail
          all_goals (
            refine bodyPost_ret (results_none rfl _ _ _) rfl ?_
            exact ⟨⟨_, rfl⟩, .inr ⟨_, HJx.out⟩⟩)
    · by_cases m0 : m = 0
      · have HMK := hid (And.intro hm hk)
        have hjL : j < kb.length := by omega
        have hki : (0 : Int) < k := by omega
        have a2' := a2 hjL
        subst a2'
        have em := HW.out.b.row j hjL
        have hy := get_some hjL
        obtain ⟨y, hyy'⟩ : ∃ y, kb.getD j 0 = y := ⟨_, rfl⟩
        rw [hyy'] at em hy
        have HY2 := hid hy
        clear hy hyy'
        have qk0 : ((k : Int) == 0) = false := by rw [beq_eq_false_iff_ne]; omega
        have q00 : decide ((0 : Int) < 0) = false := by decide
        subst m0
        obtain ⟨W2, hW2⟩ : ∃ W2, wr.alloc (.cells #[.bool false, .bool false] 141) = W2 := ⟨_, rfl⟩
        have HW2 := hid hW2
        rw [hW2] at w1 fA
        have qa : ∀ u : FrW W2, u.u.cell? ⟨Ba, 0, none⟩ = some (.slice (A1) 0 c1) := fun u => (b1.fr' (fA.trans u.h) id).cell 0
        have qb : ∀ u : FrW W2, u.u.cell? ⟨Bb, 0, none⟩ = some (.slice (some ⟨gb, j, none⟩) k c2) := fun u => (b2.fr' (fA.trans u.h) id).cell 0
        have qf : ∀ u : FrW W2, u.u.cell? ⟨gb, j, none⟩ = some (.int .i64 y) := fun u => (fA.trans u.h).cell em id
        have HFA := hid fA
        clear fA hW2 bW em
        have HQA := hid qa
        have HQB := hid qb
        have HQF := hid qf
        gi_wp2_with fail
        rw [HW2.out]
        clear d1 d2
        refine wpIn_region_fr0 W2 (Fr.refl _ _) (by kernel_rfl) (by kernel_rfl) ?_
        repeat (go_big_quiet_step (fail))
        refine wpQuiet_nil ?_
        rintro _ ⟨u0, rfl⟩
        clear qa qb qf
        have qa : ∀ u : FrW u0.u, u.u.cell? ⟨Ba, 0, none⟩ = some (.slice (A1) 0 c1) := fun u => HQA.out ⟨u.u, u0.h.trans u.h⟩
        have qb : ∀ u : FrW u0.u, u.u.cell? ⟨Bb, 0, none⟩ = some (.slice (some ⟨gb, j, none⟩) k c2) := fun u => HQB.out ⟨u.u, u0.h.trans u.h⟩
        have qf : ∀ u : FrW u0.u, u.u.cell? ⟨gb, j, none⟩ = some (.int .i64 y) := fun u => HQF.out ⟨u.u, u0.h.trans u.h⟩
        gi_wp2_with fail
        refine wpIn_region_fr0 u0.u (Fr.refl _ _) (by kernel_rfl) (by kernel_rfl) ?_
        repeat (go_big_quiet_step (fail))
        refine wpQuiet_nil ?_
        rintro _ ⟨u9, rfl⟩
        obtain ⟨u1, hu1⟩ : ∃ u1 : FrW W2, u1.u = u9.u := ⟨⟨u9.u, u0.h.trans u9.h⟩, rfl⟩
        rw [← hu1]
        clear hu1
        clear qa qb qf
        have da := HQA.out u1
        have db := HQB.out u1
        have df := HQF.out u1
        have w1' := w1.fr' u1.h id
        obtain ⟨e0, e1, ef⟩ := w1'.two
        have hF1 := HFA.out.trans u1.h
        obtain ⟨_, fa⟩ := (b1.fr' hF1 id).one
        obtain ⟨_, fb⟩ := (b2.fr' hF1 id).one
        have n1 : ¬ Ba = wr.heap.size := by omega
        have n2 : ¬ wr.heap.size = Ba := by omega
        have n3 : ¬ Bb = wr.heap.size := by omega
        have n4 : ¬ wr.heap.size = Bb := by omega
        have hGw : NG ≤ wr.heap.size := by have := hh.2.2.2.2.1.1; omega
        have hNa := hh.2.2.2.2.1.1
        have hNb := hh.2.2.2.2.1.2
        repeat gi_step
        obtain ⟨V, hV⟩ : ∃ V, (u1.u.setCell ⟨wr.heap.size, 1, none⟩ (.bool true)).setCell ⟨Bb, 0, none⟩ (.slice (if c2 = 1 then some ⟨gb, j, none⟩ else some ⟨gb, j + 1, none⟩) (k - 1) (c2 - 1)) = V := ⟨_, rfl⟩
        have hFr : Fr (SdO Ba Bb) wr V := hV ▸ (((hF1.mono (S' := SdO Ba Bb) (fun _ _ h => h.elim)).setCell ⟨wr.heap.size, 1, none⟩ _ hGw (fun h => absurd h (Nat.lt_irrefl _))).setCell ⟨Bb, 0, none⟩ _ hNb (fun _ => .inr rfl))
        have hBa : Has V Ba [.slice (A1) 0 c1] 30 := hV ▸ (((b1.fr' hF1 id).other (p := ⟨wr.heap.size, 1, none⟩) (.bool true) (by show Ba ≠ wr.heap.size; omega)).other (p := ⟨Bb, 0, none⟩) (.slice (if c2 = 1 then some ⟨gb, j, none⟩ else some ⟨gb, j + 1, none⟩) (k - 1) (c2 - 1)) (by show Ba ≠ Bb; omega))
        have hBb : Has V Bb [.slice (if c2 = 1 then some ⟨gb, j, none⟩ else some ⟨gb, j + 1, none⟩) (k - 1) (c2 - 1)] 30 := hV ▸ (((b2.fr' hF1 id).other (p := ⟨wr.heap.size, 1, none⟩) (.bool true) (by show Bb ≠ wr.heap.size; omega)).set 0 (.slice (if c2 = 1 then some ⟨gb, j, none⟩ else some ⟨gb, j + 1, none⟩) (k - 1) (c2 - 1)))
        have hga : ∀ a v, a.block = ga → wr.cell? a = some v → V.cell? a = some v := fun a v e h => hFr.cell h (fun s => by rcases s with s | s; exact hh.2.1.1 (e ▸ s); exact hh.2.1.2.1 (e ▸ s))
        have hgb : ∀ a v, a.block = gb → wr.cell? a = some v → V.cell? a = some v := fun a v e h => hFr.cell h (fun s => by rcases s with s | s; exact hh.2.1.2.2.1 (e ▸ s); exact hh.2.1.2.2.2 (e ▸ s))
        have HA1 := hid (HW.out.a.stay (W' := V) (fun c T h => hV ▸ (((h.fr' hF1 id).other (p := ⟨wr.heap.size, 1, none⟩) (.bool true) (by show Ba ≠ wr.heap.size; omega)).other (p := ⟨Bb, 0, none⟩) (.slice (if c2 = 1 then some ⟨gb, j, none⟩ else some ⟨gb, j + 1, none⟩) (k - 1) (c2 - 1)) (by show Ba ≠ Bb; omega))) hga hFr.size)
        have HB1 := hid (HW.out.b.next (W' := V) hjL (by rw [HMK.out.2]; exact hBb) (by rw [HMK.out.2]; omega) (fun h => if_neg (by have := HMK.out.2; omega)) hgb (Nat.lt_of_lt_of_le HW.out.b.lt hFr.size))
        have HD := hid (HW.out.d.stepB hh.2.2.1 hh.2.2.2.1 HY2.out (fun z hz => by rw [List.getElem?_eq_none (by have := HMK.out.1; omega)] at hz; cases hz))
        have HVs := hid hFr.size
        have hlenp : pre.length < ka.length + kb.length := by have := HW.out.d.len; have := HW.out.d.hi; have := HW.out.d.hj; omega
        have HJ := hid (HS.out Y pre wr V HW.out.jj hFr)
        obtain ⟨fn, tmps, assign, body, hyy, hR⟩ := HY.out Y pre (y, false, true) V (Nat.le_refl _) (Nat.le_trans HW.out.sz hFr.size) HJ.out hlenp
        unfold encSd at hyy
        dsimp only at hyy
        have HR := hid hR
        rw [hV, hyy]
        clear hR hV hFr hBa hBb hga hgb hlenp
        clear da db n1 n2 n3 n4 e0 e1 ef fa fb
        refine ⟨wideNo, HR.out.mono ?_⟩
        rintro e W3 (⟨rfl, hJ3, hk3⟩ | ⟨rfl, hJx3, _⟩)
        · have HJ3 := hid hJ3
          have HK3 := hid hk3
          clear hJ3 hk3
          gi_wp2_with fail
          go_roundw
          case rel =>
            exact ⟨i, j + 1, pre ++ [(y, false, true)], hid ⟨HA1.out.keepX HK3.out (.inl rfl) (.inr (.inr (.inl rfl))), HB1.out.keepX HK3.out (.inr (.inl rfl)) (.inr (.inr (.inr rfl))), HD.out, HJ3.out, by have := HW.out.sz; have := HVs.out; have := HK3.out.size; omega⟩⟩
          case measure =>
            rw [lenAt_is (HA1.out.keepX HK3.out (.inl rfl) (.inr (.inr (.inl rfl)))), lenAt_is (HB1.out.keepX HK3.out (.inr (.inl rfl)) (.inr (.inr (.inr rfl)))), lenAt_is HW.out.a, lenAt_is HW.out.b]
            omega
        · have HJx := hid hJx3
          clear hJx3
          gi_wp2_with fail
          all_goals (
            refine bodyPost_ret (results_none rfl _ _ _) rfl ?_
            exact ⟨⟨_, rfl⟩, .inr ⟨_, HJx.out⟩⟩)
      · have HMK := hid (And.intro hm hk)
        have hiL : i < ka.length := by omega
        have hmi : (0 : Int) < m := by omega
        have a1' := a1 hiL
        subst a1'
        have el := HW.out.a.row i hiL
        have hx := get_some hiL
        obtain ⟨x, hxx⟩ : ∃ x, ka.getD i 0 = x := ⟨_, rfl⟩
        rw [hxx] at el hx
        have HX := hid hx
        clear hx hxx
        have hjL : j < kb.length := by omega
        have hki : (0 : Int) < k := by omega
        have a2' := a2 hjL
        subst a2'
        have em := HW.out.b.row j hjL
        have hy := get_some hjL
        obtain ⟨y, hyy'⟩ : ∃ y, kb.getD j 0 = y := ⟨_, rfl⟩
        rw [hyy'] at em hy
        have HY2 := hid hy
        clear hy hyy'
        have qm0 : ((m : Int) == 0) = false := by rw [beq_eq_false_iff_ne]; omega
        have qk0 : ((k : Int) == 0) = false := by rw [beq_eq_false_iff_ne]; omega
        have qm1 : decide ((0 : Int) < m) = true := decide_eq_true hmi
        have qk1 : decide ((0 : Int) < k) = true := decide_eq_true hki
        have qm2 : decide (0 < m) = true := decide_eq_true (by omega)
        have qk2 : decide (0 < k) = true := decide_eq_true (by omega)
        rcases Int.lt_trichotomy x y with hlt | heq | hlt
        · have HLt := hid hlt
          have l1 : decide (x < y) = true := decide_eq_true hlt
          obtain ⟨W2, hW2⟩ : ∃ W2, wr.alloc (.cells #[.bool false, .bool false] 141) = W2 := ⟨_, rfl⟩
          have HW2 := hid hW2
          rw [hW2] at w1 fA
          have qa : ∀ u : FrW W2, u.u.cell? ⟨Ba, 0, none⟩ = some (.slice (some ⟨ga, i, none⟩) m c1) := fun u => (b1.fr' (fA.trans u.h) id).cell 0
          have qb : ∀ u : FrW W2, u.u.cell? ⟨Bb, 0, none⟩ = some (.slice (some ⟨gb, j, none⟩) k c2) := fun u => (b2.fr' (fA.trans u.h) id).cell 0
          have qe : ∀ u : FrW W2, u.u.cell? ⟨ga, i, none⟩ = some (.int .i64 x) := fun u => (fA.trans u.h).cell el id
          have qf : ∀ u : FrW W2, u.u.cell? ⟨gb, j, none⟩ = some (.int .i64 y) := fun u => (fA.trans u.h).cell em id
          have HFA := hid fA
          clear fA hW2 bW el em
          have HQA := hid qa
          have HQB := hid qb
          have HQE := hid qe
          have HQF := hid qf
          gi_wp2_with fail
          rw [HW2.out]
          clear d1 d2
          refine wpIn_region_fr0 W2 (Fr.refl _ _) (by kernel_rfl) (by kernel_rfl) ?_
          repeat (go_big_quiet_step (fail))
          refine wpQuiet_nil ?_
          rintro _ ⟨u0, rfl⟩
          obtain ⟨u1, hu1⟩ : ∃ u1 : FrW W2, u1 = u0 := ⟨_, rfl⟩
          subst hu1
          clear qa qb qe qf
          have da := HQA.out u1
          have db := HQB.out u1
          have de := HQE.out u1
          have df := HQF.out u1
          have w1' := w1.fr' u1.h id
          obtain ⟨e0, e1, ef⟩ := w1'.two
          have hF1 := HFA.out.trans u1.h
          obtain ⟨_, fa⟩ := (b1.fr' hF1 id).one
          obtain ⟨_, fb⟩ := (b2.fr' hF1 id).one
          have n1 : ¬ Ba = wr.heap.size := by omega
          have n2 : ¬ wr.heap.size = Ba := by omega
          have n3 : ¬ Bb = wr.heap.size := by omega
          have n4 : ¬ wr.heap.size = Bb := by omega
          have hGw : NG ≤ wr.heap.size := by have := hh.2.2.2.2.1.1; omega
          have hNa := hh.2.2.2.2.1.1
          have hNb := hh.2.2.2.2.1.2
          repeat gi_step
          obtain ⟨V, hV⟩ : ∃ V, (u1.u.setCell ⟨wr.heap.size, 0, none⟩ (.bool true)).setCell ⟨Ba, 0, none⟩ (.slice (if c1 = 1 then some ⟨ga, i, none⟩ else some ⟨ga, i + 1, none⟩) (m - 1) (c1 - 1)) = V := ⟨_, rfl⟩
          have hFr : Fr (SdO Ba Bb) wr V := hV ▸ (((hF1.mono (S' := SdO Ba Bb) (fun _ _ h => h.elim)).setCell ⟨wr.heap.size, 0, none⟩ _ hGw (fun h => absurd h (Nat.lt_irrefl _))).setCell ⟨Ba, 0, none⟩ _ hNa (fun _ => .inl rfl))
          have hBa : Has V Ba [.slice (if c1 = 1 then some ⟨ga, i, none⟩ else some ⟨ga, i + 1, none⟩) (m - 1) (c1 - 1)] 30 := hV ▸ (((b1.fr' hF1 id).other (p := ⟨wr.heap.size, 0, none⟩) (.bool true) (by show Ba ≠ wr.heap.size; omega)).set 0 (.slice (if c1 = 1 then some ⟨ga, i, none⟩ else some ⟨ga, i + 1, none⟩) (m - 1) (c1 - 1)))
          have hBb : Has V Bb [.slice (some ⟨gb, j, none⟩) k c2] 30 := hV ▸ (((b2.fr' hF1 id).other (p := ⟨wr.heap.size, 0, none⟩) (.bool true) (by show Bb ≠ wr.heap.size; omega)).other (p := ⟨Ba, 0, none⟩) (.slice (if c1 = 1 then some ⟨ga, i, none⟩ else some ⟨ga, i + 1, none⟩) (m - 1) (c1 - 1)) (by show Bb ≠ Ba; omega))
          have hga : ∀ a v, a.block = ga → wr.cell? a = some v → V.cell? a = some v := fun a v e h => hFr.cell h (fun s => by rcases s with s | s; exact hh.2.1.1 (e ▸ s); exact hh.2.1.2.1 (e ▸ s))
          have hgb : ∀ a v, a.block = gb → wr.cell? a = some v → V.cell? a = some v := fun a v e h => hFr.cell h (fun s => by rcases s with s | s; exact hh.2.1.2.2.1 (e ▸ s); exact hh.2.1.2.2.2 (e ▸ s))
          have HA1 := hid (HW.out.a.next (W' := V) hiL (by rw [HMK.out.1]; exact hBa) (by rw [HMK.out.1]; omega) (fun h => if_neg (by have := HMK.out.1; omega)) hga (Nat.lt_of_lt_of_le HW.out.a.lt hFr.size))
          have HB1 := hid (HW.out.b.stay (W' := V) (fun c T h => hV ▸ (((h.fr' hF1 id).other (p := ⟨wr.heap.size, 0, none⟩) (.bool true) (by show Bb ≠ wr.heap.size; omega)).other (p := ⟨Ba, 0, none⟩) (.slice (if c1 = 1 then some ⟨ga, i, none⟩ else some ⟨ga, i + 1, none⟩) (m - 1) (c1 - 1)) (by show Bb ≠ Ba; omega))) hgb hFr.size)
          have HD := hid (HW.out.d.stepA hh.2.2.1 hh.2.2.2.1 HX.out (fun z hz => by rw [HY2.out] at hz; cases hz; exact HLt.out))
          have HVs := hid hFr.size
          have hlenp : pre.length < ka.length + kb.length := by have := HW.out.d.len; have := HW.out.d.hi; have := HW.out.d.hj; omega
          have HJ := hid (HS.out Y pre wr V HW.out.jj hFr)
          obtain ⟨fn, tmps, assign, body, hyy, hR⟩ := HY.out Y pre (x, true, false) V (Nat.le_refl _) (Nat.le_trans HW.out.sz hFr.size) HJ.out hlenp
          unfold encSd at hyy
          dsimp only at hyy
          have HR := hid hR
          rw [hV, hyy]
          clear hR hV hFr hBa hBb hga hgb hlenp
          clear da db n1 n2 n3 n4 e0 e1 ef fa fb
          refine ⟨wideNo, HR.out.mono ?_⟩
          rintro e W3 (⟨rfl, hJ3, hk3⟩ | ⟨rfl, hJx3, _⟩)
          · have HJ3 := hid hJ3
            have HK3 := hid hk3
            clear hJ3 hk3
            gi_wp2_with fail
            go_roundw
            case rel =>
              exact ⟨i + 1, j, pre ++ [(x, true, false)], hid ⟨HA1.out.keepX HK3.out (.inl rfl) (.inr (.inr (.inl rfl))), HB1.out.keepX HK3.out (.inr (.inl rfl)) (.inr (.inr (.inr rfl))), HD.out, HJ3.out, by have := HW.out.sz; have := HVs.out; have := HK3.out.size; omega⟩⟩
            case measure =>
              rw [lenAt_is (HA1.out.keepX HK3.out (.inl rfl) (.inr (.inr (.inl rfl)))), lenAt_is (HB1.out.keepX HK3.out (.inr (.inl rfl)) (.inr (.inr (.inr rfl)))), lenAt_is HW.out.a, lenAt_is HW.out.b]
              omega
          · have HJx := hid hJx3
            clear hJx3
            gi_wp2_with fail
            all_goals (
              refine bodyPost_ret (results_none rfl _ _ _) rfl ?_
              exact ⟨⟨_, rfl⟩, .inr ⟨_, HJx.out⟩⟩)
        · subst heq
          have l1 : decide (x < x) = false := decide_eq_false (by omega)
          obtain ⟨W2, hW2⟩ : ∃ W2, wr.alloc (.cells #[.bool false, .bool false] 141) = W2 := ⟨_, rfl⟩
          have HW2 := hid hW2
          rw [hW2] at w1 fA
          have qa : ∀ u : FrW W2, u.u.cell? ⟨Ba, 0, none⟩ = some (.slice (some ⟨ga, i, none⟩) m c1) := fun u => (b1.fr' (fA.trans u.h) id).cell 0
          have qb : ∀ u : FrW W2, u.u.cell? ⟨Bb, 0, none⟩ = some (.slice (some ⟨gb, j, none⟩) k c2) := fun u => (b2.fr' (fA.trans u.h) id).cell 0
          have qe : ∀ u : FrW W2, u.u.cell? ⟨ga, i, none⟩ = some (.int .i64 x) := fun u => (fA.trans u.h).cell el id
          have qf : ∀ u : FrW W2, u.u.cell? ⟨gb, j, none⟩ = some (.int .i64 x) := fun u => (fA.trans u.h).cell em id
          have HFA := hid fA
          clear fA hW2 bW el em
          have HQA := hid qa
          have HQB := hid qb
          have HQE := hid qe
          have HQF := hid qf
          gi_wp2_with fail
          rw [HW2.out]
          clear d1 d2
          refine wpIn_region_fr0 W2 (Fr.refl _ _) (by kernel_rfl) (by kernel_rfl) ?_
          repeat (go_big_quiet_step (fail))
          refine wpQuiet_nil ?_
          rintro _ ⟨u0, rfl⟩
          clear qa qb qe qf
          have qa : ∀ u : FrW u0.u, u.u.cell? ⟨Ba, 0, none⟩ = some (.slice (some ⟨ga, i, none⟩) m c1) := fun u => HQA.out ⟨u.u, u0.h.trans u.h⟩
          have qb : ∀ u : FrW u0.u, u.u.cell? ⟨Bb, 0, none⟩ = some (.slice (some ⟨gb, j, none⟩) k c2) := fun u => HQB.out ⟨u.u, u0.h.trans u.h⟩
          have qe : ∀ u : FrW u0.u, u.u.cell? ⟨ga, i, none⟩ = some (.int .i64 x) := fun u => HQE.out ⟨u.u, u0.h.trans u.h⟩
          have qf : ∀ u : FrW u0.u, u.u.cell? ⟨gb, j, none⟩ = some (.int .i64 x) := fun u => HQF.out ⟨u.u, u0.h.trans u.h⟩
          gi_wp2_with fail
          refine wpIn_region_fr0 u0.u (Fr.refl _ _) (by kernel_rfl) (by kernel_rfl) ?_
          repeat (go_big_quiet_step (fail))
          refine wpQuiet_nil ?_
          rintro _ ⟨u9, rfl⟩
          obtain ⟨u1, hu1⟩ : ∃ u1 : FrW W2, u1.u = u9.u := ⟨⟨u9.u, u0.h.trans u9.h⟩, rfl⟩
          rw [← hu1]
          clear hu1
          clear qa qb qe qf
          have da := HQA.out u1
          have db := HQB.out u1
          have de := HQE.out u1
          have df := HQF.out u1
          have w1' := w1.fr' u1.h id
          obtain ⟨e0, e1, ef⟩ := w1'.two
          have hF1 := HFA.out.trans u1.h
          obtain ⟨_, fa⟩ := (b1.fr' hF1 id).one
          obtain ⟨_, fb⟩ := (b2.fr' hF1 id).one
          have n1 : ¬ Ba = wr.heap.size := by omega
          have n2 : ¬ wr.heap.size = Ba := by omega
          have n3 : ¬ Bb = wr.heap.size := by omega
          have n4 : ¬ wr.heap.size = Bb := by omega
          have n5 : ¬ Ba = Bb := hh.1
          have n6 : ¬ Bb = Ba := fun e => hh.1 e.symm
          have hGw : NG ≤ wr.heap.size := by have := hh.2.2.2.2.1.1; omega
          have hNa := hh.2.2.2.2.1.1
          have hNb := hh.2.2.2.2.1.2
          repeat gi_step
          obtain ⟨V, hV⟩ : ∃ V, (((u1.u.setCell ⟨wr.heap.size, 0, none⟩ (.bool true)).setCell ⟨wr.heap.size, 1, none⟩ (.bool true)).setCell ⟨Ba, 0, none⟩ (.slice (if c1 = 1 then some ⟨ga, i, none⟩ else some ⟨ga, i + 1, none⟩) (m - 1) (c1 - 1))).setCell ⟨Bb, 0, none⟩ (.slice (if c2 = 1 then some ⟨gb, j, none⟩ else some ⟨gb, j + 1, none⟩) (k - 1) (c2 - 1)) = V := ⟨_, rfl⟩
          have hFr : Fr (SdO Ba Bb) wr V := hV ▸ (((((hF1.mono (S' := SdO Ba Bb) (fun _ _ h => h.elim)).setCell ⟨wr.heap.size, 0, none⟩ _ hGw (fun h => absurd h (Nat.lt_irrefl _))).setCell ⟨wr.heap.size, 1, none⟩ _ hGw (fun h => absurd h (Nat.lt_irrefl _))).setCell ⟨Ba, 0, none⟩ _ hNa (fun _ => .inl rfl)).setCell ⟨Bb, 0, none⟩ _ hNb (fun _ => .inr rfl))
          have hBa : Has V Ba [.slice (if c1 = 1 then some ⟨ga, i, none⟩ else some ⟨ga, i + 1, none⟩) (m - 1) (c1 - 1)] 30 := hV ▸ (((((b1.fr' hF1 id).other (p := ⟨wr.heap.size, 0, none⟩) (.bool true) (by show Ba ≠ wr.heap.size; omega)).other (p := ⟨wr.heap.size, 1, none⟩) (.bool true) (by show Ba ≠ wr.heap.size; omega)).set 0 (.slice (if c1 = 1 then some ⟨ga, i, none⟩ else some ⟨ga, i + 1, none⟩) (m - 1) (c1 - 1))).other (p := ⟨Bb, 0, none⟩) (.slice (if c2 = 1 then some ⟨gb, j, none⟩ else some ⟨gb, j + 1, none⟩) (k - 1) (c2 - 1)) (by show Ba ≠ Bb; omega))
          have hBb : Has V Bb [.slice (if c2 = 1 then some ⟨gb, j, none⟩ else some ⟨gb, j + 1, none⟩) (k - 1) (c2 - 1)] 30 := hV ▸ (((((b2.fr' hF1 id).other (p := ⟨wr.heap.size, 0, none⟩) (.bool true) (by show Bb ≠ wr.heap.size; omega)).other (p := ⟨wr.heap.size, 1, none⟩) (.bool true) (by show Bb ≠ wr.heap.size; omega)).other (p := ⟨Ba, 0, none⟩) (.slice (if c1 = 1 then some ⟨ga, i, none⟩ else some ⟨ga, i + 1, none⟩) (m - 1) (c1 - 1)) (by show Bb ≠ Ba; omega)).set 0 (.slice (if c2 = 1 then some ⟨gb, j, none⟩ else some ⟨gb, j + 1, none⟩) (k - 1) (c2 - 1)))
          have hga : ∀ a v, a.block = ga → wr.cell? a = some v → V.cell? a = some v := fun a v e h => hFr.cell h (fun s => by rcases s with s | s; exact hh.2.1.1 (e ▸ s); exact hh.2.1.2.1 (e ▸ s))
          have hgb : ∀ a v, a.block = gb → wr.cell? a = some v → V.cell? a = some v := fun a v e h => hFr.cell h (fun s => by rcases s with s | s; exact hh.2.1.2.2.1 (e ▸ s); exact hh.2.1.2.2.2 (e ▸ s))
          have HA1 := hid (HW.out.a.next (W' := V) hiL (by rw [HMK.out.1]; exact hBa) (by rw [HMK.out.1]; omega) (fun h => if_neg (by have := HMK.out.1; omega)) hga (Nat.lt_of_lt_of_le HW.out.a.lt hFr.size))
          have HB1 := hid (HW.out.b.next (W' := V) hjL (by rw [HMK.out.2]; exact hBb) (by rw [HMK.out.2]; omega) (fun h => if_neg (by have := HMK.out.2; omega)) hgb (Nat.lt_of_lt_of_le HW.out.b.lt hFr.size))
          have HD := hid (HW.out.d.stepAB hh.2.2.1 hh.2.2.2.1 HX.out HY2.out)
          have HVs := hid hFr.size
          have hlenp : pre.length < ka.length + kb.length := by have := HW.out.d.len; have := HW.out.d.hi; have := HW.out.d.hj; omega
          have HJ := hid (HS.out Y pre wr V HW.out.jj hFr)
          obtain ⟨fn, tmps, assign, body, hyy, hR⟩ := HY.out Y pre (x, true, true) V (Nat.le_refl _) (Nat.le_trans HW.out.sz hFr.size) HJ.out hlenp
          unfold encSd at hyy
          dsimp only at hyy
          have HR := hid hR
          rw [hV, hyy]
          clear hR hV hFr hBa hBb hga hgb hlenp
          clear da db n1 n2 n3 n4 e0 e1 ef fa fb
          refine ⟨wideNo, HR.out.mono ?_⟩
          rintro e W3 (⟨rfl, hJ3, hk3⟩ | ⟨rfl, hJx3, _⟩)
          · have HJ3 := hid hJ3
            have HK3 := hid hk3
            clear hJ3 hk3
            gi_wp2_with fail
            go_roundw
            case rel =>
              exact ⟨i + 1, j + 1, pre ++ [(x, true, true)], hid ⟨HA1.out.keepX HK3.out (.inl rfl) (.inr (.inr (.inl rfl))), HB1.out.keepX HK3.out (.inr (.inl rfl)) (.inr (.inr (.inr rfl))), HD.out, HJ3.out, by have := HW.out.sz; have := HVs.out; have := HK3.out.size; omega⟩⟩
            case measure =>
              rw [lenAt_is (HA1.out.keepX HK3.out (.inl rfl) (.inr (.inr (.inl rfl)))), lenAt_is (HB1.out.keepX HK3.out (.inr (.inl rfl)) (.inr (.inr (.inr rfl)))), lenAt_is HW.out.a, lenAt_is HW.out.b]
              omega
          · have HJx := hid hJx3
            clear hJx3
            gi_wp2_with fail
            all_goals (
              refine bodyPost_ret (results_none rfl _ _ _) rfl ?_
              exact ⟨⟨_, rfl⟩, .inr ⟨_, HJx.out⟩⟩)
        · have HLt := hid hlt
          have l1 : decide (x < y) = false := decide_eq_false (by omega)
          have l2 : decide (y < x) = true := decide_eq_true hlt
          obtain ⟨W2, hW2⟩ : ∃ W2, wr.alloc (.cells #[.bool false, .bool false] 141) = W2 := ⟨_, rfl⟩
          have HW2 := hid hW2
          rw [hW2] at w1 fA
          have qa : ∀ u : FrW W2, u.u.cell? ⟨Ba, 0, none⟩ = some (.slice (some ⟨ga, i, none⟩) m c1) := fun u => (b1.fr' (fA.trans u.h) id).cell 0
          have qb : ∀ u : FrW W2, u.u.cell? ⟨Bb, 0, none⟩ = some (.slice (some ⟨gb, j, none⟩) k c2) := fun u => (b2.fr' (fA.trans u.h) id).cell 0
          have qe : ∀ u : FrW W2, u.u.cell? ⟨ga, i, none⟩ = some (.int .i64 x) := fun u => (fA.trans u.h).cell el id
          have qf : ∀ u : FrW W2, u.u.cell? ⟨gb, j, none⟩ = some (.int .i64 y) := fun u => (fA.trans u.h).cell em id
          have HFA := hid fA
          clear fA hW2 bW el em
          have HQA := hid qa
          have HQB := hid qb
          have HQE := hid qe
          have HQF := hid qf
          gi_wp2_with fail
          rw [HW2.out]
          clear d1 d2
          refine wpIn_region_fr0 W2 (Fr.refl _ _) (by kernel_rfl) (by kernel_rfl) ?_
          repeat (go_big_quiet_step (fail))
          refine wpQuiet_nil ?_
          rintro _ ⟨u0, rfl⟩
          clear qa qb qe qf
          have qa : ∀ u : FrW u0.u, u.u.cell? ⟨Ba, 0, none⟩ = some (.slice (some ⟨ga, i, none⟩) m c1) := fun u => HQA.out ⟨u.u, u0.h.trans u.h⟩
          have qb : ∀ u : FrW u0.u, u.u.cell? ⟨Bb, 0, none⟩ = some (.slice (some ⟨gb, j, none⟩) k c2) := fun u => HQB.out ⟨u.u, u0.h.trans u.h⟩
          have qe : ∀ u : FrW u0.u, u.u.cell? ⟨ga, i, none⟩ = some (.int .i64 x) := fun u => HQE.out ⟨u.u, u0.h.trans u.h⟩
          have qf : ∀ u : FrW u0.u, u.u.cell? ⟨gb, j, none⟩ = some (.int .i64 y) := fun u => HQF.out ⟨u.u, u0.h.trans u.h⟩
          gi_wp2_with fail
          refine wpIn_region_fr0 u0.u (Fr.refl _ _) (by kernel_rfl) (by kernel_rfl) ?_
          repeat (go_big_quiet_step (fail))
          refine wpQuiet_nil ?_
          rintro _ ⟨u9, rfl⟩
          obtain ⟨u1, hu1⟩ : ∃ u1 : FrW W2, u1.u = u9.u := ⟨⟨u9.u, u0.h.trans u9.h⟩, rfl⟩
          rw [← hu1]
          clear hu1
          clear qa qb qe qf
          have da := HQA.out u1
          have db := HQB.out u1
          have de := HQE.out u1
          have df := HQF.out u1
          have w1' := w1.fr' u1.h id
          obtain ⟨e0, e1, ef⟩ := w1'.two
          have hF1 := HFA.out.trans u1.h
          obtain ⟨_, fa⟩ := (b1.fr' hF1 id).one
          obtain ⟨_, fb⟩ := (b2.fr' hF1 id).one
          have n1 : ¬ Ba = wr.heap.size := by omega
          have n2 : ¬ wr.heap.size = Ba := by omega
          have n3 : ¬ Bb = wr.heap.size := by omega
          have n4 : ¬ wr.heap.size = Bb := by omega
          have hGw : NG ≤ wr.heap.size := by have := hh.2.2.2.2.1.1; omega
          have hNa := hh.2.2.2.2.1.1
          have hNb := hh.2.2.2.2.1.2
          repeat gi_step
          obtain ⟨V, hV⟩ : ∃ V, (u1.u.setCell ⟨wr.heap.size, 1, none⟩ (.bool true)).setCell ⟨Bb, 0, none⟩ (.slice (if c2 = 1 then some ⟨gb, j, none⟩ else some ⟨gb, j + 1, none⟩) (k - 1) (c2 - 1)) = V := ⟨_, rfl⟩
          have hFr : Fr (SdO Ba Bb) wr V := hV ▸ (((hF1.mono (S' := SdO Ba Bb) (fun _ _ h => h.elim)).setCell ⟨wr.heap.size, 1, none⟩ _ hGw (fun h => absurd h (Nat.lt_irrefl _))).setCell ⟨Bb, 0, none⟩ _ hNb (fun _ => .inr rfl))
          have hBa : Has V Ba [.slice (some ⟨ga, i, none⟩) m c1] 30 := hV ▸ (((b1.fr' hF1 id).other (p := ⟨wr.heap.size, 1, none⟩) (.bool true) (by show Ba ≠ wr.heap.size; omega)).other (p := ⟨Bb, 0, none⟩) (.slice (if c2 = 1 then some ⟨gb, j, none⟩ else some ⟨gb, j + 1, none⟩) (k - 1) (c2 - 1)) (by show Ba ≠ Bb; omega))
          have hBb : Has V Bb [.slice (if c2 = 1 then some ⟨gb, j, none⟩ else some ⟨gb, j + 1, none⟩) (k - 1) (c2 - 1)] 30 := hV ▸ (((b2.fr' hF1 id).other (p := ⟨wr.heap.size, 1, none⟩) (.bool true) (by show Bb ≠ wr.heap.size; omega)).set 0 (.slice (if c2 = 1 then some ⟨gb, j, none⟩ else some ⟨gb, j + 1, none⟩) (k - 1) (c2 - 1)))
          have hga : ∀ a v, a.block = ga → wr.cell? a = some v → V.cell? a = some v := fun a v e h => hFr.cell h (fun s => by rcases s with s | s; exact hh.2.1.1 (e ▸ s); exact hh.2.1.2.1 (e ▸ s))
          have hgb : ∀ a v, a.block = gb → wr.cell? a = some v → V.cell? a = some v := fun a v e h => hFr.cell h (fun s => by rcases s with s | s; exact hh.2.1.2.2.1 (e ▸ s); exact hh.2.1.2.2.2 (e ▸ s))
          have HA1 := hid (HW.out.a.stay (W' := V) (fun c T h => hV ▸ (((h.fr' hF1 id).other (p := ⟨wr.heap.size, 1, none⟩) (.bool true) (by show Ba ≠ wr.heap.size; omega)).other (p := ⟨Bb, 0, none⟩) (.slice (if c2 = 1 then some ⟨gb, j, none⟩ else some ⟨gb, j + 1, none⟩) (k - 1) (c2 - 1)) (by show Ba ≠ Bb; omega))) hga hFr.size)
          have HB1 := hid (HW.out.b.next (W' := V) hjL (by rw [HMK.out.2]; exact hBb) (by rw [HMK.out.2]; omega) (fun h => if_neg (by have := HMK.out.2; omega)) hgb (Nat.lt_of_lt_of_le HW.out.b.lt hFr.size))
          have HD := hid (HW.out.d.stepB hh.2.2.1 hh.2.2.2.1 HY2.out (fun z hz => by rw [HX.out] at hz; cases hz; exact HLt.out))
          have HVs := hid hFr.size
          have hlenp : pre.length < ka.length + kb.length := by have := HW.out.d.len; have := HW.out.d.hi; have := HW.out.d.hj; omega
          have HJ := hid (HS.out Y pre wr V HW.out.jj hFr)
          obtain ⟨fn, tmps, assign, body, hyy, hR⟩ := HY.out Y pre (y, false, true) V (Nat.le_refl _) (Nat.le_trans HW.out.sz hFr.size) HJ.out hlenp
          unfold encSd at hyy
          dsimp only at hyy
          have HR := hid hR
          rw [hV, hyy]
          clear hR hV hFr hBa hBb hga hgb hlenp
          clear da db n1 n2 n3 n4 e0 e1 ef fa fb
          refine ⟨wideNo, HR.out.mono ?_⟩
          rintro e W3 (⟨rfl, hJ3, hk3⟩ | ⟨rfl, hJx3, _⟩)
          · have HJ3 := hid hJ3
            have HK3 := hid hk3
            clear hJ3 hk3
            gi_wp2_with fail
            go_roundw
            case rel =>
              exact ⟨i, j + 1, pre ++ [(y, false, true)], hid ⟨HA1.out.keepX HK3.out (.inl rfl) (.inr (.inr (.inl rfl))), HB1.out.keepX HK3.out (.inr (.inl rfl)) (.inr (.inr (.inr rfl))), HD.out, HJ3.out, by have := HW.out.sz; have := HVs.out; have := HK3.out.size; omega⟩⟩
            case measure =>
              rw [lenAt_is (HA1.out.keepX HK3.out (.inl rfl) (.inr (.inr (.inl rfl)))), lenAt_is (HB1.out.keepX HK3.out (.inr (.inl rfl)) (.inr (.inr (.inr rfl)))), lenAt_is HW.out.a, lenAt_is HW.out.b]
              omega
          · have HJx := hid hJx3
            clear hJx3
            gi_wp2_with fail
            all_goals (
              refine bodyPost_ret (results_none rfl _ _ _) rfl ?_
              exact ⟨⟨_, rfl⟩, .inr ⟨_, HJx.out⟩⟩)
end Go.Proofs.YtechphliifginaaGreatDoor
