/- Going through the occupied slots. -/
import Derived.Test.YtonoaklajnfmiaaDoorB4
import Derived.Test.YtonoaklajnfmiaaDoorK1
set_option linter.unusedVariables false
set_option linter.unusedSimpArgs false
namespace Go.Proofs.YtonoaklajnfmiaaDoor
open Go.RowKit Go.Shelf
attribute [local go_sem] Oper.semAt_some

theorem SlotsR.keep {T : Nat → Prop} {A B : World} {f : SF} {σ : List (Option Int)} (h : SlotsR A f σ) (hk : KeepT T A B) (hT : ∀ k, f.mem k → T k) : SlotsR B f σ := by
  obtain ⟨ex, h1, h2⟩ := h.row
  obtain ⟨ws, ex', h3, h4, h5⟩ := h.bits.row
  have hg : GW B := ⟨Nat.le_trans h.g.size hk.size, fun j hj => (World.cell?_of_block (w := A) (a := ⟨0, j, none⟩) (hk.block 0 (.inl (by decide)) (Nat.lt_of_lt_of_le (by decide) h.g.size))).trans (h.g.tab j hj)⟩
  exact ⟨⟨hg, h.bits.gb, h.bits.gc, h.bits.n1, h.bits.n2, ws, ex', h3.keep hk (hT _ (by simp [SF.mem])), h4.keep hk (hT _ (by simp [SF.mem])), h5⟩, h.gs, h.gd, ex, h1.keep hk (hT _ (by simp [SF.mem])), h2.keep hk (hT _ (by simp [SF.mem]))⟩
theorem SlotsR.grownBy {A B : World} {f : SF} {σ : List (Option Int)} {row : Option Nat} {M : Nat} (h : SlotsR A f σ) (hg : A.grownBy B row) (hr : ∀ r, row = some r → M ≤ r ∧ ∃ o : Obj, A.heap[r]? = some o ∧ o.isCells = false) (hM : NG ≤ M) : SlotsR B f σ := by
  obtain ⟨ex, h1, h2⟩ := h.row
  obtain ⟨ws, ex', h3, h4, h5⟩ := h.bits.row
  have hr' := fun r e => (hr r e).2
  have hG : GW B := ⟨Nat.le_trans h.g.size hg.size, fun j hj => (World.cell?_of_block (w := A) (a := ⟨0, j, none⟩) (hg.block 0 (Nat.lt_of_lt_of_le (by decide) h.g.size) (fun e => by have h6 := (hr _ e.symm).1; have h7 : 0 < NG := (by decide); omega))).trans (h.g.tab j hj)⟩
  exact ⟨⟨hG, h.bits.gb, h.bits.gc, h.bits.n1, h.bits.n2, ws, ex', h3.grownBy hg hr', h4.grownBy hg hr', h5⟩, h.gs, h.gd, ex, h1.grownBy hg hr', h2.grownBy hg hr'⟩

def encIx (p : Nat × Int) : Array Value := #[.int .i64 (p.1 : Int), .int .i64 p.2]

set_option maxHeartbeats 400000 in
theorem gapsAll_any (f : Nat) (w : World) :
    Calls Tryd.prog 56 #[.pointer (some ⟨f, 0, none⟩)] w fun e w' => e = .returned (.func (.func 71) #[] #[.pointer (some ⟨w.heap.size, 0, none⟩)]) ∧ w.alloc (.cells #[.pointer (some ⟨f, 0, none⟩)] 26) = w' := by
  go_enter Tryd.func56, Tryd.ntmps56
  go_wp2
  go_ret
  exact ⟨rfl, rfl⟩

/-- The head of the loop: slot v is the next occupied one from i on. -/
def AllRel (f : SF) (Bn : Nat) (σ : List (Option Int)) (J : List (Nat × Int) → World → Prop) (v : Value) (wr : World) : Prop :=
  ∃ i : Nat, i ≤ σ.length ∧ v = .int .i64 (nxt (onOf σ) σ.length i) ∧ J (occTo σ i) wr ∧ SlotsR wr f σ ∧ Has wr Bn [.pointer (some ⟨f.s, 0, none⟩)] 26

set_option maxRecDepth 100000 in
set_option maxHeartbeats 1000000 in
theorem gapsAll1_in (n : Nat) (l Bn : Nat) (f : SF) (σ : List (Option Int)) (J Jx : List (Nat × Int) → World → Prop)
    (hY : ∀ pre x W, J pre W → pre.length < (occ σ).length → YieldAt Fence.wide (n - 1) Tryd.prog l (encIx x) W fun e W' =>
      (e = .returned (.bool true) ∧ J (pre ++ [x]) W' ∧ KeepT (fun k => k = Bn ∨ f.mem k) W W') ∨ (e = .returned (.bool false) ∧ Jx (pre ++ [x]) W'))
    (W : World) (hBn : Has W Bn [.pointer (some ⟨f.s, 0, none⟩)] 26) (hS : SlotsR W f σ) (h0 : J [] W) :
    CallsIn Fence.wide n Tryd.prog 71 #[.func (.yield l) #[] #[], .pointer (some ⟨Bn, 0, none⟩)] W fun e W' => (∃ v, e = .returned v) ∧
      ((∃ ys, ys = occ σ ∧ J ys W') ∨ (∃ pre, pre <+: occ σ ∧ Jx pre W')) := by
  refine callsIn_of_wp Tryd.func71 rfl trivial ?_ rfl
  simp only [Tryd.ntmps71, List.size_toArray, List.length_cons, List.length_nil, Nat.reduceAdd, Nat.reduceSub, Array.replicate_succ, Array.replicate_zero, List.push_toArray, List.append_toArray, List.nil_append, List.cons_append]
  obtain ⟨c0, f0⟩ := hBn.one
  have HS := hid hS
  have HY := hid hY
  have HB := hid hBn
  have H0 := hid h0
  clear hS hY hBn h0
  gi_wp2_with (first | ((first | refine ⟨trivial, wideNo, ?_⟩ | refine ⟨trivial, ?_⟩); gi_at_call 43; refine (callsIn_wide.2 (gapsNext_any HS.out 0 (by omega))).mono ?_; rintro e w1 ⟨rfl, rfl⟩))
  gi_loopw [3] (fun v wr => AllRel f Bn σ J v wr) (fun v _ => leftOf σ.length v)
  case atStart => exact ⟨0, by omega, rfl, H0.out, HS.out, HB.out⟩
  case round =>
    obtain ⟨i, hi, rfl, hJ, hSr, hBr⟩ := hrel
    have HN := hid (nxt_cases (onOf σ) σ.length i)
    have HJ := hid hJ
    have HSr := hid hSr
    have HBr := hid hBr
    have b0 := hBr.one
    obtain ⟨b0, bf⟩ := b0
    rcases nxt_cases (onOf σ) σ.length i with ⟨hn, hno⟩ | ⟨r, hn, h1, h2, h3, h4⟩
    · have Hno := hid hno
      rw [hn]
      clear hn hno hJ hSr hBr
      gi_wp2
      go_end0
      refine ⟨⟨_, rfl⟩, .inl ⟨occ σ, rfl, ?_⟩⟩
      have := HJ.out
      have e := occTo_none σ i (σ.length - i) (fun j h1 h2 => Hno.out j (by omega) (by omega))
      rw [show i + (σ.length - i) = σ.length by omega] at e
      show J (occTo σ σ.length) _
      rw [e]
      exact this
    · have hx : ∃ x, σ.getD r none = some x := by
        unfold onOf at h3
        cases e : σ.getD r none with
        | none => rw [e] at h3; cases h3
        | some x => exact ⟨x, rfl⟩
      obtain ⟨x, hx⟩ := hx
      have e1 : occTo σ r = occTo σ i := by
        have e := occTo_none σ i (r - i) (fun j a b => h4 j (by omega) (by omega))
        rwa [show i + (r - i) = r by omega] at e
      have e2 := occTo_some σ r x hx
      rw [e1] at e2
      have hlen : (occTo σ i).length < (occ σ).length := by
        have := (occTo_prefix σ (r + 1) (σ.length - (r + 1))).length_le
        rw [show r + 1 + (σ.length - (r + 1)) = σ.length by omega, e2, List.length_append] at this
        show _ < (occTo σ σ.length).length
        simp at this
        omega
      obtain ⟨fn, tmps, assign, body, hy, hR⟩ := HY.out _ (r, x) wr HJ.out hlen
      obtain ⟨ex, r1, r2⟩ := hSr.row
      obtain ⟨c0, c1, f0⟩ := r1.two
      have hcell := r2.cell r
      rw [slots_get _ _ _ h2, hx] at hcell
      replace hcell : wr.cell? ⟨f.d, r, none⟩ = some (.int .i64 x) := hcell
      unfold encIx at hy
      dsimp only at hy
      have HR := hid hR
      have E2 := hid e2
      have HX := hid hx
      have H3 := hid h3
      have hmx : σ.length ≤ 65536 := hSr.bits.n2
      rw [hn]
      have hr0 : 0 ≤ (r : Int) := by omega
      clear hn h4 hJ hSr hBr r1 r2 hR e1 e2 hx h3
      gi_wp2
      refine ⟨wideNo, HR.out.mono ?_⟩
      rintro e W3 (⟨rfl, hJ3, hk3⟩ | ⟨rfl, hJx3⟩)
      · have HS3 := hid (HSr.out.keep hk3 (fun k h => .inr h))
        have HB3 := hid (HBr.out.keep hk3 (.inl rfl))
        have b3 := HB3.out.one
        obtain ⟨b3, bf3⟩ := b3
        have HJ3 := hid hJ3
        clear hJ3 hk3
        gi_wp2_with (first | ((first | refine ⟨trivial, wideNo, ?_⟩ | refine ⟨trivial, ?_⟩); gi_at_call 43; refine (callsIn_wide.2 (gapsNext_any HS3.out _ (by omega))).mono ?_; rintro e w1 ⟨rfl, rfl⟩))
        go_roundw
        case rel =>
          refine ⟨r + 1, by omega, by go_num, ?_, HS3.out, HB3.out⟩
          have := HJ3.out
          rw [E2.out]
          exact this
        case measure =>
          apply leftOf_lt _ _ _ h2
          rcases nxt_cases (onOf σ) σ.length ((r : Int) + 1) with ⟨hn, _⟩ | ⟨q, hn, g1, _⟩
          · exact .inl hn
          · exact .inr ⟨q, hn, by omega⟩
      · have HJx := hid hJx3
        clear hJx3
        gi_wp2
        refine bodyPost_ret (results_none rfl _ _ _) rfl ?_
        refine ⟨⟨_, rfl⟩, .inr ⟨occTo σ i ++ [(r, x)], ?_, HJx.out⟩⟩
        rw [← E2.out]
        have := occTo_prefix σ (r + 1) (σ.length - (r + 1))
        rw [show r + 1 + (σ.length - (r + 1)) = σ.length by omega] at this
        exact this

theorem gapsAll_stops (n : Nat) (Bn : Nat) (f : SF) (σ : List (Option Int)) (w : World) (hBn : Has w Bn [.pointer (some ⟨f.s, 0, none⟩)] 26) (hS : SlotsR w f σ) :
    SeqStopsK Fence.wide n Tryd.prog 71 #[.pointer (some ⟨Bn, 0, none⟩)] encIx (KeepT (fun k => k = Bn ∨ f.mem k)) (fun ys => ys = occ σ) (fun pre => pre <+: occ σ) (occ σ).length w := fun l J Jx W hW _ _ hY h0 =>
  gapsAll1_in n l Bn f σ J Jx hY W (hBn.below hW hBn.lt) (hS.new (Fr.of_below hW)) h0

def idxs (l : List (Nat × Int)) : List Int := l.map fun p => (p.1 : Int)

set_option maxRecDepth 100000 in
set_option maxHeartbeats 2000000 in
theorem gapsPlaces_any {f : SF} {σ : List (Option Int)} {w : World} (h : SlotsR w f σ) :
    Calls Tryd.prog 32 #[.pointer (some ⟨f.s, 0, none⟩)] w fun e w' => ∃ v, e = .returned v ∧ RowI w' w.heap.size v (idxs (occ σ)) ∧ Fr Nil1 w w' := by
  refine (callsIn_wide (n := 3)).1 ?_
  obtain ⟨i0, hi, hz0, hz1, hz2⟩ := info_parts info_int
  have hlen : (occ σ).length ≤ 65536 := Nat.le_trans (occTo_length σ _) h.bits.n2
  have hG := h.g.size
  have hlt := h.lt
  have hge := h.ge
  refine callsIn_of_wp_marks Tryd.func32 rfl trivial ?_ rfl
  simp only [Tryd.ntmps32, List.size_toArray, List.length_cons, List.length_nil, Nat.reduceAdd, Nat.reduceSub, Array.replicate_succ, Array.replicate_zero, List.push_toArray, List.append_toArray, List.nil_append, List.cons_append]
  have HH := hid h
  clear h
  gi_wp2_with (first | ((first | refine ⟨trivial, wideNo, ?_⟩ | refine ⟨trivial, ?_⟩); gi_at_call 56; refine (callsIn_wide.2 (gapsAll_any f.s _)).mono ?_; rintro e w1 ⟨rfl, rfl⟩))
  have hfr0 : Fr Nil1 w ((w.alloc (.cells #[.slice none 0 0] 30)).alloc (.cells #[.pointer (some ⟨f.s, 0, none⟩)] 26)) := ((Fr.refl _ _).alloc _).alloc _
  have hO : Has ((w.alloc (.cells #[.slice none 0 0] 30)).alloc (.cells #[.pointer (some ⟨f.s, 0, none⟩)] 26)) w.heap.size [.slice none 0 0] 30 := (Has.new w [.slice none 0 0] 30).alloc _
  have hN : Has ((w.alloc (.cells #[.slice none 0 0] 30)).alloc (.cells #[.pointer (some ⟨f.s, 0, none⟩)] 26)) (w.heap.size + 1) [.pointer (some ⟨f.s, 0, none⟩)] 26 := by
    have := Has.new (w.alloc (.cells #[.slice none 0 0] 30)) [.pointer (some ⟨f.s, 0, none⟩)] 26
    rwa [World.size_alloc] at this
  obtain ⟨W0, hW0⟩ : ∃ W0, ((w.alloc (.cells #[.slice none 0 0] 30)).alloc (.cells #[.pointer (some ⟨f.s, 0, none⟩)] 26)) = W0 := ⟨_, rfl⟩
  have hsz : W0.heap.size = w.heap.size + 2 := by rw [← hW0]; simp
  rw [hW0] at hfr0 hO hN ⊢
  have hS0 : SlotsR W0 f σ := HH.out.new hfr0
  have hT : ∀ k, k < NG ∨ (k = w.heap.size + 1 ∨ f.mem k) → k < W0.heap.size ∧ k ≠ w.heap.size := by
    rintro k (hk | rfl | hk)
    · omega
    · omega
    · have := hlt k hk; omega
  refine wpIn_rangeFunc_ownG rfl (by omega) (gf := 71) (lb := #[.pointer (some ⟨w.heap.size + 1, 0, none⟩)]) rfl trivial (enters_of Tryd.func71 (by kernel_rfl) rfl)
    (gapsAll_stops _ (w.heap.size + 1) f σ W0 hN hS0) (fun h k => h.trans k) (fun W l o o' hl ho hc hw => KeepT.putObj W0 (fun k hk => (hT k hk).1) W l o o' hl ho hc hw) (Below.refl _ _) (fun _ => rfl)
    (fun pre W => (∃ v, Has W w.heap.size [v] 30 ∧ W.ownsRow W0.heap.size 3 1 v (idxs pre).length ((idxs pre).map (Value.int .i64))) ∧ Fr Nil1 w W ∧ W0.heap.size ≤ W.heap.size)
    (fun _ _ _ => False)
    (fun s A B row hs hg hrow => ⟨(by obtain ⟨⟨v, hv, hr⟩, _⟩ := hs; exact ⟨v, hv.grownBy hg (fun r e => (hrow r e).2), own_grown hr hg (fun r e => (hrow r e).2)⟩), hs.2.1.grownBy hg hrow (by omega) hG, Nat.le_trans hs.2.2 hg.size⟩)
    (fun _ _ _ _ _ hs _ _ => hs)
    ⟨⟨_, hO, World.ownsRow_nil _ _ _ _⟩, hfr0, Nat.le_refl _⟩
    (fun x => { tmps := #[.pointer (some ⟨f.s, 0, none⟩), undef, .slice none 0 0, .pointer (some ⟨w.heap.size, 0, none⟩), .int .i64 (x.1 : Int), .pointer (some ⟨f.s, 0, none⟩), .func (.func 71) #[] #[.pointer (some ⟨w.heap.size + 1, 0, none⟩)], .int .i64 (x.1 : Int), .int .i64 x.2, undef, undef, undef, undef, undef], defers := [] }) ?assign ?body ?done ?stop
  case assign =>
    intro l x W K hK
    unfold encIx
    gi_wp2
    exact hK
  case body =>
    rintro l pre x W ⟨⟨v, hv, hrow⟩, hB, hWs⟩ hlt
    obtain ⟨hc, hfz⟩ := hv.one
    have hpl : (idxs pre).length ≤ 65536 := by simp only [idxs, List.length_map]; omega
    have Hv := hid hv
    have Hrow := hid hrow
    have HB := hid hB
    gi_wp2_with (gi_at_builtin; refine wpListIn_append_own _ rfl _ _ 30 rfl W0.heap.size 3 i0 (.int .i64 0) 1 8 Tryd.underlying30 hi hz0 hz1 hz2 rfl (by decide) _ _ _ rfl (Hrow.out.alloc _) ⟨W.heap.size, 0, none⟩ 1 1 [.int .i64 (x.1 : Int)] rfl rfl (cell_one_new _ _ _) (by simp [Value.oneCell']) (by unfold maxLen; omega) (by omega) (by simp; omega) ?_; intro v' w1 hown' hgrow _; obtain ⟨g', cap', rfl⟩ := ownsRow_succ hown'; obtain ⟨hv1, hv2, hr2, hk2, hb2⟩ := Hv.out.appended (by decide) Hrow.out hWs hown' hgrow; obtain ⟨hc1, hf1⟩ := hv1.one; have hgrow' := hid hgrow; have hb2' := hid hb2; clear hgrow hb2)
    refine ⟨hk2.from _, KeepT.of_low (hk2.size) hb2'.out hT, ⟨_, hv2, ?_⟩, HB.out.appended hgrow'.out hG (fun j e => by have := own_block Hrow.out j e; omega) (Nat.le_refl _), Nat.le_trans hWs hk2.size⟩
    have e : idxs (pre ++ [x]) = idxs pre ++ [(x.1 : Int)] := by simp [idxs]
    rw [e, List.length_append, List.map_append]
    exact hr2
  case done =>
    rintro D ys W hD rfl ⟨⟨v, hv, hrow⟩, hB, hWs⟩ hK
    obtain ⟨hc, hfz⟩ := hv.one
    gi_wp2
    refine ⟨by simp, .inl ⟨_, _, rfl, run_takeDeferred hK, ?_⟩⟩
    exact ⟨_, results_tmp rfl _ _ _, v, rfl, own_mono (ownsRow_putObj hrow _ hK rfl) (by omega), hB.putObj D _ (by omega) hG⟩
  case stop =>
    rintro D c pre W _ _ h _
    exact h.elim
end Go.Proofs.YtonoaklajnfmiaaDoor
