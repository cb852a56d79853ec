/- Arrays with gaps: what lies in memory; New, Cap, look, Put, At, Next, Len. -/
import Derived.Test.YtonoaklajnfmiaaDoorB3
set_option linter.unusedVariables false
set_option linter.unusedSimpArgs false
namespace Go.Proofs.YtonoaklajnfmiaaDoor
open Go.RowKit

/-- The cell of a slot: what is free holds the zero value. -/
def cellI : Option Int → Value
  | some x => .int .i64 x
  | none => .int .i64 0
def onOf {α : Type} (σ : List (Option α)) (i : Nat) : Bool := (σ.getD i none).isSome
theorem onOf_set {α : Type} (σ : List (Option α)) (i : Nat) (x : Option α) (hi : i < σ.length) : onOf (σ.set i x) = upd (onOf σ) i x.isSome := by
  funext j
  unfold onOf upd
  rw [List.getD_eq_getElem?_getD, List.getElem?_set]
  by_cases h : i = j
  · subst h; simp [hi]
  · rw [if_neg h, if_neg (fun e => h e.symm)]
    show _ = (σ.getD j none).isSome
    rw [List.getD_eq_getElem?_getD]
theorem onOf_out {α : Type} (σ : List (Option α)) (i : Nat) (hi : σ.length ≤ i) : onOf σ i = false := by
  unfold onOf
  rw [List.getD_eq_getElem?_getD, List.getElem?_eq_none hi]
  rfl
theorem onOf_none {α : Type} (n : Nat) : onOf (List.replicate n (none : Option α)) = fun _ => false := by
  funext j
  unfold onOf
  rw [List.getD_eq_getElem?_getD, List.getElem?_replicate]
  split <;> rfl

/-- What a slot's element is told to be; whether it is occupied. -/
def atV (σ : List (Option Int)) (i : Int) : Int := if 0 ≤ i then (σ.getD i.toNat none).getD 0 else 0
def atB {α : Type} (σ : List (Option α)) (i : Int) : Bool := decide (0 ≤ i) && onOf σ i.toNat

/-- The blocks of an array with gaps: its struct, its slots, its bits' struct, their words. -/
structure SF where
  s : Nat
  d : Nat
  b : Nat
  c : Nat
def SF.mem (f : SF) (k : Nat) : Prop := k = f.s ∨ k = f.d ∨ k = f.b ∨ k = f.c
/-- What a change of a slot turns. -/
def SF.chg (f : SF) (k : Nat) : Prop := k = f.d ∨ k = f.c
theorem SF.chg_mem {f : SF} {k : Nat} (h : f.chg k) : f.mem k := by rcases h with h | h <;> simp [SF.mem, h]

structure SlotsR (w : World) (f : SF) (σ : List (Option Int)) : Prop where
  bits : BitsR w f.b f.c σ.length (onOf σ)
  gs : NG ≤ f.s
  gd : NG ≤ f.d
  row : ∃ ex : List Value, Has w f.s [.slice (some ⟨f.d, 0, none⟩) σ.length (σ.length + ex.length), .pointer (some ⟨f.b, 0, none⟩)] 85 ∧ Has w f.d (σ.map cellI ++ ex) 3

theorem SlotsR.g {w : World} {f : SF} {σ : List (Option Int)} (h : SlotsR w f σ) : GW w := h.bits.g
theorem SlotsR.fr {w w' : World} {f : SF} {σ : List (Option Int)} {S : Nat → Prop} (h : SlotsR w f σ) (hf : Fr S w w') (hS : ∀ k, f.mem k → ¬ S k) : SlotsR w' f σ := by
  obtain ⟨ex, h1, h2⟩ := h.row
  exact ⟨h.bits.fr hf (hS _ (by simp [SF.mem])) (hS _ (by simp [SF.mem])), h.gs, h.gd, ex, h1.fr' hf (hS _ (by simp [SF.mem])), h2.fr' hf (hS _ (by simp [SF.mem]))⟩
theorem SlotsR.new {w w' : World} {f : SF} {σ : List (Option Int)} (h : SlotsR w f σ) (hf : Fr Nil1 w w') : SlotsR w' f σ := h.fr hf (fun _ _ h => h)
theorem SlotsR.ne {w : World} {f : SF} {σ : List (Option Int)} (h : SlotsR w f σ) : f.s ≠ f.d ∧ f.s ≠ f.b ∧ f.s ≠ f.c ∧ f.d ≠ f.b ∧ f.d ≠ f.c ∧ f.b ≠ f.c := by
  obtain ⟨ex, h1, h2⟩ := h.row
  obtain ⟨ws, ex', h3, h4, _⟩ := h.bits.row
  exact ⟨h1.ne h2 (by decide), h1.ne h3 (by decide), h1.ne h4 (by decide), h2.ne h3 (by decide), h2.ne h4 (by decide), h3.ne h4 (by decide)⟩
theorem SlotsR.lt {w : World} {f : SF} {σ : List (Option Int)} (h : SlotsR w f σ) : ∀ k, f.mem k → k < w.heap.size := by
  obtain ⟨ex, h1, h2⟩ := h.row
  obtain ⟨ws, ex', h3, h4, _⟩ := h.bits.row
  rintro k (rfl | rfl | rfl | rfl)
  · exact h1.lt
  · exact h2.lt
  · exact h3.lt
  · exact h4.lt
theorem SlotsR.ge {w : World} {f : SF} {σ : List (Option Int)} (h : SlotsR w f σ) : ∀ k, f.mem k → NG ≤ k := by
  rintro k (rfl | rfl | rfl | rfl)
  · exact h.gs
  · exact h.gd
  · exact h.bits.gb
  · exact h.bits.gc
theorem slots_get (σ : List (Option Int)) (ex : List Value) (k : Nat) (hk : k < σ.length) : (σ.map cellI ++ ex)[k]? = some (cellI (σ.getD k none)) := by
  rw [List.getElem?_append_left (by simpa using hk)]
  simp [List.getD_eq_getElem?_getD, List.getElem?_eq_getElem hk]
theorem cellI_form (o : Option Int) : cellI o = .int .i64 (o.getD 0) := by cases o <;> rfl
theorem slots_set (σ : List (Option Int)) (ex : List Value) (k : Nat) (x : Option Int) (hk : k < σ.length) : (σ.map cellI ++ ex).set k (cellI x) = (σ.set k x).map cellI ++ ex := by
  rw [List.set_append_left _ _ (by simpa using hk), List.map_set]

theorem info_int : (Tryd.prog.info? 3).map (fun i => (i.zero, i.size, i.bytes)) = some (some (.int .i64 0), 1, 8) := by kernel_rfl

set_option maxHeartbeats 400000 in
theorem gapsNew_ok (n : Int) (w : World) (h0 : 1 ≤ n) (hn : n ≤ 65536) (hg : GW w) :
    Calls Tryd.prog 26 #[.int .i64 n] w fun e w' => ∃ f : SF, e = .returned (.tuple #[.pointer (some ⟨f.s, 0, none⟩), .int .i64 0]) ∧ SlotsR w' f (List.replicate n.toNat none) ∧ Fr Nil1 w w' ∧ ∀ k, f.mem k → w.heap.size ≤ k := by
  have hmk := mk_row (P := Tryd.prog) 30 3 (.int .i64 0) 8 Tryd.underlying30 info_int rfl (by decide) n (by omega) (by omega)
  have Hg := hid hg
  have hG := hg.size
  clear hg
  go_enter Tryd.func26, Tryd.ntmps26
  go_wp2_with (first | (go_at_call 50; refine (bitsNew_ok n _ h0 hn Hg.out).mono ?_; rintro e w1 ⟨b, c, rfl, hb, hf, hb1, hc1⟩))
  go_ret2
  have fr1 := (hf.alloc (.cells (madeCells #[.int .i64 0] n.toNat) 3)).alloc (.cells #[.slice (some ⟨w1.heap.size, 0, none⟩) n.toNat n.toNat, .pointer (some ⟨b, 0, none⟩)] 85)
  have hs := hf.size
  refine ⟨⟨w1.heap.size + 1, w1.heap.size, b, c⟩, rfl, ⟨?_, by show NG ≤ w1.heap.size + 1; omega, by show NG ≤ w1.heap.size; omega, [], ?_, ?_⟩, fr1, ?_⟩
  · rw [onOf_none, List.length_replicate]
    exact hb.fr (((Fr.refl Nil1 w1).alloc _).alloc _) id id
  · have := Has.new (w1.alloc (.cells (madeCells #[.int .i64 0] n.toNat) 3)) [.slice (some ⟨w1.heap.size, 0, none⟩) n.toNat n.toNat, .pointer (some ⟨b, 0, none⟩)] 85
    rw [World.size_alloc] at this
    simpa using this
  · have := Has.made w1 (.int .i64 0) n.toNat 3
    have e : (List.replicate n.toNat (none : Option Int)).map cellI ++ [] = List.replicate n.toNat (.int .i64 0) := by simp [cellI]
    rw [e]
    exact this.alloc _
  · rintro k (rfl | rfl | rfl | rfl)
    · show _ ≤ w1.heap.size + 1; omega
    · exact hs
    · exact hb1
    · exact hc1

set_option maxHeartbeats 400000 in
theorem gapsNew_bad (n : Int) (w : World) (hn : n < 1 ∨ 65536 < n) :
    Calls Tryd.prog 26 #[.int .i64 n] w fun e w' => e = .returned (.tuple #[.pointer none, .int .i64 10]) ∧ w = w' := by
  have H := hid hn
  clear hn
  go_enter Tryd.func26, Tryd.ntmps26
  go_wp2_with (first | (go_at_call 50; refine (bitsNew_bad n _ H.out).mono ?_; rintro e w1 ⟨rfl, rfl⟩))
  go_ret2
  exact ⟨rfl, rfl⟩

set_option maxHeartbeats 400000 in
theorem gapsCap_any {f : SF} {σ : List (Option Int)} {w : World} (h : SlotsR w f σ) :
    Calls Tryd.prog 28 #[.pointer (some ⟨f.s, 0, none⟩)] w fun e w' => e = .returned (.int .i64 (σ.length : Nat)) ∧ w = w' := by
  obtain ⟨ex, h1, h2⟩ := h.row
  obtain ⟨c0, c1, f0⟩ := h1.two
  clear h h1 h2
  go_enter Tryd.func28, Tryd.ntmps28
  go_wp2
  go_ret
  exact ⟨rfl, rfl⟩

theorem gapsCap_nil (w : World) :
    Calls Tryd.prog 28 #[.pointer none] w fun e w' => e = .returned (.int .i64 0) ∧ w = w' := by
  go_enter Tryd.func28, Tryd.ntmps28
  go_wp2
  go_ret
  exact ⟨rfl, rfl⟩

set_option maxHeartbeats 400000 in
theorem gapsLook1_in {f : SF} {σ : List (Option Int)} {w : World} (h : SlotsR w f σ) (g : Nat) (i : Int) (hg : Has w g [.int .i64 i] 3) (h0 : 0 ≤ i) (h1 : i < σ.length) :
    Calls Tryd.prog 51 #[.pointer (some ⟨f.s, 0, none⟩), .slice (some ⟨g, 0, none⟩) 1 1] w fun e w' => e = .returned (.int .i64 0) ∧ w = w' := by
  obtain ⟨ex, r1, r2⟩ := h.row
  obtain ⟨c0, c1, f0⟩ := r1.two
  obtain ⟨g0, gf⟩ := hg.one
  clear h r1 r2 hg
  go_enter Tryd.func51, Tryd.ntmps51
  go_wp2_with fail
  go_loop [6, 11] (fun x k => ∃ j : Nat, j ≤ 1 ∧ k = .int .i64 j) (fun _ k => 1 - (intOf k).toNat)
  case atStart => exact ⟨0, by omega, rfl⟩
  case round =>
    obtain ⟨j, hj, rfl⟩ := hrel
    rcases (by omega : j = 0 ∨ j = 1) with rfl | rfl
    · go_wp2_with fail
      go_round
      case rel => exact ⟨1, by omega, rfl⟩
      case measure => simp [intOf]
    · go_wp2_with fail
      go_ret
      exact ⟨rfl, rfl⟩

set_option maxHeartbeats 400000 in
theorem gapsLook1_out {f : SF} {σ : List (Option Int)} {w : World} (h : SlotsR w f σ) (g : Nat) (i : Int) (hg : Has w g [.int .i64 i] 3) (h0 : i < 0 ∨ σ.length ≤ i) :
    Calls Tryd.prog 51 #[.pointer (some ⟨f.s, 0, none⟩), .slice (some ⟨g, 0, none⟩) 1 1] w fun e w' => e = .returned (.int .i64 10) ∧ w = w' := by
  obtain ⟨ex, r1, r2⟩ := h.row
  obtain ⟨c0, c1, f0⟩ := r1.two
  obtain ⟨g0, gf⟩ := hg.one
  clear h r1 r2 hg
  rcases h0 with h0 | h0
  all_goals
    go_enter Tryd.func51, Tryd.ntmps51
    go_wp2_with fail
    go_loop [6, 11] (fun x k => k = .int .i64 0) (fun _ k => 1)
    case atStart => rfl
    case round =>
      obtain rfl := hrel
      go_wp2_with fail
      go_ret
      exact ⟨rfl, rfl⟩

set_option maxHeartbeats 400000 in
theorem gapsAt_any {f : SF} {σ : List (Option Int)} {w : World} (h : SlotsR w f σ) (i : Int) :
    Calls Tryd.prog 30 #[.pointer (some ⟨f.s, 0, none⟩), .int .i64 i] w fun e w' => e = .returned (.tuple #[.int .i64 (atV σ i), .bool (atB σ i)]) ∧ w = w' := by
  have H := hid h.bits
  obtain ⟨ex, r1, r2⟩ := h.row
  obtain ⟨c0, c1, f0⟩ := r1.two
  cases hon : atB σ i
  · have hv : atV σ i = 0 := by
      unfold atV
      unfold atB at hon
      split
      · rename_i hi
        rw [decide_eq_true hi, Bool.true_and] at hon
        unfold onOf at hon
        cases e : σ.getD i.toNat none with
        | none => rfl
        | some x => rw [e] at hon; cases hon
      · rfl
    have HV := hid hv
    have hcall := bitsHas_any h.bits i
    rw [show (decide (0 ≤ i) && onOf σ i.toNat) = false from hon] at hcall
    have HC := hid hcall
    clear hon hv hcall h r1 r2
    go_enter Tryd.func30, Tryd.ntmps30
    go_wp2_with (first | (go_at_call 52; refine HC.out.mono ?_; rintro e w1 ⟨rfl, rfl⟩))
    go_ret2
    rw [HV.out]
    exact ⟨rfl, rfl⟩
  · have hi : 0 ≤ i := by
      unfold atB at hon
      rw [Bool.and_eq_true] at hon
      exact of_decide_eq_true hon.1
    have hlt : i < σ.length := by
      rcases Int.lt_or_le i σ.length with g | g
      · exact g
      · unfold atB at hon
        rw [onOf_out _ _ (by omega)] at hon
        simp at hon
    have hcell := r2.cell i.toNat
    rw [slots_get _ _ _ (by omega), cellI_form] at hcell
    have hcall := bitsHas_any h.bits i
    rw [show (decide (0 ≤ i) && onOf σ i.toNat) = true from hon] at hcall
    have HC := hid hcall
    clear hon hcall h r1 r2
    unfold atV
    rw [if_pos hi]
    generalize (σ.getD i.toNat none).getD 0 = x at *
    go_enter Tryd.func30, Tryd.ntmps30
    go_wp2_with (first | (go_at_call 52; refine HC.out.mono ?_; rintro e w1 ⟨rfl, rfl⟩))
    go_ret2
    exact ⟨rfl, rfl⟩

set_option maxHeartbeats 400000 in
theorem gapsNext_any {f : SF} {σ : List (Option Int)} {w : World} (h : SlotsR w f σ) (i : Int) (h0 : 0 ≤ i) :
    Calls Tryd.prog 43 #[.pointer (some ⟨f.s, 0, none⟩), .int .i64 i] w fun e w' => e = .returned (.int .i64 (nxt (onOf σ) σ.length i)) ∧ w = w' := by
  have H := hid h.bits
  obtain ⟨ex, r1, r2⟩ := h.row
  obtain ⟨c0, c1, f0⟩ := r1.two
  clear h r1 r2
  go_enter Tryd.func43, Tryd.ntmps43
  go_wp2_with (first | (go_at_call 59; refine (bitsNext_any H.out i h0).mono ?_; rintro e w1 ⟨rfl, rfl⟩))
  go_ret
  exact ⟨rfl, rfl⟩

set_option maxHeartbeats 400000 in
theorem gapsLen_any {f : SF} {σ : List (Option Int)} {w : World} (h : SlotsR w f σ) :
    Calls Tryd.prog 46 #[.pointer (some ⟨f.s, 0, none⟩)] w fun e w' => e = .returned (.int .i64 (cntOn (onOf σ) σ.length : Nat)) ∧ w = w' := by
  have H := hid h.bits
  obtain ⟨ex, r1, r2⟩ := h.row
  obtain ⟨c0, c1, f0⟩ := r1.two
  clear h r1 r2
  go_enter Tryd.func46, Tryd.ntmps46
  go_wp2_with (first | (go_at_call 64; refine (bitsCount_any H.out).mono ?_; rintro e w1 ⟨rfl, rfl⟩))
  go_ret
  exact ⟨rfl, rfl⟩

set_option maxHeartbeats 400000 in
theorem gapsPut_ok {f : SF} {σ : List (Option Int)} {w : World} (h : SlotsR w f σ) (i x : Int) (h0 : 0 ≤ i) (h1 : i < σ.length) (hfree : onOf σ i.toNat = false) :
    Calls Tryd.prog 27 #[.pointer (some ⟨f.s, 0, none⟩), .int .i64 i, .int .i64 x] w fun e w' => e = .returned (.int .i64 0) ∧ SlotsR w' f (σ.set i.toNat (some x)) ∧ Fr f.chg w w' := by
  have hfr : Fr Nil1 w (w.alloc (.cells #[.int .i64 i] 3)) := (Fr.refl _ _).alloc _
  have HR := hid (h.new hfr)
  have HG := hid (show Has (w.alloc (.cells #[.int .i64 i] 3)) w.heap.size [.int .i64 i] 3 from Has.new w _ _)
  obtain ⟨ex, r1, r2⟩ := HR.out.row
  obtain ⟨c0, c1, f0⟩ := r1.two
  have hcell := r2.cell i.toNat
  rw [slots_get _ _ _ (by omega), cellI_form] at hcell
  have hfz := r2.frozen
  obtain ⟨n1, n2, n3, n4, n5, n6⟩ := HR.out.ne
  have HF := hid hfree
  have HE := hid (⟨ex, r1, r2⟩ : ∃ ex : List Value, Has (w.alloc (.cells #[.int .i64 i] 3)) f.s [.slice (some ⟨f.d, 0, none⟩) σ.length (σ.length + ex.length), .pointer (some ⟨f.b, 0, none⟩)] 85 ∧ Has (w.alloc (.cells #[.int .i64 i] 3)) f.d (σ.map cellI ++ ex) 3)
  have HFr := hid hfr
  have hc0 : ((w.alloc (.cells #[.int .i64 i] 3)).setCell ⟨f.d, i.toNat, none⟩ (.int .i64 x)).cell? ⟨f.s, 1, none⟩ = some (.pointer (some ⟨f.b, 0, none⟩)) := ((r1.other _ n1).cell 1)
  have HB := hid (HR.out.bits.fr ((Fr.refl (fun k => k = f.d) _).setCell ⟨f.d, i.toNat, none⟩ (.int .i64 x) HR.out.gd (fun _ => rfl)) (fun e => n4 e.symm) (fun e => n5 e.symm))
  clear h hfree hfr r1 r2
  go_enter Tryd.func27, Tryd.ntmps27
  go_wp2_with (first | (go_at_call 51; refine (gapsLook1_in HR.out _ _ HG.out h0 h1).mono ?_; rintro e w1 ⟨rfl, rfl⟩) | (go_at_call 52; refine (bitsHas_any HR.out.bits i).mono ?_; rintro e w1 ⟨rfl, rfl⟩; rw [HF.out, Bool.and_false]) | (go_at_call 53; refine (bitsSet_ok HB.out i true h0 h1).mono ?_; rintro e w2 ⟨rfl, hb2, hf2⟩))
  go_ret
  obtain ⟨ex, r1, r2⟩ := HE.out
  have hs := (r2.set i.toNat (.int .i64 x))
  have e1 := slots_set σ ex i.toNat (some x) (by omega)
  rw [show cellI (some x) = Value.int .i64 x from rfl] at e1
  rw [e1] at hs
  have hfd : Fr (fun k => k = f.d) (w.alloc (.cells #[.int .i64 i] 3)) ((w.alloc (.cells #[.int .i64 i] 3)).setCell ⟨f.d, i.toNat, none⟩ (.int .i64 x)) := (Fr.refl (fun k => k = f.d) _).setCell ⟨f.d, i.toNat, none⟩ (.int .i64 x) HR.out.gd (fun _ => rfl)
  refine ⟨rfl, ⟨?_, HR.out.gs, HR.out.gd, ex, ?_, ?_⟩, ?_⟩
  · rw [List.length_set, onOf_set _ _ _ (by omega)]
    exact hb2
  · rw [List.length_set]
    exact (r1.other _ n1).fr' hf2 n3
  · exact hs.fr' hf2 n5
  · exact ((HFr.out.mono (fun _ _ h => h.elim)).trans' hfd (fun j _ _ h => .inl h)).trans' hf2 (fun j _ _ h => .inr h)

set_option maxHeartbeats 400000 in
theorem gapsPut_there {f : SF} {σ : List (Option Int)} {w : World} (h : SlotsR w f σ) (i x : Int) (h0 : 0 ≤ i) (h1 : i < σ.length) (hfree : onOf σ i.toNat = true) :
    Calls Tryd.prog 27 #[.pointer (some ⟨f.s, 0, none⟩), .int .i64 i, .int .i64 x] w fun e w' => e = .returned (.int .i64 15) ∧ Fr Nil1 w w' := by
  have hfr : Fr Nil1 w (w.alloc (.cells #[.int .i64 i] 3)) := (Fr.refl _ _).alloc _
  have HR := hid (h.new hfr)
  have HG := hid (show Has (w.alloc (.cells #[.int .i64 i] 3)) w.heap.size [.int .i64 i] 3 from Has.new w _ _)
  obtain ⟨ex, r1, r2⟩ := HR.out.row
  obtain ⟨c0, c1, f0⟩ := r1.two
  have HF := hid hfree
  have HFr := hid hfr
  have hd : decide (0 ≤ i) = true := decide_eq_true h0
  clear h hfree hfr r1 r2
  go_enter Tryd.func27, Tryd.ntmps27
  go_wp2_with (first | (go_at_call 51; refine (gapsLook1_in HR.out _ _ HG.out h0 h1).mono ?_; rintro e w1 ⟨rfl, rfl⟩) | (go_at_call 52; refine (bitsHas_any HR.out.bits i).mono ?_; rintro e w1 ⟨rfl, rfl⟩; rw [HF.out, hd]))
  go_ret
  exact ⟨rfl, HFr.out⟩

set_option maxHeartbeats 400000 in
theorem gapsPut_out {f : SF} {σ : List (Option Int)} {w : World} (h : SlotsR w f σ) (i x : Int) (h0 : i < 0 ∨ σ.length ≤ i) :
    Calls Tryd.prog 27 #[.pointer (some ⟨f.s, 0, none⟩), .int .i64 i, .int .i64 x] w fun e w' => e = .returned (.int .i64 10) ∧ Fr Nil1 w w' := by
  have hfr : Fr Nil1 w (w.alloc (.cells #[.int .i64 i] 3)) := (Fr.refl _ _).alloc _
  have HR := hid (h.new hfr)
  have HG := hid (show Has (w.alloc (.cells #[.int .i64 i] 3)) w.heap.size [.int .i64 i] 3 from Has.new w _ _)
  have HFr := hid hfr
  have H0 := hid h0
  clear h hfr h0
  go_enter Tryd.func27, Tryd.ntmps27
  go_wp2_with (first | (go_at_call 51; refine (gapsLook1_out HR.out _ _ HG.out H0.out).mono ?_; rintro e w1 ⟨rfl, rfl⟩))
  go_ret
  exact ⟨rfl, HFr.out⟩
end Go.Proofs.YtonoaklajnfmiaaDoor
