/- In one: P1, P2, P3, P4, P5, P6, P7. -/
import Derived.Test.YtechphliifginaaGreatDoorGD
import Derived.Test.YtechphliifginaaGreatDoorGC
import Derived.Deep.RegionWith
/- bits.Range; gaps Count, Take. -/
set_option linter.unusedVariables false
set_option linter.unusedSimpArgs false
namespace Go.Proofs.YtechphliifginaaGreatDoor
open Go.RowKit

theorem cntOn_mono (on : Nat → Bool) (a : Nat) : ∀ d, cntOn on a ≤ cntOn on (a + d)
  | 0 => Nat.le_refl _
  | d + 1 => Nat.le_trans (cntOn_mono on a d) (by show _ ≤ cntOn on (a + d) + _; omega)

set_option maxHeartbeats 400000 in
theorem bitsRange_any {b c n : Nat} {on : Nat → Bool} {w : World} (h : BitsR w b c n on) (lo hi : Int) (h0 : 0 ≤ lo) (h1 : lo ≤ hi) (h2 : hi ≤ n) :
    Calls Tryz.prog 166 #[.pointer (some ⟨b, 0, none⟩), .int .i64 lo, .int .i64 hi] w fun e w' => e = .returned (.tuple #[.int .i64 ((cntOn on hi.toNat - cntOn on lo.toNat : Nat)), .int .i64 0]) ∧ w = w' := by
  obtain ⟨ws, ex, r1, r2, r3⟩ := h.row
  obtain ⟨c0, c1, f0⟩ := r1.two
  have HA := hid (bitsAhead_any h hi (by omega) h2)
  have HB := hid (bitsAhead_any h lo h0 (by omega))
  have hm := cntOn_mono on lo.toNat (hi.toNat - lo.toNat)
  rw [show lo.toNat + (hi.toNat - lo.toNat) = hi.toNat by omega] at hm
  have hn := h.n2
  have hc := cntOn_le on hi.toNat
  clear h r1 r2 r3
  generalize cntOn on hi.toNat = x at *
  generalize cntOn on lo.toNat = y at *
  have q1 : IntKind.i64.wrap ((x : Int) - y) = ((x - y : Nat) : Int) := by rw [show (x : Int) - y = ((x - y : Nat) : Int) by omega]; exact IntWalk.i64_in _ (by omega)
  have HC := hid hc
  have HN := hid hn
  clear hc hn
  go_enter Tryz.func166, Tryz.ntmps166
  go_wp2_with (first | (go_at_call 179; first | (with_reducible refine HA.out.mono ?_; rintro e w1 ⟨rfl, rfl⟩) | (with_reducible refine HB.out.mono ?_; rintro e w1 ⟨rfl, rfl⟩)))
  go_ret2
  exact ⟨rfl, rfl⟩

theorem gapsCount_any {f : SF} {σ : List (Option Int)} {w : World} (h : SlotsR w f σ) (lo hi : Int) (h0 : 0 ≤ lo) (h1 : lo ≤ hi) (h2 : hi ≤ σ.length) :
    Calls Tryz.prog 116 #[.pointer (some ⟨f.s, 0, none⟩), .int .i64 lo, .int .i64 hi] w fun e w' => e = .returned (.tuple #[.int .i64 ((cntOn (onOf σ) hi.toNat - cntOn (onOf σ) lo.toNat : Nat)), .int .i64 0]) ∧ w = w' := by
  have HR := hid (bitsRange_any h.bits lo hi h0 h1 h2)
  obtain ⟨ex, r1, r2⟩ := h.row
  obtain ⟨c0, c1, f0⟩ := r1.two
  clear h r1 r2
  generalize cntOn (onOf σ) hi.toNat - cntOn (onOf σ) lo.toNat = z at *
  go_enter Tryz.func116, Tryz.ntmps116
  go_wp2_with (first | (go_at_call 166; refine HR.out.mono ?_; rintro e w1 ⟨rfl, rfl⟩))
  go_ret2
  exact ⟨rfl, rfl⟩
end Go.Proofs.YtechphliifginaaGreatDoor

/- gaps.Take. -/
set_option linter.unusedVariables false
set_option linter.unusedSimpArgs false
namespace Go.Proofs.YtechphliifginaaGreatDoor
open Go.RowKit

set_option maxHeartbeats 400000 in
theorem gapsTake_ok {f : SF} {σ : List (Option Int)} {w : World} (h : SlotsR w f σ) (i : Int) (x : Int) (h0 : 0 ≤ i) (h1 : i < σ.length) (hx : σ.getD i.toNat none = some x) :
    Calls Tryz.prog 74 #[.pointer (some ⟨f.s, 0, none⟩), .int .i64 i] w fun e w' => e = .returned (.tuple #[.int .i64 x, .int .i64 0]) ∧ SlotsR w' f (σ.set i.toNat none) ∧ Fr f.chg w w' := by
  have hfr : Fr Nil1 w (w.alloc (.cells #[.int .i64 i] 3)) := (Fr.refl _ _).alloc _
  have HR := hid (h.new hfr)
  have HG := hid (show Has (w.alloc (.cells #[.int .i64 i] 3)) w.heap.size [.int .i64 i] 3 from Has.new w _ _)
  obtain ⟨ex, r1, r2⟩ := HR.out.row
  obtain ⟨c0, c1, f0⟩ := r1.two
  have hcell := r2.cell i.toNat
  rw [slots_get _ _ _ (by omega), hx] at hcell
  replace hcell : (w.alloc (.cells #[.int .i64 i] 3)).cell? ⟨f.d, i.toNat, none⟩ = some (.int .i64 x) := hcell
  have hfz := r2.frozen
  obtain ⟨n1, n2, n3, n4, n5, n6⟩ := HR.out.ne
  have HF := hid (show onOf σ i.toNat = true by unfold onOf; rw [hx]; rfl)
  have hd : decide (0 ≤ i) = true := decide_eq_true h0
  have HE := hid (⟨ex, r1, r2⟩ : ∃ ex : List Value, Has (w.alloc (.cells #[.int .i64 i] 3)) f.s [.slice (some ⟨f.d, 0, none⟩) σ.length (σ.length + ex.length), .pointer (some ⟨f.b, 0, none⟩)] 128 ∧ Has (w.alloc (.cells #[.int .i64 i] 3)) f.d (σ.map cellI ++ ex) 3)
  have HFr := hid hfr
  have hc0 : ((w.alloc (.cells #[.int .i64 i] 3)).setCell ⟨f.d, i.toNat, none⟩ (.int .i64 0)).cell? ⟨f.s, 1, none⟩ = some (.pointer (some ⟨f.b, 0, none⟩)) := ((r1.other _ n1).cell 1)
  have HB := hid (HR.out.bits.fr ((Fr.refl (fun k => k = f.d) _).setCell ⟨f.d, i.toNat, none⟩ (.int .i64 0) HR.out.gd (fun _ => rfl)) (fun e => n4 e.symm) (fun e => n5 e.symm))
  clear h hx hfr r1 r2
  go_enter Tryz.func74, Tryz.ntmps74
  go_wp2_with (first | (go_at_call 134; refine (gapsLook1_in HR.out _ _ HG.out h0 h1).mono ?_; rintro e w1 ⟨rfl, rfl⟩) | (go_at_call 101; refine (bitsHas_any HR.out.bits i).mono ?_; rintro e w1 ⟨rfl, rfl⟩; rw [HF.out, hd]) | (go_at_call 135; refine (bitsSet_ok HB.out i false h0 h1).mono ?_; rintro e w2 ⟨rfl, hb2, hf2⟩))
  go_ret2
  obtain ⟨ex, r1, r2⟩ := HE.out
  have hs := (r2.set i.toNat (.int .i64 0))
  have e1 := slots_set σ ex i.toNat none (by omega)
  rw [show cellI none = Value.int .i64 0 from rfl] at e1
  rw [e1] at hs
  have hfd : Fr (fun k => k = f.d) (w.alloc (.cells #[.int .i64 i] 3)) ((w.alloc (.cells #[.int .i64 i] 3)).setCell ⟨f.d, i.toNat, none⟩ (.int .i64 0)) := (Fr.refl (fun k => k = f.d) _).setCell ⟨f.d, i.toNat, none⟩ (.int .i64 0) HR.out.gd (fun _ => rfl)
  refine ⟨rfl, ⟨?_, HR.out.gs, HR.out.gd, ex, ?_, ?_⟩, ?_⟩
  · rw [List.length_set, onOf_set _ _ _ (by omega)]
    exact hb2
  · rw [List.length_set]
    exact (r1.other _ n1).fr' hf2 n3
  · exact hs.fr' hf2 n5
  · exact ((HFr.out.mono (fun _ _ h => h.elim)).trans' hfd (fun j _ _ h => .inl h)).trans' hf2 (fun j _ _ h => .inr h)
end Go.Proofs.YtechphliifginaaGreatDoor

/- gaps.Move. -/
set_option linter.unusedVariables false
set_option linter.unusedSimpArgs false
namespace Go.Proofs.YtechphliifginaaGreatDoor
open Go.RowKit

set_option maxHeartbeats 400000 in
theorem gapsLook2_in {f : SF} {σ : List (Option Int)} {w : World} (h : SlotsR w f σ) (g : Nat) (i k : Int) (hg : Has w g [.int .i64 i, .int .i64 k] 3) (h0 : 0 ≤ i) (h1 : i < σ.length) (h2 : 0 ≤ k) (h3 : k < σ.length) :
    Calls Tryz.prog 134 #[.pointer (some ⟨f.s, 0, none⟩), .slice (some ⟨g, 0, none⟩) 2 2] w fun e w' => e = .returned (.int .i64 0) ∧ w = w' := by
  obtain ⟨ex, r1, r2⟩ := h.row
  obtain ⟨c0, c1, f0⟩ := r1.two
  obtain ⟨g0, g1, gf⟩ := hg.two
  clear h r1 r2 hg
  go_enter Tryz.func134, Tryz.ntmps134
  go_wp2_with fail
  go_loop [6, 11] (fun x k => ∃ j : Nat, j ≤ 2 ∧ k = .int .i64 j) (fun _ k => 2 - (intOf k).toNat)
  case atStart => exact ⟨0, by omega, rfl⟩
  case round =>
    obtain ⟨j, hj, rfl⟩ := hrel
    rcases (by omega : j = 0 ∨ j = 1 ∨ j = 2) with rfl | rfl | rfl
    · go_wp2_with fail
      go_round
      case rel => exact ⟨1, by omega, rfl⟩
      case measure => simp [intOf]
    · go_wp2_with fail
      go_round
      case rel => exact ⟨2, by omega, rfl⟩
      case measure => simp [intOf]
    · go_wp2_with fail
      go_ret
      exact ⟨rfl, rfl⟩

/-- An element moved. -/
def mvS (σ : List (Option Int)) (i k : Nat) : List (Option Int) := (σ.set i none).set k (σ.getD i none)
set_option maxHeartbeats 1000000 in
theorem gapsMove_ok {f : SF} {σ : List (Option Int)} {w : World} (h : SlotsR w f σ) (i k x : Int) (h0 : 0 ≤ i) (h1 : i < σ.length) (h2 : 0 ≤ k) (h3 : k < σ.length) (hx : σ.getD i.toNat none = some x) (hk : onOf σ k.toNat = false) :
    Calls Tryz.prog 181 #[.pointer (some ⟨f.s, 0, none⟩), .int .i64 i, .int .i64 k] w fun e w' => e = .returned (.int .i64 0) ∧ SlotsR w' f (mvS σ i.toNat k.toNat) ∧ Fr f.chg w w' := by
  have hfr : Fr Nil1 w (w.alloc (.cells #[.int .i64 i, .int .i64 k] 3)) := (Fr.refl _ _).alloc _
  have HR := hid (h.new hfr)
  have HG := hid (show Has (w.alloc (.cells #[.int .i64 i, .int .i64 k] 3)) w.heap.size [.int .i64 i, .int .i64 k] 3 from Has.new w _ _)
  have HF := hid (show onOf σ i.toNat = true by unfold onOf; rw [hx]; rfl)
  have HK := hid hk
  have hne : i.toNat ≠ k.toNat := fun e => by rw [e] at HF; rw [HF.out] at hk; cases hk
  have hd : decide (0 ≤ i) = true := decide_eq_true h0
  have hd2 : decide (0 ≤ k) = true := decide_eq_true h2
  have HT := hid (gapsTake_ok HR.out i x h0 h1 hx)
  have hfree : onOf (σ.set i.toNat none) k.toNat = false := by
    rw [onOf_set _ _ _ (by omega)]
    unfold upd
    split
    · rfl
    · exact hk
  have HP := hid (fun w' (hs : SlotsR w' f (σ.set i.toNat none)) => gapsPut_ok hs k x h2 (by rw [List.length_set]; exact h3) hfree)
  have HM := hid (show (σ.set i.toNat none).set k.toNat (some x) = mvS σ i.toNat k.toNat by unfold mvS; rw [hx])
  have HFr := hid hfr
  obtain ⟨ex, r1, r2⟩ := HR.out.row
  obtain ⟨c0, c1, f0⟩ := r1.two
  clear h hx hk hfr hfree r1 r2
  go_enter Tryz.func181, Tryz.ntmps181
  go_wp2_with (first | (go_at_call 134; refine (gapsLook2_in HR.out _ _ _ HG.out h0 h1 h2 h3).mono ?_; rintro e w1 ⟨rfl, rfl⟩) | (go_at_call 101; first | (with_reducible refine (bitsHas_any HR.out.bits i).mono ?_; rintro e w1 ⟨rfl, rfl⟩; rw [HF.out, hd]) | (with_reducible refine (bitsHas_any HR.out.bits k).mono ?_; rintro e w1 ⟨rfl, rfl⟩; rw [HK.out, Bool.and_false])) | (go_at_call 74; refine HT.out.mono ?_; rintro e w1 ⟨rfl, hs1, hf1⟩; have HS1 := hid hs1; have HF1 := hid hf1; clear hs1 hf1) | (go_at_call 80; refine (HP.out _ HS1.out).mono ?_; rintro e w2 ⟨rfl, hs2, hf2⟩; have HS2 := hid hs2; have HF2 := hid hf2; clear hs2 hf2))
  go_ret
  exact ⟨rfl, HM.out ▸ HS2.out, ((HFr.out.mono (fun _ _ h => h.elim)).trans HF1.out).trans HF2.out⟩
end Go.Proofs.YtechphliifginaaGreatDoor

/- slices.Clone at []int. -/
set_option linter.unusedVariables false
set_option linter.unusedSimpArgs false
namespace Go.Proofs.YtechphliifginaaGreatDoor
open Go.RowKit

set_option maxRecDepth 100000 in
set_option maxHeartbeats 1000000 in
theorem slicesClone_int (xs : List Int) (ad : Addr) (c : Nat) (w : World) (hx : Rd w (.slice (some ad) xs.length c) (ints' xs)) (hn : xs.length ≤ 1000000000) (hG : NG ≤ w.heap.size) :
    Calls Tryz.prog 87 #[.slice (some ad) xs.length c] w fun e w' => ∃ v, e = .returned v ∧ RowI w' w.heap.size v xs ∧ v.ownBlock ≠ none ∧ Fr Nil1 w w' := by
  obtain ⟨i0, hi, hz0, hz1, hz2⟩ := info_parts info_int
  have HX := hid hx
  have HN := hid hn
  have HG := hid hG
  have hown0 : (w.alloc (.cells #[] 3)).ownsRow w.heap.size 3 1 (.slice (some ⟨w.heap.size, 0, none⟩) 0 0) 0 [] := World.ownsRow_made (base := w.heap.size) (e := 3) (size := 1) w #[] 0 (Nat.le_refl _) (by unfold maxLen; omega) rfl
  have HO := hid hown0
  clear hn hG
  have hcells : ∀ j u, (ints' xs)[j]? = some u → (w.alloc (.cells #[] 3)).cell? (ad.add j) = some u := by
    intro j u hj
    obtain ⟨A', c', e', _, h'⟩ := hx
    injection e' with e1 e2 e3
    have hpos : 0 < (ints' xs).length := by
      rcases Nat.eq_zero_or_pos (ints' xs).length with h | h
      · rw [List.eq_nil_of_length_eq_zero h] at hj; cases hj
      · exact h
    obtain ⟨ad', rfl, hc⟩ := h' hpos
    cases e1
    exact ((Fr.refl Nil1 w).alloc _).cell (hc j u hj) (fun h => h)
  have HC := hid hcells
  have he : ∀ W : World, (binOp .eql 30 (.slice (some ad) xs.length c) (.slice none 0 0)).run Tryz.prog W = .ok (.bool false) W := fun _ => rfl
  clear hx hown0 hcells
  go_enter Tryz.func87, Tryz.ntmps87
  go_wp2_with (at_builtin; refine wpList_append_own _ rfl _ _ 30 rfl w.heap.size 3 i0 (.int .i64 0) 1 8 Tryz.underlying30 hi hz0 hz1 hz2 rfl (by decide) _ 0 [] rfl HO.out ad xs.length c (ints' xs) rfl (by rw [ints'_length]; omega) HC.out (by intro u hu; obtain ⟨n, _, rfl⟩ := List.mem_map.1 hu; rfl) (by have := HN.out; unfold maxLen; omega) (by have := HN.out; omega) (by simp) ?_; intro v' w1 hown' hgrow hnil; have HO1 := hid hown'; have HG1 := hid hgrow; have HNl := hid hnil; clear hown' hgrow hnil)
  go_ret
  refine ⟨_, rfl, ?_, fun h => ?_, ((Fr.refl _ _).alloc _).grown HG1.out (fun k e => by cases e; exact HG.out) (fun k e h => by cases e; exact absurd h (Nat.lt_irrefl _))⟩
  · have := HO1.out
    rw [Nat.zero_add, List.nil_append] at this
    exact this
  · rcases HO1.out.2 with ⟨h1, h2⟩ | ⟨g, cap, cur, h1, _⟩
    · have := HNl.out.1 h1
      cases this.1
    · rw [h1] at h; cases h
end Go.Proofs.YtechphliifginaaGreatDoor

/- slices.Clone at []uint64. -/
set_option linter.unusedVariables false
set_option linter.unusedSimpArgs false
namespace Go.Proofs.YtechphliifginaaGreatDoor
open Go.RowKit

set_option maxRecDepth 100000 in
set_option maxHeartbeats 1000000 in
theorem slicesClone_u64 (vs : List Value) (m : Nat) (hm : vs.length = m) (h1 : ∀ u ∈ vs, u.oneCell' = true) (ad : Addr) (c : Nat) (w : World) (hx : ∀ j u, vs[j]? = some u → w.cell? (ad.add j) = some u) (hn : m ≤ 1000000) (hG : NG ≤ w.heap.size) :
    Calls Tryz.prog 173 #[.slice (some ad) m c] w fun e w' => ∃ v, e = .returned v ∧ w'.ownsRow w.heap.size 167 1 v m vs ∧ v ≠ .slice none 0 0 ∧ Fr Nil1 w w' := by
  obtain ⟨i0, hi, hz0, hz1, hz2⟩ := info_parts info_u64
  have HN := hid hn
  have HG := hid hG
  have HM := hid hm
  have HO := hid (World.ownsRow_made (base := w.heap.size) (e := 167) (size := 1) w #[] 0 (Nat.le_refl _) (by unfold maxLen; omega) rfl)
  have HC := hid (fun j u hj => show (w.alloc (.cells #[] 167)).cell? (ad.add j) = some u from ((Fr.refl Nil1 w).alloc _).cell (hx j u hj) (fun h => h))
  have HV := hid h1
  have he : ∀ W : World, (binOp .eql 168 (.slice (some ad) m c) (.slice none 0 0)).run Tryz.prog W = .ok (.bool false) W := fun _ => rfl
  clear hx hm h1 hn hG
  go_enter Tryz.func173, Tryz.ntmps173
  go_wp2_with (at_builtin; refine wpList_append_own _ rfl _ _ 168 rfl w.heap.size 167 i0 (.int .u64 0) 1 8 Tryz.underlying168 hi hz0 hz1 hz2 rfl (by decide) _ 0 [] rfl HO.out ad m c vs rfl (by rw [HM.out]; omega) HC.out HV.out (by have := HN.out; unfold maxLen; omega) (by have := HN.out; omega) (by simp) ?_; intro v' w1 hown' hgrow hnil; have HO1 := hid hown'; have HG1 := hid hgrow; have HNl := hid hnil; clear hown' hgrow hnil)
  go_ret
  refine ⟨_, rfl, ?_, fun h => ?_, ((Fr.refl _ _).alloc _).grown HG1.out (fun k e => by cases e; exact HG.out) (fun k e h => by cases e; exact absurd h (Nat.lt_irrefl _))⟩
  · have := HO1.out
    rw [Nat.zero_add, List.nil_append] at this
    exact this
  · have := HNl.out.1 h
    cases this.1
end Go.Proofs.YtechphliifginaaGreatDoor

/- bits.Clone. -/
set_option linter.unusedVariables false
set_option linter.unusedSimpArgs false
namespace Go.Proofs.YtechphliifginaaGreatDoor
open Go.RowKit

theorem bits_close {b c n g cap : Nat} {on : Nat → Bool} {w w1 : World} {ws : List Nat} (h : BitsR w b c n on) (h3 : WOK ws n on) (hv : w1.ownsRow w.heap.size 167 1 (.slice (some ⟨g, 0, none⟩) ws.length cap) ws.length (words ws)) (hf : Fr Nil1 w w1) :
    BitsR (w1.alloc (.cells #[.int .i64 n, .slice (some ⟨g, 0, none⟩) ws.length cap] 170)) w1.heap.size g n on ∧ w.heap.size ≤ g := by
  rcases hv.2 with ⟨h1, _⟩ | ⟨g', cap', cur, h1, hg, hb, r1, r2, r3, r4⟩
  · cases h1
  · injection h1 with e1 e2 e3
    injection e1 with e1
    injection e1 with e1
    subst e1
    subst e3
    have hG := h.g.size
    have hs := hf.size
    have hwl : (words ws).length = ws.length := by simp [words]
    have hcur : cur.toList = words ws ++ cur.toList.drop ws.length := by
      have := List.take_append_drop ws.length cur.toList
      rw [Nat.mul_one] at r4
      rw [r4] at this
      exact this.symm
    have hcl : cap = ws.length + (cur.toList.drop ws.length).length := by rw [List.length_drop]; simp; omega
    refine ⟨⟨h.g.fr (hf.alloc _), by omega, by omega, h.n1, h.n2, ws, cur.toList.drop ws.length, ?_, ?_, h3⟩, hg⟩
    · rw [← hcl]
      exact Has.new w1 _ _
    · have : Has w1 g (words ws ++ cur.toList.drop ws.length) 167 := by
        unfold Has
        rw [← hcur, hb]
      exact this.alloc _

set_option maxRecDepth 100000 in
set_option maxHeartbeats 2000000 in
theorem bitsClone_any {b c n : Nat} {on : Nat → Bool} {w : World} (h : BitsR w b c n on) :
    Calls Tryz.prog 131 #[.pointer (some ⟨b, 0, none⟩)] w fun e w' => ∃ b' c', e = .returned (.pointer (some ⟨b', 0, none⟩)) ∧ BitsR w' b' c' n on ∧ Fr Nil1 w w' ∧ w.heap.size ≤ b' ∧ w.heap.size ≤ c' := by
  obtain ⟨ws, ex, r1, r2, r3⟩ := h.row
  have HH := hid h
  have H3 := hid r3
  have HR1 := hid r1
  have hlen := r3.len
  have hn2 := h.n2
  have hG := h.g.size
  have HCl := hid (slicesClone_u64 (words ws) ws.length (by simp [words]) (by intro u hu; obtain ⟨x, _, rfl⟩ := List.mem_map.1 hu; rfl) ⟨c, 0, none⟩ (ws.length + ex.length) w.drew (fun j u hj => by
    have hj' := (List.getElem?_eq_some_iff.1 hj).1
    have := r2.cell j
    rw [List.getElem?_append_left hj', hj] at this
    have e : (⟨c, 0, none⟩ : Addr).add j = ⟨c, j, none⟩ := by simp [Addr.add]; intro h; exact h.symm
    rw [e]
    exact this) (by omega) hG)
  have HCs := hid (HCl.out.mono (fun e w1 hh => show ∃ g cap, e = .returned (.slice (some ⟨g, 0, none⟩) ws.length cap) ∧ Hid (w1.ownsRow w.heap.size 167 1 (.slice (some ⟨g, 0, none⟩) ws.length cap) ws.length (words ws) ∧ Fr Nil1 w.drew w1) from by
    obtain ⟨v, he, hv, hne, hf⟩ := hh
    rcases hv.2 with ⟨h1, _⟩ | ⟨g, cap, cur, h1, r⟩
    · exact (hne h1).elim
    · subst h1
      exact ⟨g, cap, he, hid ⟨hv, hf⟩⟩))
  have d0 : w.drew.cell? ⟨b, 0, none⟩ = some (.int .i64 n) := r1.cell 0
  have d1 : w.drew.cell? ⟨b, 1, none⟩ = some (.slice (some ⟨c, 0, none⟩) ws.length (ws.length + ex.length)) := r1.cell 1
  clear h r1 r2 r3 hlen hn2 hG
  go_enter Tryz.func131, Tryz.ntmps131
  go_wp2_with fail
  go_region_with (go_at_call 173; refine HCs.out.mono ?_; rintro e w1 ⟨g, cap, rfl, HV⟩; have e0 : w1.cell? ⟨b, 0, none⟩ = some (.int .i64 n) := (show Has w1 b _ _ from (HR1.out.drew).fr' HV.out.2 id).cell 0)
  all_goals (
    go_wp2_with fail
    go_ret
    have hc := bits_close HH.out H3.out HV.out.1 (⟨HV.out.2.os, HV.out.2.tape, HV.out.2.output, HV.out.2.size, HV.out.2.block⟩ : Fr Nil1 w w1)
    exact ⟨_, g, rfl, hc.1, (⟨HV.out.2.os, HV.out.2.tape, HV.out.2.output, HV.out.2.size, HV.out.2.block⟩ : Fr Nil1 w w1).alloc _, HV.out.2.size, hc.2⟩)
end Go.Proofs.YtechphliifginaaGreatDoor

/- gaps.Clone. -/
set_option linter.unusedVariables false
set_option linter.unusedSimpArgs false
namespace Go.Proofs.YtechphliifginaaGreatDoor
open Go.RowKit

theorem cells_ints (σ : List (Option Int)) : σ.map cellI = ints' (σ.map fun o => o.getD 0) := by
  unfold ints'
  rw [List.map_map]
  apply List.map_congr_left
  intro o _
  exact cellI_form o

theorem own_new {w w' : World} {base : Nat} {e : TypeId} {size : Nat} {v : Value} {n : Nat} {xs : List Value} (h : w.ownsRow base e size v n xs) (hf : Fr Nil1 w w') : w'.ownsRow base e size v n xs := by
  refine h.kept (row := none) ⟨hf.os, hf.tape, hf.output, hf.size, fun k hk _ => hf.block k hk (fun s => s.elim)⟩ ?_
  cases v.ownBlock <;> simp
theorem slots_close {σ : List (Option Int)} {w1 : World} {g cap bB cB base : Nat} (hG : NG ≤ base) (hs : base ≤ w1.heap.size) (hv : w1.ownsRow base 3 1 (.slice (some ⟨g, 0, none⟩) σ.length cap) σ.length (σ.map cellI)) (hb : BitsR w1 bB cB σ.length (onOf σ)) :
    SlotsR (w1.alloc (.cells #[.slice (some ⟨g, 0, none⟩) σ.length cap, .pointer (some ⟨bB, 0, none⟩)] 128)) ⟨w1.heap.size, g, bB, cB⟩ σ ∧ base ≤ g := by
  rcases hv.2 with ⟨h1, _⟩ | ⟨g', cap', cur, h1, hg, hbl, r1, r2, r3, r4⟩
  · cases h1
  · injection h1 with e1 e2 e3
    injection e1 with e1
    injection e1 with e1
    subst e1
    subst e3
    have hcur : cur.toList = σ.map cellI ++ cur.toList.drop σ.length := by
      have := List.take_append_drop σ.length cur.toList
      rw [Nat.mul_one] at r4
      rw [r4] at this
      exact this.symm
    have hcl : cap = σ.length + (cur.toList.drop σ.length).length := by rw [List.length_drop]; simp; omega
    refine ⟨⟨hb.fr ((Fr.refl Nil1 w1).alloc _) id id, by show NG ≤ w1.heap.size; omega, by show NG ≤ g; omega, cur.toList.drop σ.length, ?_, ?_⟩, hg⟩
    · rw [← hcl]
      exact Has.new w1 _ _
    · have : Has w1 g (σ.map cellI ++ cur.toList.drop σ.length) 3 := by
        unfold Has
        rw [← hcur, hbl]
      exact this.alloc _

set_option maxRecDepth 100000 in
set_option maxHeartbeats 2000000 in
theorem gapsClone_any {f : SF} {σ : List (Option Int)} {w : World} (h : SlotsR w f σ) :
    Calls Tryz.prog 71 #[.pointer (some ⟨f.s, 0, none⟩)] w fun e w' => ∃ f' : SF, e = .returned (.pointer (some ⟨f'.s, 0, none⟩)) ∧ SlotsR w' f' σ ∧ Fr Nil1 w w' ∧ ∀ k, f'.mem k → w.heap.size ≤ k := by
  obtain ⟨ex, r1, r2⟩ := h.row
  have HH := hid h
  have HR1 := hid r1
  have hn2 := h.bits.n2
  have hG := h.g.size
  have hxl : (σ.map fun o => o.getD 0).length = σ.length := by simp
  have hrd : Rd w (.slice (some ⟨f.d, 0, none⟩) (σ.map fun o => o.getD 0).length (σ.length + ex.length)) (ints' (σ.map fun o => o.getD 0)) := by
    refine ⟨some ⟨f.d, 0, none⟩, σ.length + ex.length, by rw [ints'_length], by rw [ints'_length, hxl]; omega, fun _ => ⟨_, rfl, fun j u hj => ?_⟩⟩
    rw [← cells_ints] at hj
    have hj' := (List.getElem?_eq_some_iff.1 hj).1
    have := r2.cell j
    rw [List.getElem?_append_left hj', hj] at this
    have e : (⟨f.d, 0, none⟩ : Addr).add j = ⟨f.d, j, none⟩ := by simp [Addr.add]; intro h; exact h.symm
    rw [e]
    exact this
  have HCl := hid (fun w' (hf : Fr Nil1 w w') => (slicesClone_int _ _ _ w' (hrd.new hf) (by rw [hxl]; omega) (by have := hf.size; omega)).mono (fun e w1 hh => show ∃ g cap, e = .returned (.slice (some ⟨g, 0, none⟩) σ.length cap) ∧ Hid (w1.ownsRow w'.heap.size 3 1 (.slice (some ⟨g, 0, none⟩) σ.length cap) σ.length (σ.map cellI) ∧ Fr Nil1 w' w1) from by
    obtain ⟨v, he, hv, hne, hf1⟩ := hh
    have hv' : w1.ownsRow w'.heap.size 3 1 v σ.length (σ.map cellI) := by
      have := hv
      unfold RowI at this
      rw [hxl] at this
      rw [cells_ints]
      exact this
    rcases hv'.2 with ⟨h1, _⟩ | ⟨g, cap, cur, h1, r⟩
    · subst h1; exact (hne rfl).elim
    · subst h1
      exact ⟨g, cap, he, hid ⟨hv', hf1⟩⟩))
  rw [hxl] at HCl
  have HBl := hid (fun w' (hf : Fr Nil1 w w') => bitsClone_any (h.bits.fr hf id id))
  have d0 : ∀ w', Fr Nil1 w w' → w'.cell? ⟨f.s, 0, none⟩ = some (.slice (some ⟨f.d, 0, none⟩) σ.length (σ.length + ex.length)) := fun w' hf => (r1.fr' hf id).cell 0
  have d1 : ∀ w', Fr Nil1 w w' → w'.cell? ⟨f.s, 1, none⟩ = some (.pointer (some ⟨f.b, 0, none⟩)) := fun w' hf => (r1.fr' hf id).cell 1
  have HD0 := hid d0
  have HD1 := hid d1
  have F0 := hid (show Fr Nil1 w w.drew from (Fr.refl _ _).drew)
  have e0 := d0 _ F0.out
  have e1 := d1 _ F0.out
  clear h r1 r2 hn2 hG hxl hrd d0 d1
  go_enter Tryz.func71, Tryz.ntmps71
  go_wp2_with fail
  go_region_with (first
    | (go_at_call 87; first
      | (with_reducible refine (HCl.out _ F0.out).mono ?_; rintro e wA ⟨gA, capA, rfl, HVA⟩; have FA := hid (F0.out.trans HVA.out.2); have a0 := HD0.out _ FA.out; have a1 := HD1.out _ FA.out)
      | (with_reducible refine (HCl.out _ FB.out).mono ?_; rintro e wA ⟨gA, capA, rfl, HVA⟩; have FA := hid (FB.out.trans HVA.out.2); have a0 := HD0.out _ FA.out; have a1 := HD1.out _ FA.out))
    | (go_at_call 131; first
      | (with_reducible refine (HBl.out _ F0.out).mono ?_; rintro e wB ⟨bB, cB, rfl, hB, hfB, hb1, hb2⟩; have HB := hid hB; have FB := hid (F0.out.trans hfB); have HBd := hid (And.intro hb1 hb2); have FBs := hid hfB; clear hB hfB hb1 hb2; have b0 := HD0.out _ FB.out; have b1 := HD1.out _ FB.out)
      | (with_reducible refine (HBl.out _ FA.out).mono ?_; rintro e wB ⟨bB, cB, rfl, hB, hfB, hb1, hb2⟩; have HB := hid hB; have FB := hid (FA.out.trans hfB); have HBd := hid (And.intro hb1 hb2); have FBs := hid hfB; clear hB hfB hb1 hb2; have b0 := HD0.out _ FB.out; have b1 := HD1.out _ FB.out)))
  all_goals (
    go_wp2_with fail
    go_ret
    have hG := HH.out.g.size
    first
      | (have hv := own_new HVA.out.1 FBs.out
         have hc := slots_close (base := w.heap.size) hG FB.out.size hv HB.out
         refine ⟨_, rfl, hc.1, FB.out.alloc _, fun k hk => ?_⟩
         have q1 := FB.out.size
         have q2 := HBd.out
         have q3 := FA.out.size
         rcases hk with rfl | rfl | rfl | rfl
         · exact q1
         · exact hc.2
         · exact Nat.le_trans q3 q2.1
         · exact Nat.le_trans q3 q2.2)
      | (have hb := HB.out.fr HVA.out.2 id id
         have hv := own_mono HVA.out.1 FB.out.size
         have hc := slots_close (base := w.heap.size) hG FA.out.size hv hb
         refine ⟨_, rfl, hc.1, FA.out.alloc _, fun k hk => ?_⟩
         have q1 := FA.out.size
         have q2 := HBd.out
         rcases hk with rfl | rfl | rfl | rfl
         · exact q1
         · exact hc.2
         · exact q2.1
         · exact q2.2))
end Go.Proofs.YtechphliifginaaGreatDoor
