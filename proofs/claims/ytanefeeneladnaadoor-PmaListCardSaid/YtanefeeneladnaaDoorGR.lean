/- In one: C1, X8, X9, XA, Y0. -/
import Derived.Test.YtanefeeneladnaaDoorProg
import Derived.Test.YtanefeeneladnaaDoorGC
import Derived.Test.YtanefeeneladnaaDoorGQ
import Derived.Test.YtanefeeneladnaaDoorGS
/- Whether two rows of numbers are one (a law's own function). -/
set_option linter.unusedVariables false
set_option linter.unusedSimpArgs false
namespace Go.Proofs.YtanefeeneladnaaDoor
open Go.RowKit

set_option maxHeartbeats 1000000 in
theorem ints_any (xs ys : List Int) (u v : Value) (w : World) (h1 : Rd w u (ints' xs)) (h2 : Rd w v (ints' ys)) :
    Calls Tryd.prog 19 #[u, v] w fun e w' => e = .returned (.bool (decide (xs = ys))) ∧ Fr Nil1 w w' := by
  obtain ⟨A, c, rfl, hb, hA⟩ := h1
  obtain ⟨B, d, rfl, hb', hB⟩ := h2
  rw [ints'_length] at hb hb' hA hB ⊢
  rw [ints'_length]
  have HA := hid hA
  have HB := hid hB
  clear hA hB
  by_cases hl : xs.length = ys.length
  · have HL := hid hl
    have hq : ((xs.length : Int) != (ys.length : Int)) = false := by rw [bne_eq_false_iff_eq]; omega
    have HH := hid (fun (n : Nat) (h : ∀ i, i < n → xs.getD i 0 = ys.getD i 0) (hn : n = xs.length) => show xs = ys by
      apply List.ext_getElem hl
      intro i a b
      have := h i (by omega)
      simpa [List.getD_eq_getElem?_getD, List.getElem?_eq_getElem a, List.getElem?_eq_getElem b] using this)
    clear hl
    go_enter Tryd.func19, Tryd.ntmps19
    go_wp2_with fail
    go_loopw [5] (fun i wr => ∃ (k m : Nat), k ≤ xs.length ∧ i = .int .i64 k ∧ wr = w.drewN m ∧ ∀ j, j < k → xs.getD j 0 = ys.getD j 0) (fun i _ => xs.length - (intOf i).toNat)
    case atStart => exact ⟨0, 0, by omega, rfl, rfl, fun j hj => by omega⟩
    case round =>
      obtain ⟨k, m, hk, rfl, rfl, heq⟩ := hrel
      have HE := hid heq
      clear heq
      by_cases hlt : k < xs.length
      · obtain ⟨ad, rfl, hc⟩ := HA.out (by omega)
        obtain ⟨ad', rfl, hc'⟩ := HB.out (by have := HL.out; omega)
        have c1 := hc k _ (ints'_get xs k hlt)
        have c2 := hc' k _ (ints'_get ys k (by have := HL.out; omega))
        have hlt2 : k < ys.length := by have := HL.out; omega
        clear hc hc'
        by_cases he : xs.getD k 0 = ys.getD k 0
        · have hb1 : (xs.getD k 0 != ys.getD k 0) = false := by rw [bne_eq_false_iff_eq]; exact he
          have HE2 := hid he
          clear he
          generalize xs.getD k 0 = x at c1 hb1
          generalize ys.getD k 0 = y at c2 hb1
          go_wp2_with fail
          go_quiet (fail)
          go_wp2_with fail
          refine ⟨⟨k + 1, m + nq, by omega, by go_num, rfl, fun j hj => ?_⟩, by simp [intOf]; omega⟩
          rcases Nat.lt_or_ge j k with g | g
          · exact HE.out j g
          · obtain rfl : j = k := by omega
            exact HE2.out
        · have hb1 : (xs.getD k 0 != ys.getD k 0) = true := by rw [bne_iff_ne]; exact he
          have HE2 := hid he
          have HF := hid (show decide (xs = ys) = false from decide_eq_false (fun e => HE2.out (by rw [e])))
          clear he
          generalize xs.getD k 0 = x at c1 hb1
          generalize ys.getD k 0 = y at c2 hb1
          go_wp2_with fail
          go_quiet (fail)
          go_wp2_with fail
          go_ret
          refine ⟨?_, ((Fr.refl _ w).drewN _).drewN _⟩
          rw [HF.out]
          rfl
      · have HF := hid (show decide (xs = ys) = true from decide_eq_true (HH.out k HE.out (by omega)))
        go_wp2_with fail
        go_ret
        refine ⟨?_, ((Fr.refl _ w).drewN _)⟩
        rw [HF.out]
        rfl
  · have hq : ((xs.length : Int) != (ys.length : Int)) = true := by rw [bne_iff_ne]; omega
    have HF := hid (show decide (xs = ys) = false from decide_eq_false (fun e => hl (by rw [e])))
    clear hl
    go_enter Tryd.func19, Tryd.ntmps19
    go_wp2_with fail
    go_ret
    refine ⟨?_, Fr.refl _ w⟩
    rw [HF.out]
    rfl
end Go.Proofs.YtanefeeneladnaaDoor

/- The law's place. -/
set_option linter.unusedVariables false
set_option linter.unusedSimpArgs false
namespace Go.Proofs.YtanefeeneladnaaDoor
open Go.RowKit

theorem tmod_fix (a m : Int) (hm : 0 < m) : (a.tmod m + m).tmod m = a % m ∧ -m < a.tmod m ∧ a.tmod m < m := by
  have h1 : -m < a.tmod m ∧ a.tmod m < m := by
    have := Int.tmod_lt_of_pos a hm
    refine ⟨?_, this⟩
    rcases Int.le_total 0 a with h | h
    · have := Int.tmod_nonneg m h
      omega
    · have h2 : a.tmod m = -((-a).tmod m) := by rw [Int.neg_tmod]; omega
      have := Int.tmod_lt_of_pos (-a) hm
      omega
  refine ⟨?_, h1⟩
  rw [Int.tmod_eq_emod_of_nonneg (by omega), Int.add_emod_right, Int.tmod_def, Int.sub_mul_emod_self_left]
/-- An act, as it lies. -/
structure AcT where
  goes : Bool
  raw : Bool
  at' : Int
  x : Int
def AcT.v (a : AcT) : Value := .agg #[.bool a.goes, .bool a.raw, .int .i64 a.at', .int .i64 a.x]
/-- Of which rank an act's item is (goes), or becomes (comes). -/
def AcT.k (a : AcT) (n : Nat) : Nat := if a.goes = true then (a.at' % n).toNat else (a.at' % (n + 1 : Nat)).toNat
def AcT.place (a : AcT) (ps : List Int) : Int :=
  if a.raw = true then a.at' else if a.goes = true then (if ps.length = 0 then 0 else ps.getD (a.k ps.length) 0) else if a.k ps.length = 0 then -1 else ps.getD (a.k ps.length - 1) 0

set_option maxRecDepth 100000 in
set_option maxHeartbeats 2000000 in
theorem place_any (a : AcT) (ps : List Int) (v : Value) (w : World) (hx : Rd w v (ints' ps)) (hl : ps.length ≤ 65536) (b1 : -9223372036854775808 ≤ a.at') (b2 : a.at' ≤ 9223372036854775807) :
    Calls Tryd.prog 10 #[a.v, v] w fun e w' => e = .returned (.int .i64 (a.place ps)) ∧ Fr Nil1 w w' := by
  obtain ⟨A, c, rfl, hb, hA⟩ := hx
  rw [ints'_length] at hA ⊢
  obtain ⟨goes, raw, z, x⟩ := a
  have HA := hid hA
  have F0 := hid (show Fr Nil1 w (w.alloc (.cells #[.bool goes, .bool raw, .int .i64 z, .int .i64 x] 30)) from (Fr.refl _ _).alloc _)
  have HP : Hid ((⟨goes, raw, z, x⟩ : AcT).place ps = if raw = true then z else if goes = true then (if ps.length = 0 then 0 else ps.getD (z % (ps.length : Nat)).toNat 0) else if (z % ((ps.length + 1 : Nat) : Int)).toNat = 0 then -1 else ps.getD ((z % ((ps.length + 1 : Nat) : Int)).toNat - 1) 0) := hid (by
    unfold AcT.place AcT.k
    cases goes <;> rfl)
  show Calls Tryd.prog 10 #[.agg #[.bool goes, .bool raw, .int .i64 z, .int .i64 x], .slice A ps.length c] w _
  clear hA
  obtain ⟨PL, hPL⟩ : ∃ PL, (⟨goes, raw, z, x⟩ : AcT).place ps = PL := ⟨_, rfl⟩
  rw [hPL] at HP ⊢
  clear hPL
  cases raw with
  | true =>
    have HQ := hid (HP.out.trans (if_pos rfl))
    go_enter Tryd.func10, Tryd.ntmps10
    go_wp2_with fail
    go_ret
    rw [HQ.out]
    exact ⟨rfl, F0.out⟩
  | false =>
    have HQ := hid (HP.out.trans (if_neg (by simp)))
    clear HP
    cases goes with
    | true =>
      have HQ2 := hid (HQ.out.trans (if_pos rfl))
      by_cases h0 : ps.length = 0
      · have HQ3 := hid (HQ2.out.trans (if_pos h0))
        have hI : (ps.length : Int) = 0 := by omega
        go_enter Tryd.func10, Tryd.ntmps10
        go_wp2_with fail
        go_ret
        rw [HQ3.out]
        exact ⟨rfl, F0.out⟩
      · have HQ3 := hid (HQ2.out.trans (if_neg h0))
        obtain ⟨t1, t2, t3⟩ := tmod_fix z ps.length (by omega)
        have m0 := Int.emod_nonneg z (show (ps.length : Int) ≠ 0 by omega)
        have m1 := Int.emod_lt_of_pos z (show 0 < (ps.length : Int) by omega)
        obtain ⟨ad, rfl, hc⟩ := HA.out (by omega)
        have hcell := hc (z % (ps.length : Nat)).toNat _ (ints'_get ps _ (by omega))
        have hcc := (F0.out.cell hcell (fun h => h))
        generalize ps.getD (z % (ps.length : Nat)).toNat 0 = P0 at *
        obtain ⟨k, hk⟩ : ∃ k : Nat, z % (ps.length : Int) = k := ⟨(z % (ps.length : Int)).toNat, by omega⟩
        rw [hk] at t1 m0 m1 hcell hcc
        rw [Int.toNat_natCast] at hcell hcc
        have hb0 : ((ps.length : Int) == 0) = false := beq_eq_false_iff_ne.2 (by omega)
        have v1 : IntKind.i64.wrap (z.tmod ps.length + ps.length) = z.tmod ps.length + ps.length := IntWalk.i64_in _ (by omega)
        have hlt : k < ps.length := by omega
        go_enter Tryd.func10, Tryd.ntmps10
        go_wp2_with fail
        go_ret
        rw [HQ3.out]
        exact ⟨rfl, F0.out⟩
    | false =>
      have e1 : ((ps.length + 1 : Nat) : Int) = (ps.length : Int) + 1 := by omega
      rw [e1] at HQ
      have HQ2 := hid (HQ.out.trans (if_neg (by simp)))
      obtain ⟨t1, t2, t3⟩ := tmod_fix z (ps.length + 1) (by omega)
      have m0 := Int.emod_nonneg z (show (ps.length : Int) + 1 ≠ 0 by omega)
      have m1 := Int.emod_lt_of_pos z (show 0 < (ps.length : Int) + 1 by omega)
      rw [show z.tmod ((ps.length : Int) + 1) + ((ps.length : Int) + 1) = z.tmod ((ps.length : Int) + 1) + ps.length + 1 by omega] at t1
      obtain ⟨k, hk⟩ : ∃ k : Nat, z % ((ps.length : Int) + 1) = k := ⟨(z % ((ps.length : Int) + 1)).toNat, by omega⟩
      rw [hk] at t1 m0 m1 HQ2
      rw [Int.toNat_natCast] at HQ2
      have v0 : IntKind.i64.wrap ((ps.length : Int) + 1) = (ps.length : Int) + 1 := IntWalk.i64_in _ (by omega)
      have v1 : IntKind.i64.wrap (z.tmod ((ps.length : Int) + 1) + ps.length) = z.tmod ((ps.length : Int) + 1) + ps.length := IntWalk.i64_in _ (by omega)
      have v2 : IntKind.i64.wrap (z.tmod ((ps.length : Int) + 1) + ps.length + 1) = z.tmod ((ps.length : Int) + 1) + ps.length + 1 := IntWalk.i64_in _ (by omega)
      have hb0 : ((ps.length : Int) + 1 == 0) = false := beq_eq_false_iff_ne.2 (by omega)
      clear hk e1
      by_cases h0 : k = 0
      · subst h0
        have HQ3 := hid (HQ2.out.trans (if_pos rfl))
        go_enter Tryd.func10, Tryd.ntmps10
        go_wp2_with fail
        go_ret
        rw [HQ3.out]
        exact ⟨rfl, F0.out⟩
      · have HQ3 := hid (HQ2.out.trans (if_neg h0))
        obtain ⟨ad, rfl, hc⟩ := HA.out (by omega)
        have hcell := hc (k - 1) _ (ints'_get ps _ (by omega))
        have hcc := (F0.out.cell hcell (fun h => h))
        generalize ps.getD (k - 1) 0 = P0 at *
        obtain ⟨j, rfl⟩ : ∃ j, k = j + 1 := ⟨k - 1, by omega⟩
        have hb1 : (((j + 1 : Nat) : Int) == 0) = false := beq_eq_false_iff_ne.2 (by omega)
        have v3 : IntKind.i64.wrap (((j + 1 : Nat) : Int) - 1) = j := by rw [IntWalk.i64_in _ (by omega)]; omega
        have ej : ((j + 1 : Nat) : Int) - 1 = j := by omega
        have hlt : j < ps.length := by omega
        rw [Nat.add_sub_cancel] at hcell hcc
        go_enter Tryd.func10, Tryd.ntmps10
        go_wp2_with fail
        go_ret
        rw [HQ3.out]
        exact ⟨rfl, F0.out⟩
end Go.Proofs.YtanefeeneladnaaDoor

/- The chapter's examples, in plain words. -/
set_option linter.unusedVariables false
set_option linter.unusedSimpArgs false
namespace Go.Proofs.YtanefeeneladnaaDoor
open Go.RowKit

def dn : Nat → List Int
  | 0 => []
  | i + 1 => ((i : Int) + 1) :: dn i
theorem dn_length : ∀ i, (dn i).length = i
  | 0 => rfl
  | i + 1 => by unfold dn; rw [List.length_cons, dn_length i]
def awS (i : Nat) : Nat := if i < 8 then 1 else 2
structure Aw (σ : List (Option Int)) (i : Nat) : Prop where
  items : its σ = dn i
  len : σ.length = 32
  on : ∀ k : Nat, onOf σ k = true ↔ (k : Int) ∈ plcL i 0 (awS i)
theorem Aw.start : Aw (List.replicate 32 none) 0 := by
  have h : ∀ j, onOf (List.replicate 32 (none : Option Int)) j = false := fun j => by
    unfold onOf
    rw [List.getD_eq_getElem?_getD, List.getElem?_replicate]
    split <;> rfl
  refine ⟨by decide, by simp, fun k => ?_⟩
  rw [h k, show plcL 0 0 (awS 0) = [] by decide]
  simp
theorem Aw.cnts {σ : List (Option Int)} {i : Nat} (H : Aw σ i) (hi : i < 8) : segC σ 0 = i ∧ ∀ k, 1 ≤ k → segC σ k = 0 := by
  have hs : awS i = 1 := if_pos hi
  have hok := plcL_ok i 0 1 (by omega) (by omega)
  have hoff : ∀ k, 8 ≤ k → onOf σ k = false := fun k hk => by
    cases e : onOf σ k with
    | false => rfl
    | true =>
      have := (H.on k).1 e
      rw [hs] at this
      have := hok.hi _ this
      omega
  have hg : ∀ a d, 8 ≤ a → cntOn (onOf σ) (a + d) = cntOn (onOf σ) a := fun a d ha => cntOn_gap _ a d (fun k k1 _ => hoff k (by omega))
  have ht : cntOn (onOf σ) σ.length = i := by rw [← its_length, H.items, dn_length]
  rw [H.len] at ht
  have h8 := hg 8 24 (by omega)
  constructor
  · have := cntOn_seg σ 0
    have e0 : cntOn (onOf σ) (8 * 0) = 0 := rfl
    have e8 : cntOn (onOf σ) (8 * (0 + 1)) = cntOn (onOf σ) 8 := rfl
    have e32 : cntOn (onOf σ) (8 + 24) = cntOn (onOf σ) 32 := rfl
    omega
  · intro k hk
    have := cntOn_seg σ k
    have := hg (8 * k) 8 (by omega)
    rw [show 8 * (k + 1) = 8 * k + 8 by omega] at *
    omega
theorem pick_aw : ∀ i : Nat, i < 8 → pickS [((i + 1 : Nat) : Int), 0, 0, 0] 0 2 = (⟨1, 0, (awS (i + 1) : Nat), 32⟩, 0) := by decide
theorem plc_aw : ∀ i : Nat, i < 8 → (0 : Int) ∈ plcL (i + 1) 0 (awS (i + 1)) := by decide
theorem InsF.aw {w : World} {F : PF} {σ : List (Option Int)} {tv : Value} {J : List Ev → World → Prop} {evs : List Ev} {v : Int} {S : St} {w' : World} {F' : PF} {σ' : List (Option Int)} {h' : Nat} {ev : List Ev} {i : Nat} (hi : i < 8)
    (H : InsF w F σ 2 0 0 ((i : Int) + 1) tv J evs v S w' F' σ' h' ev) (A : Aw σ i) : v = 0 ∧ S = ⟨1, 0, (awS (i + 1) : Nat), 32⟩ ∧ h' = 2 ∧ Aw σ' (i + 1) := by
  obtain ⟨τ, hc, hl, ho, hit, hst, hpk⟩ := H.step
  obtain ⟨c1, c2⟩ := A.cnts hi
  obtain ⟨g1, g2⟩ := hc.seg
  have t0 : segC τ 0 = i + 1 := by have := g2 (by decide); omega
  have tk : ∀ k, 1 ≤ k → k < 4 → segC τ k = 0 := fun k h1 h2 => by rw [g1 k h2 (by omega)]; exact c2 k h1
  have hcl : cntsL τ = [((i + 1 : Nat) : Int), 0, 0, 0] := by
    unfold cntsL
    rw [hl, A.len]
    show [(segC τ 0 : Int), (segC τ 1 : Int), (segC τ 2 : Int), (segC τ 3 : Int)] = _
    rw [t0, tk 1 (by omega) (by omega), tk 2 (by omega) (by omega), tk 3 (by omega) (by omega)]
    rfl
  rw [hcl, pick_aw i hi] at hpk
  injection hpk with hS _
  have hit' : its σ' = dn (i + 1) := by
    have := H.items
    rw [show cntOn (onOf σ) 0 = 0 from rfl, List.take_zero, List.drop_zero, A.items] at this
    exact this
  cases hst with
  | anew kd hk e hh k =>
    rw [← hS] at e
    injection e with e1
    omega
  | win m hm e hh k =>
    subst hh
    have e' := e
    rw [← hS] at e'
    injection e' with _ _ e3 _
    have hm2 : 2 ^ m = awS (i + 1) := by exact_mod_cast e3.symm
    have hw0 : winF 0 m = 0 := by unfold winF; rw [Nat.zero_mod]
    rw [hw0, hm2] at k
    have hS2 : awS (i + 1) = 1 ∨ awS (i + 1) = 2 := by unfold awS; split <;> simp
    have hwc : winC τ 0 (awS (i + 1)) = i + 1 := by
      have w0 : winC τ 0 0 = 0 := by unfold winC; exact Nat.sub_self _
      have w1 := winC_succ τ 0 0
      have w2 := winC_succ τ 0 1
      rw [w0, Nat.zero_add, t0] at w1
      rw [w1, tk 1 (by omega) (by omega)] at w2
      have w3 : winC τ 0 (1 + 1) = winC τ 0 2 := rfl
      have w4 : winC τ 0 (0 + 1) = winC τ 0 1 := rfl
      rcases hS2 with q | q
      · rw [q]; omega
      · rw [q]; omega
    rw [hwc] at k
    have hpos : 0 < awS (i + 1) := by omega
    have hle : i + 1 ≤ 8 * awS (i + 1) := by omega
    have hok := plcL_ok (i + 1) 0 (awS (i + 1)) hpos hle
    have hon : ∀ q : Nat, onOf σ' q = true ↔ (q : Int) ∈ plcL (i + 1) 0 (awS (i + 1)) := by
      intro q
      rcases Nat.lt_or_ge q (8 * awS (i + 1)) with g | g
      · exact k.inn q (by omega) (by omega)
      · have a1 : onOf σ' q = onOf σ q := (onOf_eq (k.out q (.inr (by omega)))).trans (onOf_eq (ho q (.inr (by omega))))
        have a2 : onOf σ q = false := by
          cases e : onOf σ q with
          | false => rfl
          | true =>
            have := (A.on q).1 e
            rw [show awS i = 1 from if_pos hi] at this
            have := (plcL_ok i 0 1 (by omega) (by omega)).hi _ this
            omega
        rw [a1, a2]
        constructor
        · intro h; exact absurd h (by simp)
        · intro h
          have := hok.hi _ h
          omega
    obtain ⟨q, q1, q2, q3⟩ := H.slot
    have h0 : onOf σ' 0 = true := (hon 0).2 (plc_aw i hi)
    have hq : q = 0 := by
      rcases Nat.eq_zero_or_pos q with g | g
      · exact g
      · have a := cntOn_on (onOf σ') 0 h0
        have b := cntOn_le_of (onOf σ') (show 1 ≤ q by omega)
        rw [q3] at b
        have e0 : cntOn (onOf σ) 0 = 0 := rfl
        have e1 : cntOn (onOf σ') 0 = 0 := rfl
        have e2 : cntOn (onOf σ') (0 + 1) = cntOn (onOf σ') 1 := rfl
        omega
    refine ⟨by rw [q1, hq]; rfl, hS.symm, rfl, hit', by rw [k.len, hl, A.len], hon⟩
theorem Aw.places {σ : List (Option Int)} {i : Nat} (H : Aw σ i) (hi : i ≤ 8) : idxs (occ σ) = plcL i 0 (awS i) := by
  have hpos : 0 < awS i := by unfold awS; split <;> omega
  have hle : i ≤ 8 * awS i := by unfold awS; split <;> omega
  have hok := plcL_ok i 0 (awS i) hpos hle
  refine idxs_is hok.up (fun p => ?_)
  constructor
  · intro hp
    have := hok.lo _ hp
    exact ⟨p.toNat, by omega, (H.on _).2 (by rwa [Int.toNat_of_nonneg (by omega)])⟩
  · rintro ⟨k, rfl, hk⟩
    exact (H.on k).1 hk
theorem Aw.last {σ : List (Option Int)} (H : Aw σ 8) : cntsL σ = [4, 4, 0, 0] := by
  have hE : ∀ n m : Nat, cntOn (onOf σ) n = m → True := fun _ _ _ => trivial
  have hl := H.len
  have hon := H.on
  have key : ∀ n, n ≤ 4 → cntOn (onOf σ) (8 * n) = if n = 0 then 0 else if n = 1 then 4 else 8 := by
    intro n hn
    have hc := cnt_list (onOf σ) ((plcL 8 0 2).filter (fun p => decide (p < 8 * (n : Int)))) 0 (8 * n) ((plcL_ok 8 0 2 (by omega) (by omega)).up.filter _) (fun p hp => by
      obtain ⟨h1, h2⟩ := List.mem_filter.1 hp
      have := (plcL_ok 8 0 2 (by omega) (by omega)).lo p h1
      have := of_decide_eq_true h2
      omega) (fun k h1 h2 => by
      rw [hon k, List.mem_filter, show awS 8 = 2 by decide]
      constructor
      · intro h; exact ⟨h, decide_eq_true (by omega)⟩
      · intro h; exact h.1) (by omega)
    rw [hc, show cntOn (onOf σ) 0 = 0 from rfl]
    have : ∀ n : Nat, n ≤ 4 → 0 + ((plcL 8 0 2).filter (fun p => decide (p < 8 * (n : Int)))).length = if n = 0 then 0 else if n = 1 then 4 else 8 := fun n hn => by
      have : n = 0 ∨ n = 1 ∨ n = 2 ∨ n = 3 ∨ n = 4 := by omega
      rcases this with rfl | rfl | rfl | rfl | rfl <;> decide
    exact this n hn
  have hs : ∀ k, k < 4 → segC σ k = if k ≤ 1 then 4 else 0 := by
    intro k hk
    have a := cntOn_seg σ k
    rw [key (k + 1) (by omega), key k (by omega)] at a
    have : k = 0 ∨ k = 1 ∨ k = 2 ∨ k = 3 := by omega
    rcases this with rfl | rfl | rfl | rfl <;> simp at a ⊢ <;> omega
  unfold cntsL
  rw [hl]
  show [(segC σ 0 : Int), (segC σ 1 : Int), (segC σ 2 : Int), (segC σ 3 : Int)] = _
  rw [hs 0 (by omega), hs 1 (by omega), hs 2 (by omega), hs 3 (by omega)]
  rfl
end Go.Proofs.YtanefeeneladnaaDoor

/- The law's awake. -/
set_option linter.unusedVariables false
set_option linter.unusedSimpArgs false
namespace Go.Proofs.YtanefeeneladnaaDoor
open Go.RowKit

structure AwW (w0 : World) (p : Nat) (F : PF) (σ : List (Option Int)) (i : Nat) (wr : World) : Prop where
  p : F.p = p
  r : PmaR wr F σ 2 Value.nilFunc
  d : Dn σ 2
  a : Aw σ i
  fr : Fr Nil1 w0 wr
  mem : ∀ k, F.mem k → w0.heap.size ≤ k
theorem AwW.new {w0 wr w' : World} {p : Nat} {F : PF} {σ : List (Option Int)} {i : Nat} (H : AwW w0 p F σ i wr) (hf : Fr Nil1 wr w') : AwW w0 p F σ i w' := ⟨H.p, H.r.new hf, H.d, H.a, H.fr.trans hf, H.mem⟩
theorem AwW.ins {w0 wr : World} {p : Nat} {F : PF} {σ : List (Option Int)} {i : Nat} (H : AwW w0 p F σ i wr) (hi : i < 8) :
    Calls Tryd.prog 14 #[.pointer (some ⟨p, 0, none⟩), .int .i64 (-1), .int .i64 ((i : Int) + 1)] wr fun e w' => ∃ F' σ', e = .returned (.tuple #[.int .i64 0, .agg #[.int .i64 1, .int .i64 0, .int .i64 (awS (i + 1) : Nat), .int .i64 32], .int .i64 0]) ∧ Hid (AwW w0 p F' σ' (i + 1) w') := by
  have ht : cntOn (onOf σ) σ.length = i := by rw [← its_length, H.a.items, dn_length]
  rw [← H.p]
  refine (pmaInsert_first (evs := []) H.r hear_nil trivial (fun k h => h.elim) H.d (by omega) ((i : Int) + 1)).mono ?_
  rintro e w' ⟨v, S, rfl, hO⟩
  obtain ⟨⟨F', σ', h', ev, hI⟩, hf⟩ := hO.law H.d (by decide)
  obtain ⟨rfl, rfl, rfl, ha⟩ := hI.aw hi H.a
  refine ⟨F', σ', rfl, hid ⟨hI.p, hI.r, hI.d, ha, H.fr.trans' hf (fun j hj _ hh => ?_), fun k hk => ?_⟩⟩
  · rcases hh with hh | hh
    · have := H.mem j hh; omega
    · exact hh
  · rcases hI.mem k hk with h | h
    · exact H.mem k h
    · have := H.fr.size; omega
theorem AwW.items {w0 wr : World} {p : Nat} {F : PF} {σ : List (Option Int)} {i : Nat} (H : AwW w0 p F σ i wr) :
    Calls Tryd.prog 18 #[.pointer (some ⟨p, 0, none⟩)] wr fun e w' => ∃ v, e = .returned v ∧ Hid (Rd w' v (ints' (dn i)) ∧ AwW w0 p F σ i w') := by
  rw [← H.p]
  refine (pmaItems_any H.r).mono ?_
  rintro e w' ⟨v, rfl, h1, h2⟩
  rw [H.a.items] at h1
  have hb : i ≤ 4096 := by
    have h1 := its_length σ
    rw [H.a.items, dn_length] at h1
    have h2 := cntOn_le (onOf σ) σ.length
    have h3 := H.a.len
    omega
  exact ⟨v, rfl, hid ⟨h1.rd (by rw [dn_length]; omega), by have := H.new h2; rwa [H.p]⟩⟩
theorem AwW.slots {w0 wr : World} {p : Nat} {F : PF} {σ : List (Option Int)} {i : Nat} (H : AwW w0 p F σ i wr) :
    Calls Tryd.prog 11 #[.pointer (some ⟨p, 0, none⟩)] wr fun e w' => ∃ f' : SF, e = .returned (.pointer (some ⟨f'.s, 0, none⟩)) ∧ Hid (SlotsR w' f' σ ∧ AwW w0 p F σ i w') := by
  rw [← H.p]
  refine (pmaSlots_any H.r).mono ?_
  rintro e w' ⟨f', rfl, h1, h2, h3⟩
  exact ⟨f', rfl, hid ⟨h1, by have := H.new h2; rwa [H.p]⟩⟩
theorem AwW.places {w0 wr : World} {p : Nat} {F : PF} {σ : List (Option Int)} {i : Nat} {f' : SF} (H : AwW w0 p F σ i wr) (hs : SlotsR wr f' σ) (hi : i ≤ 8) :
    Calls Tryd.prog 12 #[.pointer (some ⟨f'.s, 0, none⟩)] wr fun e w' => ∃ v, e = .returned v ∧ Hid (Rd w' v (ints' (plcL i 0 (awS i))) ∧ AwW w0 p F σ i w') := by
  refine (gapsPlaces_any hs).mono ?_
  rintro e w' ⟨v, rfl, h1, h2⟩
  rw [H.a.places hi] at h1
  have hpos : 0 < awS i := by unfold awS; split <;> omega
  exact ⟨v, rfl, hid ⟨h1.rd (by rw [plcL_length _ _ _ hpos]; omega), H.new h2⟩⟩
theorem AwW.counts {w0 wr : World} {p : Nat} {F : PF} {σ : List (Option Int)} (H : AwW w0 p F σ 8 wr) :
    Calls Tryd.prog 23 #[.pointer (some ⟨p, 0, none⟩)] wr fun e w' => ∃ v, e = .returned v ∧ Hid (Rd w' v (ints' [4, 4, 0, 0]) ∧ AwW w0 p F σ 8 w') := by
  rw [← H.p]
  refine (pmaCountsM_any H.r).mono ?_
  rintro e w' ⟨v, rfl, h1, h2⟩
  rw [H.a.last] at h1
  exact ⟨v, rfl, hid ⟨h1.rd (by decide), by have := H.new h2; rwa [H.p]⟩⟩

theorem ints_eq (xs ys : List Int) (u v : Value) (w : World) (h1 : Rd w u (ints' xs)) (h2 : Rd w v (ints' ys)) (h : xs = ys) : Calls Tryd.prog 19 #[u, v] w fun e w' => e = .returned (.bool true) ∧ Fr Nil1 w w' := by
  have := ints_any xs ys u v w h1 h2
  rwa [decide_eq_true h] at this
theorem aw_dn : dn (3 + 1) = [4, 3, 2, 1] := by decide
theorem aw_p4 : plcL (3 + 1) 0 (awS (3 + 1)) = [0, 2, 4, 6] := by decide
theorem aw_p8 : plcL 8 0 (awS 8) = [0, 2, 4, 6, 8, 10, 12, 14] := by decide
theorem ints_lit (w : World) (v : Value) (xs ys : List Int) (n : Nat) (h1 : Rd w v (ints' xs)) (h : xs = ys) (hn : ys.length = n) (hl : n ≤ 100) : Calls Tryd.prog 19 #[v, .slice (some ⟨w.heap.size, 0, none⟩) n n] (w.alloc (.cells (ints' ys).toArray 3)) fun e w' => e = .returned (.bool true) ∧ Fr Nil1 w w' := by
  subst hn
  have hb : Rd (w.alloc (.cells (ints' ys).toArray 3)) (.slice (some ⟨w.heap.size, 0, none⟩) ys.length ys.length) (ints' ys) := ⟨some ⟨w.heap.size, 0, none⟩, ys.length, by rw [ints'_length], by rw [ints'_length]; omega, fun _ => ⟨_, rfl, fun j u hu => by rw [add_flat, Nat.zero_add]; exact ((Has.new w (ints' ys) 3).cell j).trans hu⟩⟩
  refine (ints_eq xs ys v _ _ (h1.new ((Fr.refl _ _).alloc _)) hb h).mono ?_
  rintro e w' ⟨rfl, hf⟩
  exact ⟨rfl, ((Fr.refl Nil1 w).alloc _).trans hf⟩
set_option maxRecDepth 100000 in
set_option maxHeartbeats 4000000 in
theorem awake_any (w : World) (hg : GW w) : Calls Tryd.prog 7 #[] w fun e w' => e = .returned (.bool true) ∧ Fr Nil1 w w' := by
  have HN := hid (pmaNew_any Value.nilFunc (.inl rfl) w hg)
  have hG := hid hg.size
  have HIt := hid (dn_length 4)
  go_enter Tryd.func7, Tryd.ntmps7
  go_wp2_with (go_at_call 8; refine HN.out.mono ?_; rintro e w1 ⟨F0, rfl, hp, hf, hm⟩; have H1 := hid (And.intro hp (And.intro hf hm)); clear hp hf hm)
  obtain ⟨p, hp⟩ : ∃ p, F0.p = p := ⟨_, rfl⟩
  have HA := hid (show AwW w p F0 (List.replicate 32 none) 0 w1 from ⟨hp, H1.out.1, dn_new, Aw.start, H1.out.2.1, H1.out.2.2⟩)
  rw [hp]
  clear H1 hp
  go_loopw [0, 2, 3, 5] (fun _ i _ _ wr => ∃ (n : Nat) (F : PF) (σ : List (Option Int)), n ≤ 8 ∧ i = .int .i64 ((n : Int) + 1) ∧ Hid (AwW w p F σ n wr)) (fun _ i _ _ _ => (10 - intOf i).toNat)
  case atStart => exact ⟨0, F0, _, by omega, rfl, HA⟩
  case round =>
    obtain ⟨n, F, σ, hn, rfl, HW⟩ := hrel
    by_cases hlt : n < 8
    · have hltI : (n : Int) < 8 := by omega
      have v1 : IntKind.i64.wrap ((n : Int) + 1 + 1) = (n : Int) + 1 + 1 := IntWalk.i64_in _ (by omega)
      have hle8 : (n : Int) + 1 ≤ 8 := by omega
      by_cases h4 : n = 3
      · subst h4
        have HI := hid ((show awS 4 = 1 by decide) ▸ HW.out.ins hlt)
        have e1 : ((3 : Nat) : Int) + 1 = 4 := by omega
        rw [e1] at HI
        go_wp2_with (first
          | (go_at_call 19; refine (ints_lit w6 v6 _ [0, 2, 4, 6] 4 H6.out.1 aw_p4 rfl (by decide)).mono ?_; rintro e w7 ⟨rfl, hf7⟩; have H7 := hid (H6.out.2.new hf7); clear hf7)
          | (go_at_call 12; refine (H5.out.2.places H5.out.1 (by omega)).mono ?_; rintro e w6 ⟨v6, rfl, H6⟩)
          | (go_at_call 11; refine H4.out.slots.mono ?_; rintro e w5 ⟨f5, rfl, H5⟩)
          | (go_at_call 19; refine (ints_lit w3 v3 _ [4, 3, 2, 1] 4 H3.out.1 aw_dn rfl (by decide)).mono ?_; rintro e w4 ⟨rfl, hf4⟩; have H4 := hid (H3.out.2.new hf4); clear hf4)
          | (go_at_call 18; refine (H2.out.new ((Fr.refl _ _).alloc _)).items.mono ?_; rintro e w3 ⟨v3, rfl, H3⟩)
          | (go_at_call 14; refine HI.out.mono ?_; rintro e w2 ⟨F', σ', rfl, H2⟩))
        refine ⟨⟨4, F', σ', by omega, by go_num, H7⟩, by simp [intOf]⟩
      · by_cases h8 : n = 7
        · subst h8
          have HI := hid ((show awS 8 = 2 by decide) ▸ HW.out.ins hlt)
          have e1 : ((7 : Nat) : Int) + 1 = 8 := by omega
          rw [e1] at HI
          go_wp2_with (go_at_call 14; refine HI.out.mono ?_; rintro e w2 ⟨F', σ', rfl, H2⟩)
          refine ⟨⟨8, F', σ', by omega, by go_num, hid (H2.out.new ((Fr.refl _ _).alloc _))⟩, by simp [intOf]⟩
        · have hs : awS (n + 1) = 1 := if_pos (by omega)
          have HI := hid (hs ▸ HW.out.ins hlt)
          have h40 : ((n : Int) + 1 == 4) = false := beq_eq_false_iff_ne.2 (by omega)
          have h81 : decide ((n : Int) + 1 < 8) = true := decide_eq_true (by omega)
          have h82 : (n : Int) + 1 < 8 := by omega
          go_wp2_with (go_at_call 14; refine HI.out.mono ?_; rintro e w2 ⟨F', σ', rfl, H2⟩)
          refine ⟨⟨n + 1, F', σ', by omega, by go_num, hid (H2.out.new ((Fr.refl _ _).alloc _))⟩, by simp [intOf]; omega⟩
    · obtain rfl : n = 8 := by omega
      go_wp2_with (first
        | (go_at_call 19; refine (ints_lit w8 v8 _ [4, 4, 0, 0] 4 H8.out.1 rfl rfl (by decide)).mono ?_; rintro e w9 ⟨rfl, hf9⟩; have H9 := hid (H8.out.2.new hf9); clear hf9)
        | (go_at_call 23; refine H7.out.counts.mono ?_; rintro e w8 ⟨v8, rfl, H8⟩)
        | (go_at_call 19; refine (ints_lit w6 v6 _ [0, 2, 4, 6, 8, 10, 12, 14] 8 H6.out.1 aw_p8 rfl (by decide)).mono ?_; rintro e w7 ⟨rfl, hf7⟩; have H7 := hid (H6.out.2.new hf7); clear hf7)
        | (go_at_call 12; refine (H5.out.2.places H5.out.1 (by omega)).mono ?_; rintro e w6 ⟨v6, rfl, H6⟩)
        | (go_at_call 11; refine HW.out.slots.mono ?_; rintro e w5 ⟨f5, rfl, H5⟩))
      go_ret
      exact ⟨rfl, H9.out.fr⟩
end Go.Proofs.YtanefeeneladnaaDoor

/- Rows of acts. -/
set_option linter.unusedVariables false
set_option linter.unusedSimpArgs false
namespace Go.Proofs.YtanefeeneladnaaDoor
open Go.RowKit

/-- A slice of acts. -/
def RdAc (w : World) (v : Value) (l : List AcT) : Prop :=
  ∃ (A : Option Addr) (c : Nat), v = .slice A l.length c ∧ (∀ a ∈ l, -9223372036854775808 ≤ a.at' ∧ a.at' ≤ 9223372036854775807) ∧ (0 < l.length → ∃ b o, A = some ⟨b, o, none⟩ ∧ ∀ j a, l[j]? = some a → w.cell? ⟨b, o + j * 4, none⟩ = some (.bool a.goes) ∧ w.cell? ⟨b, o + j * 4 + 1, none⟩ = some (.bool a.raw) ∧ w.cell? ⟨b, o + j * 4 + 2, none⟩ = some (.int .i64 a.at') ∧ w.cell? ⟨b, o + j * 4 + 3, none⟩ = some (.int .i64 a.x))
theorem RdAc.new {w w' : World} {v : Value} {l : List AcT} (h : RdAc w v l) (hf : Fr Nil1 w w') : RdAc w' v l := by
  obtain ⟨A, c, rfl, hb, hA⟩ := h
  refine ⟨A, c, rfl, hb, fun hp => ?_⟩
  obtain ⟨b, o, rfl, hc⟩ := hA hp
  exact ⟨b, o, rfl, fun j a hj => ⟨hf.cell (hc j a hj).1 (fun s => s), hf.cell (hc j a hj).2.1 (fun s => s), hf.cell (hc j a hj).2.2.1 (fun s => s), hf.cell (hc j a hj).2.2.2 (fun s => s)⟩⟩

/-- The place of an act, in a row. -/
theorem RowG.place {w0 wr : World} {p : Nat} {tv : Value} {B : Nat → Prop} {J : List Ev → World → Prop} {F : PF} {σ : List (Option Int)} {h : Nat} {evs : List Ev} (H : RowG w0 p tv B J F σ h evs wr) (T : Hear tv B J) (a : AcT) (v : Value) (hv : Rd wr v (ints' (idxs (occ σ)))) (b1 : -9223372036854775808 ≤ a.at') (b2 : a.at' ≤ 9223372036854775807) :
    Calls Tryd.prog 10 #[.agg #[.bool a.goes, .bool a.raw, .int .i64 a.at', .int .i64 a.x], v] wr fun e w' => e = .returned (.int .i64 (a.place (idxs (occ σ)))) ∧ Hid (RowG w0 p tv B J F σ h evs w' ∧ Fr Nil1 wr w') := by
  refine (place_any a _ v wr hv (by have := H.small; omega) b1 b2).mono ?_
  rintro e w' ⟨rfl, hf⟩
  exact ⟨rfl, hid ⟨H.new T hf, hf⟩⟩
end Go.Proofs.YtanefeeneladnaaDoor
