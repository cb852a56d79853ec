/- In one: W1, W2, W6. -/
import Derived.Test.YtechphliifginaaGreatDoorGL
import Derived.Test.YtechphliifginaaGreatDoorGJ
import Derived.Test.YtechphliifginaaGreatDoorGE
import Derived.Test.YtechphliifginaaGreatDoorGH
import Derived.Test.YtechphliifginaaGreatDoorGC
/- pma: counts, use; what a row of elements is. -/
set_option linter.unusedVariables false
set_option linter.unusedSimpArgs false
namespace Go.Proofs.YtechphliifginaaGreatDoor
open Go.RowKit

/-- The counts of some segments. -/
def cntsW (σ : List (Option Int)) (first n : Nat) : List Int := (List.range n).map fun k => (segC σ (first + k) : Int)
theorem cntsW_length (σ : List (Option Int)) (first n : Nat) : (cntsW σ first n).length = n := by simp [cntsW]
theorem cntsW_getD (σ : List (Option Int)) (first n k : Nat) (hk : k < n) : (cntsW σ first n).getD k 0 = (segC σ (first + k) : Int) := by
  simp [cntsW, List.getD_eq_getElem?_getD, hk]
theorem cntsL_eq (σ : List (Option Int)) : cntsL σ = cntsW σ 0 (σ.length / 8) := by unfold cntsL cntsW; simp
theorem cntsW_mem (σ : List (Option Int)) (first n : Nat) : ∀ x ∈ cntsW σ first n, 0 ≤ x ∧ x ≤ 8 := by
  intro x hx
  unfold cntsW at hx
  obtain ⟨k, _, rfl⟩ := List.mem_map.1 hx
  have := segC_le σ (first + k)
  omega
theorem cnts_step (σ : List (Option Int)) (first n j : Nat) (hj : j < n) : ((cntsW σ first n).take j ++ List.replicate (n - j) 0).set j (segC σ (first + j) : Int) = (cntsW σ first n).take (j + 1) ++ List.replicate (n - (j + 1)) 0 := by
  have hl : ((cntsW σ first n).take j).length = j := by rw [List.length_take, cntsW_length]; omega
  rw [List.set_append_right _ _ (by omega), hl, Nat.sub_self, show n - j = (n - (j + 1)) + 1 by omega, List.replicate_succ, List.set_cons_zero,
    List.take_succ_eq_append_getElem (by rw [cntsW_length]; exact hj), List.append_assoc]
  simp [cntsW]

set_option maxRecDepth 100000 in
set_option maxHeartbeats 1000000 in
theorem pmaCounts_ok {f : SF} {σ : List (Option Int)} {w : World} (h : SlotsR w f σ) (first segs : Nat) (h1 : 1 ≤ segs) (hl : 8 * (first + segs) ≤ σ.length) (h512 : first + segs ≤ 512) :
    Calls Tryz.prog 130 #[.pointer (some ⟨f.s, 0, none⟩), .int .i64 first, .int .i64 segs] w fun e w' => e = .returned (.slice (some ⟨w.heap.size, 0, none⟩) segs segs) ∧ Has w' w.heap.size (ints' (cntsW σ first segs)) 3 ∧ Fr Nil1 w w' := by
  have hG := h.g.size
  have hmk := mk_row (P := Tryz.prog) 30 3 (.int .i64 0) 8 Tryz.underlying30 info_int rfl (by decide) (segs : Int) (by omega) (by omega)
  have hmx := h.bits.n2
  have HC := hid (fun w' (hf : Fr Nil1 w w') (k : Nat) (hk : k < segs) => show Calls Tryz.prog 116 #[.pointer (some ⟨f.s, 0, none⟩), .int .i64 (8 * ((first : Int) + k)), .int .i64 (8 * ((first : Int) + k) + 8)] w' fun e w'' => e = .returned (.tuple #[.int .i64 (segC σ (first + k) : Nat), .int .i64 0]) ∧ w' = w'' from by
    have := gapsCount_any (h.new hf) (8 * ((first : Int) + k)) (8 * ((first : Int) + k) + 8) (by omega) (by omega) (by omega)
    rw [show (8 * ((first : Int) + k) + 8).toNat = 8 * (first + k + 1) by omega, show (8 * ((first : Int) + k)).toNat = 8 * (first + k) by omega] at this
    exact this)
  have hm := Has.made w (.int .i64 0) segs 3
  have f1 : Fr Nil1 w (w.alloc (.cells (madeCells #[.int .i64 0] segs) 3)) := (Fr.refl _ _).alloc _
  obtain ⟨Q, hQ⟩ : ∃ Q, w.heap.size = Q := ⟨_, rfl⟩
  have HQ := hid hQ
  have HH := hid h
  rw [hQ] at hm ⊢
  have e0 : ints' ((cntsW σ first segs).take 0 ++ List.replicate (segs - 0) 0) = List.replicate segs (.int .i64 0) := by simp [ints']
  rw [← e0] at hm
  have HM := hid hm
  have HF := hid f1
  have hsc : ∀ k, segC σ k ≤ 8 := segC_le σ
  have HSc := hid hsc
  clear h hm f1 e0 hsc
  go_enter Tryz.func130, Tryz.ntmps130
  go_wp2_with fail
  go_loopw [8, 9, 14] (fun _ _ i wr => ∃ k : Nat, k ≤ segs ∧ i = .int .i64 k ∧ Hid (Has wr Q (ints' ((cntsW σ first segs).take k ++ List.replicate (segs - k) 0)) 3 ∧ Fr Nil1 w wr)) (fun _ _ i _ => segs - (intOf i).toNat)
  case atStart => exact ⟨0, by omega, rfl, hid ⟨HM.out, HF.out⟩⟩
  case round =>
    obtain ⟨k, hk, rfl, HR⟩ := hrel
    by_cases hlt : k < segs
    · have hltI : (k : Int) < segs := by omega
      have hll : k < ((cntsW σ first segs).take k ++ List.replicate (segs - k) 0).length := by rw [List.length_append, List.length_take, cntsW_length, List.length_replicate]; omega
      have c0 := HR.out.1.cell k
      rw [ints'_get _ _ hll] at c0
      have cf := HR.out.1.frozen
      have HCk := hid (HC.out wr HR.out.2 k hlt)
      have hst := HR.out.1.set k (.int .i64 (segC σ (first + k) : Nat))
      have e1 := ints'_set ((cntsW σ first segs).take k ++ List.replicate (segs - k) 0) [] k (segC σ (first + k) : Int) hll
      rw [List.append_nil, List.append_nil, cnts_step σ first segs k hlt] at e1
      rw [e1] at hst
      have HSt := hid hst
      have hs8 := HSc.out (first + k)
      clear hst e1 hll
      generalize ((cntsW σ first segs).take k ++ List.replicate (segs - k) 0).getD k 0 = z at *
      generalize segC σ (first + k) = s at *
      have v1 : IntKind.i64.wrap ((first : Int) + k) = (first : Int) + k := IntWalk.i64_in _ (by omega)
      have v2 : IntKind.i64.wrap (8 * ((first : Int) + k)) = 8 * ((first : Int) + k) := IntWalk.i64_in _ (by omega)
      go_wp2_with (go_at_call 116; refine HCk.out.mono ?_; rintro e w1 ⟨rfl, rfl⟩)
      exact ⟨⟨k + 1, by omega, by go_num, hid ⟨HSt.out, HR.out.2.setNew _ _ hG (by show w.heap.size ≤ Q; have := HQ.out; omega)⟩⟩, by simp [intOf]; omega⟩
    · have hks := hid (show k = segs by omega)
      go_wp2_with fail
      go_ret
      refine ⟨rfl, ?_, HR.out.2⟩
      have := HR.out.1
      rw [hks.out, Nat.sub_self, List.replicate_zero, List.append_nil, List.take_of_length_le (by rw [cntsW_length]; omega)] at this
      exact this

/-- The blocks of a row of elements: its struct, its array, its tree. -/
structure PF where
  p : Nat
  sl : SF
  t : Nat
  d : Nat
def PF.mem (F : PF) (k : Nat) : Prop := k = F.p ∨ F.sl.mem k ∨ k = F.t ∨ k = F.d
structure PmaR (w : World) (F : PF) (σ : List (Option Int)) (h : Nat) (tv : Value) : Prop where
  gp : NG ≤ F.p
  h2 : 2 ≤ h
  h9 : h ≤ 9
  len : σ.length = 8 * 2 ^ h
  row : Has w F.p [.pointer (some ⟨F.sl.s, 0, none⟩), .pointer (some ⟨F.t, 0, none⟩), tv] 95
  sl : SlotsR w F.sl σ
  tr : TreeR w F.t F.d h (cntsL σ)
  ne : F.d ≠ F.sl.d
theorem PmaR.fr {w w' : World} {F : PF} {σ : List (Option Int)} {h : Nat} {tv : Value} {S : Nat → Prop} (H : PmaR w F σ h tv) (hf : Fr S w w') (hS : ∀ k, F.mem k → ¬ S k) : PmaR w' F σ h tv :=
  ⟨H.gp, H.h2, H.h9, H.len, H.row.fr' hf (hS _ (.inl rfl)), H.sl.fr hf (fun k hk => hS _ (.inr (.inl hk))), H.tr.fr hf (hS _ (.inr (.inr (.inl rfl)))) (hS _ (.inr (.inr (.inr rfl)))), H.ne⟩
theorem PmaR.new {w w' : World} {F : PF} {σ : List (Option Int)} {h : Nat} {tv : Value} (H : PmaR w F σ h tv) (hf : Fr Nil1 w w') : PmaR w' F σ h tv := H.fr hf (fun _ _ h => h)
theorem PmaR.lt {w : World} {F : PF} {σ : List (Option Int)} {h : Nat} {tv : Value} (H : PmaR w F σ h tv) : ∀ k, F.mem k → k < w.heap.size := by
  rintro k (rfl | hk | rfl | rfl)
  · exact H.row.lt
  · exact H.sl.lt k hk
  · exact H.tr.lt.1
  · exact H.tr.lt.2
/-- Its blocks are apart. -/
theorem PmaR.apart {w : World} {F : PF} {σ : List (Option Int)} {h : Nat} {tv : Value} (H : PmaR w F σ h tv) : ¬ F.sl.mem F.p ∧ F.p ≠ F.t ∧ F.p ≠ F.d ∧ ¬ F.sl.mem F.t ∧ ¬ F.sl.mem F.d := by
  obtain ⟨ex, r1, r2⟩ := H.sl.row
  obtain ⟨ws, ex', r3, r4, _⟩ := H.sl.bits.row
  obtain ⟨ns, ex2, t1, t2, _⟩ := H.tr.row
  refine ⟨?_, H.row.ne t1 (by decide), H.row.ne t2 (by decide), ?_, ?_⟩
  · rintro (e | e | e | e)
    · exact H.row.ne r1 (by decide) e
    · exact H.row.ne r2 (by decide) e
    · exact H.row.ne r3 (by decide) e
    · exact H.row.ne r4 (by decide) e
  · rintro (e | e | e | e)
    · exact t1.ne r1 (by decide) e
    · exact t1.ne r2 (by decide) e
    · exact t1.ne r3 (by decide) e
    · exact t1.ne r4 (by decide) e
  · rintro (e | e | e | e)
    · exact t2.ne r1 (by decide) e
    · exact H.ne e
    · exact t2.ne r3 (by decide) e
    · exact t2.ne r4 (by decide) e

set_option maxRecDepth 100000 in
set_option maxHeartbeats 1000000 in
theorem pmaUse_ok {f : SF} {σ : List (Option Int)} {h p : Nat} {w : World} {s0 t0 tv : Value} (H : SlotsR w f σ) (h2 : 2 ≤ h) (h9 : h ≤ 9) (hlen : σ.length = 8 * 2 ^ h) (hp : Has w p [s0, t0, tv] 95) (gp : NG ≤ p)
    (o0 : ∃ a, s0 = .pointer a) (o1 : ∃ a, t0 = .pointer a) :
    Calls Tryz.prog 70 #[.pointer (some ⟨p, 0, none⟩), .pointer (some ⟨f.s, 0, none⟩)] w fun e w' => (∃ v, e = .returned v) ∧ ∃ t d, PmaR w' ⟨p, f, t, d⟩ σ h tv ∧ w.heap.size ≤ t ∧ w.heap.size ≤ d ∧ Fr (fun k => k = p) w w' := by
  obtain ⟨a0, rfl⟩ := o0
  obtain ⟨a1, rfl⟩ := o1
  have hG := H.g.size
  have hz := p2_le h9
  have hz0 : 0 < 2 ^ h := Nat.pow_pos (by omega)
  have hpn : ¬ f.mem p := by
    obtain ⟨ex, r1, r2⟩ := H.row
    obtain ⟨ws, ex', r3, r4, _⟩ := H.bits.row
    rintro (e | e | e | e)
    · exact hp.ne r1 (by decide) e
    · exact hp.ne r2 (by decide) e
    · exact hp.ne r3 (by decide) e
    · exact hp.ne r4 (by decide) e
  have f1 : Fr (fun k => k = p) w (w.setCell ⟨p, 0, none⟩ (.pointer (some ⟨f.s, 0, none⟩))) := (Fr.refl _ _).setCell _ _ gp (fun _ => rfl)
  have H1 := H.fr f1 (fun k hk e => hpn (e ▸ hk))
  have HCap := hid (gapsCap_any H1)
  have HCnt := hid (pmaCounts_ok H1 0 (2 ^ h) (by omega) (by omega) (by omega))
  have ecl : cntsW σ 0 (2 ^ h) = cntsL σ := by rw [cntsL_eq, hlen]; congr 1; omega
  rw [ecl] at HCnt
  have hcl : (cntsL σ).length = 2 ^ h := by rw [cntsL_length, hlen]; omega
  have hs1 : (w.setCell ⟨p, 0, none⟩ (.pointer (some ⟨f.s, 0, none⟩))).heap.size = w.heap.size := by simp
  rw [hs1] at HCnt
  have HTr := hid (fun w2 (hh : Has w2 w.heap.size (ints' (cntsL σ)) 3) (hf : Fr Nil1 (w.setCell ⟨p, 0, none⟩ (.pointer (some ⟨f.s, 0, none⟩))) w2) => show Calls Tryz.prog 117 #[.slice (some ⟨w.heap.size, 0, none⟩) (2 ^ h) (2 ^ h)] w2 fun e w' => ∃ t d, e = .returned (.tuple #[.pointer (some ⟨t, 0, none⟩), .int .i64 0]) ∧ TreeR w' t d h (cntsL σ) ∧ Fr Nil1 w2 w' ∧ w2.heap.size ≤ t ∧ w2.heap.size ≤ d from by
    have := treeNew_ok (cntsL σ) h (by omega) h9 hcl (by rw [cntsL_eq]; exact cntsW_mem _ _ _) ⟨w.heap.size, 0, none⟩ (2 ^ h) w2 ⟨by rw [hcl]; exact Nat.le_refl _, by omega, fun j u hu => by rw [add_flat, Nat.zero_add]; exact (hh.cell j).trans hu⟩ (by have := hf.size; rw [hs1] at this; omega)
    rwa [hcl] at this)
  have hp1 : Has (w.setCell ⟨p, 0, none⟩ (.pointer (some ⟨f.s, 0, none⟩))) p [.pointer (some ⟨f.s, 0, none⟩), .pointer a1, tv] 95 := hp.set 0 _
  have HP1 := hid hp1
  have HF1 := hid f1
  have HS1 := hid H1
  have HPn := hid hpn
  obtain ⟨c0, c1, c2, cf⟩ := hp.three
  have hcf : (fun w2 (hF : Fr Nil1 (w.setCell ⟨p, 0, none⟩ (.pointer (some ⟨f.s, 0, none⟩))) w2) => (hp1.fr' hF id).cell 1) = (fun w2 hF => (hp1.fr' hF id).cell 1) := rfl
  have HLen := hid hlen
  have HCl := hid hcl
  have HS1s := hid hs1
  clear hs1
  rw [hlen] at HCap
  have e8 : ((8 * 2 ^ h : Nat) : Int) / 8 = ((2 ^ h : Nat) : Int) := by omega
  have HE8 := hid e8
  clear H H1 hp hp1 f1 hcf hpn
  generalize hZ : 2 ^ h = Z at *
  have e9 : ((8 * Z : Nat) : Int) = 8 * (Z : Int) := by omega
  rw [e9] at HCap
  have e10 : 8 * (Z : Int) / 8 = (Z : Int) := by omega
  have hq0 : (0 : Int) ≤ 8 * (Z : Int) := by omega
  have hq1 : 8 * (Z : Int) ≤ 4096 := by omega
  clear e8 e9
  go_enter Tryz.func70, Tryz.ntmps70
  go_wp2_with (first
    | (go_at_call 38; refine HCap.out.mono ?_; rintro e w1 ⟨rfl, rfl⟩)
    | (go_at_call 130; (try rw [e10]); refine HCnt.out.mono ?_; rintro e w2 ⟨rfl, hh, hf⟩; have H2 := hid (And.intro hh hf); clear hh hf)
    | (go_at_call 117; refine (HTr.out w2 H2.out.1 H2.out.2).mono ?_; rintro e w3 ⟨t, d, rfl, hT, hF, ht, hd⟩; have H3 := hid (And.intro hT (And.intro hF (And.intro ht hd))); have hk := (HP1.out.fr' H2.out.2 id).fr' hF id; have HK := hid hk; obtain ⟨k0, k1, k2, kf⟩ := HK.out.three; clear hT hF ht hd hk))
  refine bodyPost_end (results_none rfl _ _ _) rfl ?_
  have hs2 := H2.out.2.size
  rw [HS1s.out] at hs2
  have hpn : ¬ f.mem p := HPn.out
  have htl := H3.out.1.lt
  refine ⟨⟨_, rfl⟩, t, d, ⟨gp, h2, h9, ?_, HK.out.set 1 _, ?_, ?_, ?_⟩, by have := H3.out.2.2.1; omega, by have := H3.out.2.2.2; omega, ?_⟩
  · rw [← hZ] at HLen; exact HLen.out
  · exact ((HS1.out.new H2.out.2).new H3.out.2.1).fr ((Fr.refl (fun k => k = p) _).setCell ⟨p, 1, none⟩ (.pointer (some ⟨t, 0, none⟩)) gp (fun _ => rfl)) (fun k hk e => hpn (e ▸ hk))
  · exact H3.out.1.fr ((Fr.refl (fun k => k = p) _).setCell ⟨p, 1, none⟩ (.pointer (some ⟨t, 0, none⟩)) gp (fun _ => rfl)) (by have := H3.out.2.2.1; have := HP1.out.lt; rw [HS1s.out] at this; omega) (by have := H3.out.2.2.2; have := HP1.out.lt; rw [HS1s.out] at this; omega)
  · have := H3.out.2.2.2
    have h4 := HS1.out.lt f.d (by simp [SF.mem])
    rw [HS1s.out] at h4
    show d ≠ f.d
    omega
  · exact ((HF1.out.trans (H2.out.2.mono (fun _ _ h => h.elim))).trans (H3.out.2.1.mono (fun _ _ h => h.elim))).setCell ⟨p, 1, none⟩ _ gp (fun _ => rfl)
end Go.Proofs.YtechphliifginaaGreatDoor

/- pma: tell; who hears of it; its bound form as a teller. -/
set_option linter.unusedVariables false
set_option linter.unusedSimpArgs false
namespace Go.Proofs.YtechphliifginaaGreatDoor
open Go.RowKit

/-- Who is told by a row: nobody, or a function value. J: what holds of the events; B: the blocks that it may turn. -/
structure Hear (tv : Value) (B : Nat → Prop) (J : List Ev → World → Prop) : Prop where
  fn : (tv = Value.nilFunc ∧ ∀ evs e w, J evs w → J (evs ++ [e]) w) ∨ ∃ g bnd cps, tv = .func (.func g) bnd cps ∧ Teller g bnd cps B J
  keep : ∀ evs w w' S, J evs w → Fr S w w' → (∀ k, S k → ¬ B k) → J evs w'
/-- The row's own struct, as it lies. -/
def TellJ (p : Nat) (s0 t0 tv : Value) (J : List Ev → World → Prop) (evs : List Ev) (w : World) : Prop := J evs w ∧ Has w p [s0, t0, tv] 95
def TellB (p : Nat) (B : Nat → Prop) (k : Nat) : Prop := B k ∨ k = p

set_option maxRecDepth 100000 in
theorem pmaTell_ok {tv : Value} {B : Nat → Prop} {J : List Ev → World → Prop} (T : Hear tv B J) {p : Nat} {s0 t0 : Value} (hp : ¬ B p) (evs : List Ev) (x i j : Int) (w : World) (H : TellJ p s0 t0 tv J evs w) :
    Calls Tryz.prog 75 #[.pointer (some ⟨p, 0, none⟩), .int .i64 x, .int .i64 i, .int .i64 j] w fun e w' => (∃ v, e = .returned v) ∧ TellJ p s0 t0 tv J (evs ++ [(x, i, j)]) w' ∧ Fr B w w' := by
  obtain ⟨hJ, hH⟩ := H
  obtain ⟨c0, c1, c2, cf⟩ := hH.three
  have HH := hid hH
  rcases T.fn with ⟨rfl, hn⟩ | ⟨g, bnd, cps, rfl, hT⟩
  · have HN := hid (hn evs (x, i, j) w hJ)
    clear T hJ hn hH
    have he : ∀ W : World, (binOp .neq 26 Value.nilFunc Value.nilFunc).run Tryz.prog W = .ok (.bool false) W := fun _ => rfl
    go_enter Tryz.func75, Tryz.ntmps75
    go_wp2_with fail
    refine bodyPost_end (results_none rfl _ _ _) rfl ?_
    exact ⟨⟨_, rfl⟩, ⟨HN.out, HH.out⟩, Fr.refl _ _⟩
  · have HC := hid (hT.call evs x i j w hJ)
    have hent : ∀ (args : Array Value) (W : World), Sem.run Tryz.prog (callFunc g args) W = .ok (.enter g args) W := hT.enters
    have he : ∀ W : World, (binOp .neq 26 (.func (.func g) bnd cps) Value.nilFunc).run Tryz.prog W = .ok (.bool true) W := fun _ => rfl
    have HP := hid hp
    clear T hJ hT hH hp
    go_enter Tryz.func75, Tryz.ntmps75
    go_wp2_with (go_at_fn g; refine HC.out.mono ?_; rintro e w2 ⟨⟨v, rfl⟩, hJ2, hF2⟩; have HJ2 := hid (And.intro hJ2 hF2); clear hJ2 hF2)
    refine bodyPost_end (results_none rfl _ _ _) rfl ?_
    exact ⟨⟨_, rfl⟩, ⟨HJ2.out.1, HH.out.fr' HJ2.out.2 HP.out⟩, HJ2.out.2⟩
/-- The bound method, handed on as a function value. -/
theorem tell_teller {tv : Value} {B : Nat → Prop} {J : List Ev → World → Prop} (T : Hear tv B J) {p : Nat} {s0 t0 : Value} (hp : ¬ B p) : Teller 75 #[.pointer (some ⟨p, 0, none⟩)] #[] (TellB p B) (TellJ p s0 t0 tv J) where
  enters := enters_of Tryz.func75 (by kernel_rfl) rfl
  call := fun evs x i j w H => (pmaTell_ok T hp evs x i j w H).mono fun e w' ⟨h1, h2, h3⟩ => ⟨h1, h2, h3.mono (fun _ _ h => .inl h)⟩
  keep := fun evs w w' S H hf hS => ⟨T.keep _ _ _ _ H.1 hf (fun k hk hb => hS k hk (.inl hb)), H.2.fr' hf (fun h => hS _ h (.inr rfl))⟩

/-- The window's follower: where the element of a slot is. -/
structure FolJ (p bs bp : Nat) (s0 t0 tv : Value) (J : List Ev → World → Prop) (sl : Int) (evs0 : List Ev) (evs : List Ev) (w : World) : Prop where
  tell : TellJ p s0 t0 tv J evs w
  bx : Has w bp [.pointer (some ⟨p, 0, none⟩)] 24
  ex : ∃ r, evs = evs0 ++ r ∧ Has w bs [.int .i64 (track sl r)] 3
def FolB (p bs bp : Nat) (B : Nat → Prop) (k : Nat) : Prop := TellB p B k ∨ k = bs ∨ k = bp
set_option maxRecDepth 100000 in
theorem pmaFollow_ok {tv : Value} {B : Nat → Prop} {J : List Ev → World → Prop} (T : Hear tv B J) {p bs bp : Nat} {s0 t0 : Value} {sl : Int} {evs0 : List Ev} (hp : ¬ B p) (hbs : ¬ B bs) (hbp : ¬ B bp) (gs : NG ≤ bs) (evs : List Ev) (x i j : Int) (w : World) (H : FolJ p bs bp s0 t0 tv J sl evs0 evs w) :
    Calls Tryz.prog 137 #[.int .i64 x, .int .i64 i, .int .i64 j, .pointer (some ⟨bs, 0, none⟩), .pointer (some ⟨bp, 0, none⟩)] w fun e w' => (∃ v, e = .returned v) ∧ FolJ p bs bp s0 t0 tv J sl evs0 (evs ++ [(x, i, j)]) w' ∧ Fr (FolB p bs bp B) w w' := by
  obtain ⟨r, rfl, hr⟩ := H.ex
  obtain ⟨b0, bf⟩ := hr.one
  obtain ⟨d0, df⟩ := H.bx.one
  have htr := track_append sl r (x, i, j)
  have nbp : bs ≠ bp := hr.ne H.bx (by decide)
  have nps : bs ≠ p := hr.ne H.tell.2 (by decide)
  have HH := hid H
  have HR := hid hr
  by_cases hi : i = track sl r
  · have ht : track sl (r ++ [(x, i, j)]) = j := by rw [htr]; exact if_pos hi
    have f1 : Fr (fun k => k = bs) w (w.setCell ⟨bs, 0, none⟩ (.int .i64 j)) := (Fr.refl _ _).setCell _ _ gs (fun _ => rfl)
    have hb1 := hr.set 0 (.int .i64 j)
    have HC := hid (pmaTell_ok (s0 := s0) (t0 := t0) T hp (evs0 ++ r) x i j (w.setCell ⟨bs, 0, none⟩ (.int .i64 j)) ⟨T.keep _ _ _ _ H.tell.1 f1 (fun k hk hb => hbs (hk ▸ hb)), H.tell.2.fr' f1 (fun e => nps e.symm)⟩)
    have HT := hid ht
    have HF := hid f1
    have HB := hid hb1
    have HN := hid (And.intro hbs hbp)
    have nbp' : bp ≠ bs := fun e => nbp e.symm
    clear T H hr htr ht f1 hb1 hbs hbp nps
    subst hi
    go_enter Tryz.func137, Tryz.ntmps137
    go_wp2_with (go_at_call 75; refine HC.out.mono ?_; rintro e w2 ⟨⟨v, rfl⟩, hJ2, hF2⟩; have HJ2 := hid (And.intro hJ2 hF2); clear hJ2 hF2)
    refine bodyPost_end (results_none rfl _ _ _) rfl ?_
    refine ⟨⟨_, rfl⟩, ⟨HJ2.out.1, (HH.out.bx.fr' HF.out nbp').fr' HJ2.out.2 HN.out.2, r ++ [(x, track sl r, j)], (List.append_assoc _ _ _), ?_⟩, ?_⟩
    · rw [HT.out]
      exact HB.out.fr' HJ2.out.2 HN.out.1
    · exact (HF.out.mono (fun _ _ h => .inr (.inl h))).trans' HJ2.out.2 (fun _ _ _ h => .inl (.inl h))
  · have ht : track sl (r ++ [(x, i, j)]) = track sl r := by rw [htr]; exact if_neg hi
    have hb : (i == track sl r) = false := beq_eq_false_iff_ne.2 hi
    have HC := hid (pmaTell_ok (s0 := s0) (t0 := t0) T hp (evs0 ++ r) x i j w H.tell)
    have HT := hid ht
    have HN := hid (And.intro hbs hbp)
    clear T H hr htr ht hbs hbp nps hi
    generalize track sl r = z at *
    go_enter Tryz.func137, Tryz.ntmps137
    go_wp2_with (go_at_call 75; refine HC.out.mono ?_; rintro e w2 ⟨⟨v, rfl⟩, hJ2, hF2⟩; have HJ2 := hid (And.intro hJ2 hF2); clear hJ2 hF2)
    refine bodyPost_end (results_none rfl _ _ _) rfl ?_
    refine ⟨⟨_, rfl⟩, ⟨HJ2.out.1, HH.out.bx.fr' HJ2.out.2 HN.out.2, r ++ [(x, i, j)], (List.append_assoc _ _ _), ?_⟩, ?_⟩
    · rw [HT.out]
      exact HR.out.fr' HJ2.out.2 HN.out.1
    · exact HJ2.out.2.mono (fun _ _ h => .inl (.inl h))
theorem follow_teller {tv : Value} {B : Nat → Prop} {J : List Ev → World → Prop} (T : Hear tv B J) {p bs bp : Nat} {s0 t0 : Value} {sl : Int} {evs0 : List Ev} (hp : ¬ B p) (hbs : ¬ B bs) (hbp : ¬ B bp) (gs : NG ≤ bs) :
    Teller 137 #[] #[.pointer (some ⟨bs, 0, none⟩), .pointer (some ⟨bp, 0, none⟩)] (FolB p bs bp B) (FolJ p bs bp s0 t0 tv J sl evs0) where
  enters := enters_of Tryz.func137 (by kernel_rfl) rfl
  call := fun evs x i j w H => pmaFollow_ok T hp hbs hbp gs evs x i j w H
  keep := fun evs w w' S H hf hS => ⟨⟨T.keep _ _ _ _ H.tell.1 hf (fun k hk hb => hS k hk (.inl (.inl hb))), H.tell.2.fr' hf (fun h => hS _ h (.inl (.inr rfl)))⟩, H.bx.fr' hf (fun h => hS _ h (.inr (.inr rfl))), by
    obtain ⟨r, h1, h2⟩ := H.ex
    exact ⟨r, h1, h2.fr' hf (fun h => hS _ h (.inr (.inl rfl)))⟩⟩
end Go.Proofs.YtechphliifginaaGreatDoor

/- pma: Nth, check, At, Len, Cap. -/
set_option linter.unusedVariables false
set_option linter.unusedSimpArgs false
namespace Go.Proofs.YtechphliifginaaGreatDoor
open Go.RowKit

theorem preI_cnts (σ : List (Option Int)) (n : Nat) (hl : σ.length = 8 * n) : ∀ k, k ≤ n → preI (cntsL σ) k = (cntOn (onOf σ) (8 * k) : Nat)
  | 0, _ => by rw [preI_zero]; rfl
  | k + 1, hk => by
    have e : σ.length / 8 = n := by omega
    rw [preI_succ _ _ (by rw [cntsL_length, e]; omega), preI_cnts σ n hl k (by omega), cntsL_getD _ _ (by omega), cntOn_seg]
    omega
theorem nxt_rank {on : Nat → Bool} {i r : Nat} (h1 : i ≤ r) (h : ∀ j, i ≤ j → j < r → on j = false) : cntOn on r = cntOn on i := by
  have := cntOn_gap on i (r - i) (fun k k1 k2 => h k k1 (by omega))
  rwa [show i + (r - i) = r by omega] at this

set_option maxRecDepth 100000 in
set_option maxHeartbeats 2000000 in
theorem pmaNth_ok {w : World} {F : PF} {σ : List (Option Int)} {h : Nat} {tv : Value} (H : PmaR w F σ h tv) (N : Nat) (hN : N < cntOn (onOf σ) σ.length) :
    Calls Tryz.prog 141 #[.pointer (some ⟨F.p, 0, none⟩), .int .i64 N] w fun e w' => ∃ p : Nat, e = .returned (.int .i64 p) ∧ w = w' ∧ onOf σ p = true ∧ cntOn (onOf σ) p = N := by
  have hz := p2_le H.h9
  have hz0 : 0 < 2 ^ h := Nat.pow_pos (by omega)
  have hp := preI_cnts σ (2 ^ h) H.len
  have hmx := H.sl.bits.n2
  have HF := hid (treeFind_ok H.tr (N : Int) (by omega) (by rw [hp (2 ^ h) (Nat.le_refl _), ← H.len]; omega))
  have HPre := hid hp
  have HNx := hid (fun (i : Int) (h0 : 0 ≤ i) => gapsNext_any H.sl i h0)
  have HL := hid H.len
  have HTot := hid hN
  obtain ⟨r0, r1, r2, rf⟩ := H.row.three
  clear H hp
  obtain ⟨L, hL⟩ : ∃ L, σ.length = L := ⟨_, rfl⟩
  rw [hL] at HNx hmx hN HTot HL
  have hN2 := cntOn_le (onOf σ) L
  clear hL
  have HFs := hid (HF.out.mono (fun e w' hh => show ∃ (s j : Nat), e = .returned (.tuple #[.int .i64 s, .int .i64 j, .int .i64 0]) ∧ w = w' ∧ Hid (s < 2 ^ h ∧ cntOn (onOf σ) (8 * s) + j = N ∧ N < cntOn (onOf σ) (8 * (s + 1))) from by
    obtain ⟨s, he, hw, h1, h2, h3⟩ := hh
    rw [HPre.out s (by omega)] at he h2
    rw [HPre.out (s + 1) (by omega)] at h3
    refine ⟨s, N - cntOn (onOf σ) (8 * s), ?_, hw, hid ⟨h1, by omega, by omega⟩⟩
    rw [he, show ((N - cntOn (onOf σ) (8 * s) : Nat) : Int) = (N : Int) - (cntOn (onOf σ) (8 * s) : Nat) by omega]))
  clear HF
  go_enter Tryz.func141, Tryz.ntmps141
  go_wp2_with (first
    | (go_at_call 165; refine HFs.out.mono ?_; rintro e w1 ⟨s, jj, rfl, rfl, HS⟩; have hs5 : (s : Int) < 512 := by have := HS.out.1; omega)
    | (go_at_call 133; refine (HNx.out (8 * (s : Int)) (by omega)).mono ?_; rintro e w1 ⟨rfl, rfl⟩))
  have hj9 : jj ≤ 4096 * 16 := by have := HS.out.2.1; omega
  go_loop [8, 31] (fun sl i => ∃ (k p : Nat), k ≤ jj ∧ i = .int .i64 k ∧ sl = .int .i64 p ∧ p < L ∧ Hid (onOf σ p = true ∧ cntOn (onOf σ) p = cntOn (onOf σ) (8 * s) + k)) (fun _ i => jj - (intOf i).toNat)
  case atStart =>
    rcases nxt_cases (onOf σ) L (8 * (s : Int)) with ⟨_, hno⟩ | ⟨r, hr, q1, q2, q3, q4⟩
    · exfalso
      have := cntOn_gap (onOf σ) (8 * s) (L - 8 * s) (fun k k1 k2 => hno k (by omega) (by omega))
      have hs8 : 8 * s + (L - 8 * s) = L := by have := HS.out.1; have := HL.out; omega
      rw [hs8] at this
      have h1 := HTot.out
      have h2 := HS.out.2.1
      omega
    · exact ⟨0, r, by omega, rfl, by rw [hr], q2, hid ⟨q3, by rw [nxt_rank (show 8 * s ≤ r by omega) (fun j j1 j2 => q4 j (by omega) j2)]; rfl⟩⟩
  case round =>
    obtain ⟨k, p, hk, rfl, rfl, hpL, HR⟩ := hrel
    by_cases hlt : k < jj
    · have hltI : (k : Int) < jj := by omega
      have hn1 := HNx.out ((p : Int) + 1) (by omega)
      have hex : ∃ r : Nat, nxt (onOf σ) L ((p : Int) + 1) = r ∧ r < L ∧ onOf σ r = true ∧ cntOn (onOf σ) r = cntOn (onOf σ) (8 * s) + (k + 1) := by
        have hp1 := cntOn_on _ _ HR.out.1
        rcases nxt_cases (onOf σ) L ((p : Int) + 1) with ⟨_, hno⟩ | ⟨r, hr, q1, q2, q3, q4⟩
        · exfalso
          have := cntOn_gap (onOf σ) (p + 1) (L - (p + 1)) (fun k k1 k2 => hno k (by omega) (by omega))
          rw [show p + 1 + (L - (p + 1)) = L by omega] at this
          have h1 := HTot.out
          have h2 := HS.out.2.1
          have h3 := HR.out.2
          omega
        · exact ⟨r, hr, q2, q3, by rw [nxt_rank (show p + 1 ≤ r by omega) (fun j j1 j2 => q4 j (by omega) j2), hp1, HR.out.2]; rfl⟩
      obtain ⟨r, hr, q2, q3, q4⟩ := hex
      rw [hr] at hn1
      have HN1 := hid hn1
      have HQ := hid (And.intro q3 q4)
      clear hn1 hr q3 q4
      go_wp2_with (go_at_call 133; refine HN1.out.mono ?_; rintro e w1 ⟨rfl, rfl⟩)
      go_round
      case rel => exact ⟨k + 1, r, by omega, by go_num, rfl, q2, HQ⟩
      case measure => simp [intOf]; omega
    · have hkj := hid (show k = jj by omega)
      go_wp2_with fail
      go_ret
      exact ⟨p, rfl, rfl, HR.out.1, by rw [HR.out.2, hkj.out]; exact HS.out.2.1⟩
theorem pmaNth_none {w : World} {F : PF} {σ : List (Option Int)} {h : Nat} {tv : Value} (H : PmaR w F σ h tv) (N : Int) (hN : N < 0 ∨ (cntOn (onOf σ) σ.length : Int) ≤ N) :
    Calls Tryz.prog 141 #[.pointer (some ⟨F.p, 0, none⟩), .int .i64 N] w fun e w' => e = .returned (.int .i64 (-1)) ∧ w = w' := by
  have hp := preI_cnts σ (2 ^ h) H.len
  have HF := hid (treeFind_none H.tr N (by rw [hp (2 ^ h) (Nat.le_refl _), ← H.len]; exact hN))
  obtain ⟨r0, r1, r2, rf⟩ := H.row.three
  clear H hp hN
  go_enter Tryz.func141, Tryz.ntmps141
  go_wp2_with (go_at_call 165; refine HF.out.mono ?_; rintro e w1 ⟨rfl, rfl⟩)
  go_ret
  exact ⟨rfl, rfl⟩

/-- What is wrong with a slot that has to be occupied. -/
def chkE (σ : List (Option Int)) (s : Int) : Int := if s < 0 ∨ (σ.length : Int) ≤ s then 10 else if atB σ s = true then 0 else 14
theorem pmaCheck_any {w : World} {F : PF} {σ : List (Option Int)} {h : Nat} {tv : Value} (H : PmaR w F σ h tv) (s : Int) :
    Calls Tryz.prog 73 #[.pointer (some ⟨F.p, 0, none⟩), .int .i64 s] w fun e w' => e = .returned (.int .i64 (chkE σ s)) ∧ w = w' := by
  have HC := hid (gapsCap_any H.sl)
  have HA := hid (gapsAt_any H.sl s)
  obtain ⟨r0, r1, r2, rf⟩ := H.row.three
  have HE : Hid (chkE σ s = if s < 0 ∨ (σ.length : Int) ≤ s then 10 else if atB σ s = true then 0 else 14) := hid rfl
  clear H
  generalize chkE σ s = E at *
  generalize atV σ s = av at *
  generalize atB σ s = ab at *
  generalize σ.length = L at *
  by_cases c1 : s < 0
  · have HE1 := hid (HE.out.trans (if_pos (.inl c1)))
    have d1 : decide (s < 0) = true := decide_eq_true c1
    go_enter Tryz.func73, Tryz.ntmps73
    go_wp2_with fail
    go_ret
    rw [HE1.out]
    exact ⟨rfl, rfl⟩
  · have d1 : decide (s < 0) = false := decide_eq_false c1
    by_cases c2 : (L : Int) ≤ s
    · have HE1 := hid (HE.out.trans (if_pos (.inr c2)))
      go_enter Tryz.func73, Tryz.ntmps73
      go_wp2_with (go_at_call 38; refine HC.out.mono ?_; rintro e w1 ⟨rfl, rfl⟩)
      go_ret
      rw [HE1.out]
      exact ⟨rfl, rfl⟩
    · have HE1 := hid (HE.out.trans (if_neg (by omega)))
      cases ab
      · go_enter Tryz.func73, Tryz.ntmps73
        go_wp2_with (first | (go_at_call 38; refine HC.out.mono ?_; rintro e w1 ⟨rfl, rfl⟩) | (go_at_call 39; refine HA.out.mono ?_; rintro e w1 ⟨rfl, rfl⟩))
        go_ret
        rw [HE1.out]
        exact ⟨rfl, rfl⟩
      · go_enter Tryz.func73, Tryz.ntmps73
        go_wp2_with (first | (go_at_call 38; refine HC.out.mono ?_; rintro e w1 ⟨rfl, rfl⟩) | (go_at_call 39; refine HA.out.mono ?_; rintro e w1 ⟨rfl, rfl⟩))
        go_ret
        rw [HE1.out]
        exact ⟨rfl, rfl⟩
theorem pmaLen_any {w : World} {F : PF} {σ : List (Option Int)} {h : Nat} {tv : Value} (H : PmaR w F σ h tv) :
    Calls Tryz.prog 125 #[.pointer (some ⟨F.p, 0, none⟩)] w fun e w' => e = .returned (.int .i64 (cntOn (onOf σ) σ.length : Nat)) ∧ w = w' := by
  have HA := hid (gapsLen_any H.sl)
  obtain ⟨r0, r1, r2, rf⟩ := H.row.three
  generalize cntOn (onOf σ) σ.length = z at *
  clear H
  go_enter Tryz.func125, Tryz.ntmps125
  go_wp2_with (go_at_call 78; refine HA.out.mono ?_; rintro e w1 ⟨rfl, rfl⟩)
  go_ret
  exact ⟨rfl, rfl⟩
theorem pmaCap_any {w : World} {F : PF} {σ : List (Option Int)} {h : Nat} {tv : Value} (H : PmaR w F σ h tv) :
    Calls Tryz.prog 30 #[.pointer (some ⟨F.p, 0, none⟩)] w fun e w' => e = .returned (.int .i64 (σ.length : Nat)) ∧ w = w' := by
  have HA := hid (gapsCap_any H.sl)
  obtain ⟨r0, r1, r2, rf⟩ := H.row.three
  generalize σ.length = z at *
  clear H
  go_enter Tryz.func30, Tryz.ntmps30
  go_wp2_with (go_at_call 38; refine HA.out.mono ?_; rintro e w1 ⟨rfl, rfl⟩)
  go_ret
  exact ⟨rfl, rfl⟩
end Go.Proofs.YtechphliifginaaGreatDoor
