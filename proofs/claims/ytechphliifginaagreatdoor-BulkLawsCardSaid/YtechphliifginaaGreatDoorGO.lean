/- In one: W7, W8, W9. -/
import Derived.Test.YtechphliifginaaGreatDoorGM
import Derived.Test.YtechphliifginaaGreatDoorGK
import Derived.Test.YtechphliifginaaGreatDoorGJ
import Derived.Test.YtechphliifginaaGreatDoorGH
import Derived.Deep.RegionHeld3
import Derived.Test.YtechphliifginaaGreatDoorGN
/- pma.step: a window that is spread. -/
set_option linter.unusedVariables false
set_option linter.unusedSimpArgs false
namespace Go.Proofs.YtechphliifginaaGreatDoor
open Go.RowKit

theorem RowI.rdc {w : World} {base : Nat} {v : Value} {xs : List Int} (h : RowI w base v xs) (hp : 0 < xs.length) : ∃ ad c, v = .slice (some ad) xs.length c ∧ RdC w ad c xs := by
  rcases h.2 with ⟨rfl, h0⟩ | ⟨g, cap, cur, rfl, hg, hh, h1, h2, h3, h4⟩
  · omega
  · exact ⟨⟨g, 0, none⟩, cap, rfl, h1, by have h := h2; unfold maxLen at h; omega, fun j u hu => h.cells (g := g) rfl j u hu⟩

theorem segC_same {σ τ : List (Option Int)} {k : Nat} (h : ∀ j, 8 * k ≤ j → j < 8 * (k + 1) → onOf σ j = onOf τ j) : segC σ k = segC τ k := by
  have := cntOn_same (onOf σ) (onOf τ) (8 * k) (cntOn (onOf τ) (8 * k)) (cntOn (onOf σ) (8 * k)) 8 (by omega) (fun j h1 h2 => h j h1 (by omega))
  have a := cntOn_seg σ k
  have b := cntOn_seg τ k
  rw [show 8 * (k + 1) = 8 * k + 8 by omega] at a b
  omega
/-- Counts of which k segments of a window are already those of τ'. -/
def csMid (τ τ' : List (Option Int)) (f k : Nat) : List Int := (List.range (τ.length / 8)).map fun j => if f ≤ j ∧ j < f + k then (segC τ' j : Int) else (segC τ j : Int)
theorem csMid_length (τ τ' : List (Option Int)) (f k : Nat) : (csMid τ τ' f k).length = τ.length / 8 := by simp [csMid]
theorem csMid_zero (τ τ' : List (Option Int)) (f : Nat) : csMid τ τ' f 0 = cntsL τ := by
  unfold csMid cntsL
  refine List.map_congr_left fun j _ => ?_
  rw [if_neg (by omega)]
theorem csMid_set (τ τ' : List (Option Int)) (f k : Nat) : (csMid τ τ' f k).set (f + k) (segC τ' (f + k) : Int) = csMid τ τ' f (k + 1) := by
  refine List.ext_getElem (by simp [csMid]) fun j h1 h2 => ?_
  rw [List.getElem_set]
  simp only [csMid, List.getElem_map, List.getElem_range]
  by_cases e : f + k = j
  · rw [if_pos e, if_pos (by omega), e]
  · rw [if_neg e]
    by_cases c : f ≤ j ∧ j < f + k
    · rw [if_pos c, if_pos (by omega)]
    · rw [if_neg c, if_neg (by omega)]
theorem csMid_done {τ τ' : List (Option Int)} {f S : Nat} {ps : List Int} (h : EvenR τ (8 * f) (8 * S) ps τ') : csMid τ τ' f S = cntsL τ' := by
  unfold csMid cntsL
  rw [h.len]
  refine List.map_congr_left fun j _ => ?_
  by_cases c : f ≤ j ∧ j < f + S
  · rw [if_pos c]
  · rw [if_neg c, segC_same (fun i h1 h2 => onOf_eq (h.out i (by omega)).symm)]

theorem findF_lt {xs : List Int} {seg h m : Nat} : ∀ f k, findF xs seg h f k = some m → m < k + f
  | 0, _, e => by unfold findF at e; exact absurd e (by simp)
  | f + 1, k, e => by
    unfold findF at e
    split at e
    · injection e with e; omega
    · have := findF_lt f (k + 1) e; omega
theorem lvl_le {xs : List Int} {seg h m : Nat} (e : lvl xs seg h = some m) : m ≤ h := by have := findF_lt _ _ e; omega

/-- What holds in the rounds of a step in a window. -/
structure StepW (w0 : World) (F : PF) (h : Nat) (tv : Value) (Q A : Nat) (f s c : Int) (B : Nat → Prop) (J : List Ev → World → Prop) (evs : List Ev) (sl : Int) (cs : List Int) (r : List Ev) (τ' : List (Option Int)) (wr : World) : Prop where
  pb : Has wr Q [.pointer (some ⟨F.p, 0, none⟩)] 24
  sb : Has wr (Q + 1) [.int .i64 (track sl r)] 3
  rb : Has wr (Q + 2) [.int .i64 0, .int .i64 0, .int .i64 0, .int .i64 0] 35
  st : Has wr A [.int .i64 1, .int .i64 f, .int .i64 s, .int .i64 c] 35
  row : Has wr F.p [.pointer (some ⟨F.sl.s, 0, none⟩), .pointer (some ⟨F.t, 0, none⟩), tv] 95
  sl : SlotsR wr F.sl τ'
  tr : TreeR wr F.t F.d h cs
  j : J (evs ++ r) wr
  fr : Fr (fun k => F.mem k ∨ B k) w0 wr

/-- One segment's count is set. -/
theorem StepW.step {w0 w1 wr : World} {F : PF} {h : Nat} {tv : Value} {Q A : Nat} {f s c : Int} {B : Nat → Prop} {J : List Ev → World → Prop} {evs : List Ev} {sl : Int} {cs cs' : List Int} {r : List Ev} {τ' : List (Option Int)}
    (H : StepW w0 F h tv Q A f s c B J evs sl cs r τ' wr) (hf : Fr (fun k => k = F.d) wr w1) (ht : TreeR w1 F.t F.d h cs') (T : Hear tv B J) (hd : ¬ B F.d) (n1 : Q ≠ F.d) (n2 : Q + 1 ≠ F.d) (n3 : Q + 2 ≠ F.d) (n4 : A ≠ F.d) (n5 : F.p ≠ F.d) (n6 : ¬ F.sl.mem F.d) :
    StepW w0 F h tv Q A f s c B J evs sl cs' r τ' w1 :=
  ⟨H.pb.fr' hf n1, H.sb.fr' hf n2, H.rb.fr' hf n3, H.st.fr' hf n4, H.row.fr' hf n5, H.sl.fr hf (fun k hk e => n6 (e ▸ hk)), ht, T.keep _ _ _ _ H.j hf (fun k hk hb => hd (hk ▸ hb)), H.fr.trans (hf.mono (fun _ _ e => .inl (.inr (.inr (.inr e)))))⟩
theorem StepW.new {w0 w1 wr : World} {F : PF} {h : Nat} {tv : Value} {Q A : Nat} {f s c : Int} {B : Nat → Prop} {J : List Ev → World → Prop} {evs : List Ev} {sl : Int} {cs : List Int} {r : List Ev} {τ' : List (Option Int)}
    (H : StepW w0 F h tv Q A f s c B J evs sl cs r τ' wr) (hf : Fr Nil1 wr w1) (T : Hear tv B J) : StepW w0 F h tv Q A f s c B J evs sl cs r τ' w1 :=
  ⟨H.pb.fr' hf id, H.sb.fr' hf id, H.rb.fr' hf id, H.st.fr' hf id, H.row.fr' hf id, H.sl.new hf, H.tr.new hf, T.keep _ _ _ _ H.j hf (fun _ h => h.elim), H.fr.trans (hf.mono (fun _ _ e => e.elim))⟩

set_option maxRecDepth 100000 in
set_option maxHeartbeats 4000000 in
theorem pmaStep_win {w : World} {F : PF} {τ : List (Option Int)} {h : Nat} {tv : Value} {B : Nat → Prop} {J : List Ev → World → Prop} {evs : List Ev} (H : PmaR w F τ h tv) (T : Hear tv B J) (hJ : J evs w)
    (hB : ∀ k, B k → ¬ F.mem k ∧ k < w.heap.size) (seg : Nat) (slot : Int) (hs : seg < 2 ^ h) {lv : Nat} (hlv : lvl (cntsL τ) seg h = some lv) :
    Calls Tryz.prog 77 #[.pointer (some ⟨F.p, 0, none⟩), .int .i64 seg, .int .i64 slot] w fun e w' => ∃ r τ', e = .returned (.tuple #[.int .i64 (track slot r), stV ⟨1, (winF seg lv : Nat), (2 ^ lv : Nat), 8 * (2 ^ h : Nat)⟩, .int .i64 0]) ∧
      Steps τ r τ' ∧ EvenR τ (8 * winF seg lv) (8 * 2 ^ lv) (plcL (winC τ (winF seg lv) (2 ^ lv)) (winF seg lv) (2 ^ lv)) τ' ∧ PmaR w' F τ' h tv ∧ J (evs ++ r) w' ∧ Fr (fun k => F.mem k ∨ B k) w w' := by
  have hG := H.sl.g.size
  have hz := p2_le H.h9
  have hz4 : 4 ≤ 2 ^ h := Nat.pow_le_pow_right (n := 2) (by omega) H.h2
  have hlh := lvl_le hlv
  obtain ⟨hw1, hw2⟩ := winF_in hlh hs
  have hcl : (cntsL τ).length = 2 ^ h := by rw [cntsL_length, H.len]; omega
  have hall : ∀ x ∈ cntsL τ, 0 ≤ x ∧ x ≤ 8 := by rw [cntsL_eq]; exact cntsW_mem _ _ _
  have hpk : pickS (cntsL τ) seg h = (⟨1, (winF seg lv : Nat), (2 ^ lv : Nat), 8 * (2 ^ h : Nat)⟩, 0) := by unfold pickS; rw [hlv, hcl]
  have hplt := H.lt
  obtain ⟨ap1, ap2, ap3, ap4, ap5⟩ := H.apart
  obtain ⟨Q, hQ⟩ : ∃ Q, w.heap.size = Q := ⟨_, rfl⟩
  have HMk := hid (show ∀ w0, (((w.alloc (.cells #[.pointer (some ⟨F.p, 0, none⟩)] 24)).alloc (.cells #[.int .i64 slot] 3)).alloc (.cells #[.int .i64 0, .int .i64 0, .int .i64 0, .int .i64 0] 35)) = w0 →
      Has w0 Q [.pointer (some ⟨F.p, 0, none⟩)] 24 ∧ Has w0 (Q + 1) [.int .i64 slot] 3 ∧ Has w0 (Q + 2) [.int .i64 0, .int .i64 0, .int .i64 0, .int .i64 0] 35 ∧ Fr Nil1 w w0 from by
    rintro w1 rfl
    have b1 := ((Has.new w [.pointer (some ⟨F.p, 0, none⟩)] 24).alloc (.cells #[.int .i64 slot] 3)).alloc (.cells #[.int .i64 0, .int .i64 0, .int .i64 0, .int .i64 0] 35)
    have b2 := (Has.new (w.alloc (.cells #[.pointer (some ⟨F.p, 0, none⟩)] 24)) [.int .i64 slot] 3).alloc (.cells #[.int .i64 0, .int .i64 0, .int .i64 0, .int .i64 0] 35)
    have b3 := Has.new ((w.alloc (.cells #[.pointer (some ⟨F.p, 0, none⟩)] 24)).alloc (.cells #[.int .i64 slot] 3)) [.int .i64 0, .int .i64 0, .int .i64 0, .int .i64 0] 35
    simp only [World.size_alloc] at b2 b3
    rw [hQ] at b1 b2 b3
    exact ⟨b1, b2, b3, (((Fr.refl _ _).alloc _).alloc _).alloc _⟩)
  have HCt := hid (fun w' (hf : Fr Nil1 w w') => (treeCounts_ok (H.tr.new hf) (by have := hf.size; omega)).mono (fun e w2 hh => show ∃ ad c, e = .returned (.slice (some ad) (2 ^ h) c) ∧ Hid (RdC w2 ad c (cntsL τ) ∧ Fr Nil1 w' w2) from by
    obtain ⟨v, rfl, h1, _, h3⟩ := hh
    obtain ⟨ad, c, rfl, h5⟩ := h1.rdc (by omega)
    exact ⟨ad, c, by rw [hcl], hid ⟨h5, h3⟩⟩))
  have HPk := hid (fun ad c w' (hf : Fr Nil1 w w') (hx : RdC w' ad c (cntsL τ)) => by
    have := pickPick_ok (cntsL τ) h seg ad c w' hx ⟨H.h2, H.h9, hcl, hall⟩ (by omega) (H.sl.g.fr hf)
    rw [hpk, hcl] at this
    exact this.mono (fun e w2 hh => show e = .returned (.tuple #[.agg #[.int .i64 1, .int .i64 (winF seg lv : Nat), .int .i64 (2 ^ lv : Nat), .int .i64 (8 * (2 ^ h : Nat))], .int .i64 0]) ∧ Fr Nil1 w' w2 from hh))
  have HRow := hid H.row
  have HSl := hid H.sl
  have HTr := hid H.tr
  have HPm := hid H
  have HT := hid T
  have HJ := hid hJ
  have HB := hid hB
  have hgp := H.gp
  have HEv := hid (fun w' (hf : Fr Nil1 w w') (b0 : Has w' Q [.pointer (some ⟨F.p, 0, none⟩)] 24) (b1 : Has w' (Q + 1) [.int .i64 slot] 3) =>
    rebalEven_ok (evs := evs) (follow_teller (p := F.p) (bs := Q + 1) (bp := Q) (s0 := .pointer (some ⟨F.sl.s, 0, none⟩)) (t0 := .pointer (some ⟨F.t, 0, none⟩)) (sl := slot) (evs0 := evs) T (fun hb => (hB _ hb).1 (.inl rfl)) (fun hb => by have := (hB _ hb).2; omega) (fun hb => by have := (hB _ hb).2; omega) (by omega)) (H.sl.new hf)
      ⟨⟨T.keep _ _ _ _ hJ hf (fun _ h => h.elim), H.row.fr' hf id⟩, b0, [], (List.append_nil _).symm, b1⟩
      (fun k hk => by
        have hq := hf.size
        have hb0 := b0.lt
        have hb1 := b1.lt
        have hs := H.sl.lt
        rcases hk with (hk | rfl) | rfl | rfl
        · exact ⟨fun hm => (hB k hk).1 (.inr (.inl hm)), by have := (hB k hk).2; omega⟩
        · exact ⟨ap1, by have := hplt _ (.inl rfl); omega⟩
        · exact ⟨fun hm => by have := hs _ hm; omega, hb1⟩
        · exact ⟨fun hm => by have := hs _ hm; omega, hb0⟩)
      (winF seg lv) (2 ^ lv) hw2 (by rw [H.len]; omega) (by omega))
  have hlen := H.len
  clear hpk hcl hall H T hJ hB hplt
  generalize winF seg lv = f at *
  generalize hS : 2 ^ lv = S at *
  have HCn := hid (fun τ' w' (hl : τ'.length = τ.length) (hs : SlotsR w' F.sl τ') => pmaCounts_ok hs f S hw2 (by rw [hl, hlen]; omega) (by omega))
  have HTs := hid (fun cs k (m : Int) w' (ht : TreeR w' F.t F.d h cs) (hk : f + k < 2 ^ h) (h0 : 0 ≤ m) (h8 : m ≤ 8) => by
    have := treeSet_ok ht (f + k) m hk h0 h8
    rw [Int.natCast_add] at this
    exact this)
  have HEn := hid (fun ps τ' => csMid_done (τ := τ) (τ' := τ') (f := f) (S := S) (ps := ps))
  have HLn := hid hlen
  generalize hZ : 2 ^ h = Z at *
  obtain ⟨r0, r1, r2, rf⟩ := HRow.out.three
  have hlp := HRow.out.lt
  have hlq : F.p < Q := by omega
  have hlq1 : F.p < Q + 1 := by omega
  have hlq2 : F.p < Q + 1 + 1 := by omega
  go_enter Tryz.func77, Tryz.ntmps77
  go_wp2_with (first
    | (go_at_call 82; refine (HCt.out _ (HMk.out _ rfl).2.2.2).mono ?_; rintro e w1 ⟨ad, c, rfl, H1⟩; obtain ⟨e0, e1, e2, F0⟩ := HMk.out _ rfl; have E0 := hid (And.intro (e0.fr' H1.out.2 id) (And.intro (e1.fr' H1.out.2 id) (And.intro (e2.fr' H1.out.2 id) (F0.trans H1.out.2)))); clear e0 e1 e2 F0)
    | (go_at_call 28; refine (HPk.out ad c _ E0.out.2.2.2 H1.out.1).mono ?_; rintro e w2 ⟨rfl, hF2⟩; have E2 := hid (And.intro (E0.out.1.fr' hF2 id) (And.intro (E0.out.2.1.fr' hF2 id) (And.intro (E0.out.2.2.1.fr' hF2 id) (E0.out.2.2.2.trans hF2)))); clear hF2; have y0 := E2.out.1.cell 0; have y1 := E2.out.2.1.cell 0; have yr := HRow.out.fr' E2.out.2.2.2 id; obtain ⟨z0, z1, z2, zf⟩ := yr.three; clear yr; have hq2 : Q + 2 < w2.heap.size := E2.out.2.2.1.lt)
    | fail)
  have hGq : NG ≤ w.heap.size := hG
  have hst : Has (w2.alloc (.cells #[.int .i64 1, .int .i64 f, .int .i64 S, .int .i64 (8 * (Z : Int))] 35)) w2.heap.size [.int .i64 1, .int .i64 f, .int .i64 S, .int .i64 (8 * (Z : Int))] 35 := Has.new w2 _ _
  have hfr : Fr Nil1 w2 (w2.alloc (.cells #[.int .i64 1, .int .i64 f, .int .i64 S, .int .i64 (8 * (Z : Int))] 35)) := (Fr.refl _ _).alloc _
  obtain ⟨W3, hW3⟩ : ∃ W3, (w2.alloc (.cells #[.int .i64 1, .int .i64 f, .int .i64 S, .int .i64 (8 * (Z : Int))] 35)) = W3 := ⟨_, rfl⟩
  rw [hW3] at hst hfr ⊢
  obtain ⟨A, hA⟩ : ∃ A, w2.heap.size = A := ⟨_, rfl⟩
  rw [hA] at hst ⊢
  have hF3 := E2.out.2.2.2.trans hfr
  have hP3 := E2.out.1.fr' hfr id
  have hS3 := E2.out.2.1.fr' hfr id
  have hR3 := E2.out.2.2.1.fr' hfr id
  have hr3 := HRow.out.fr' hF3 id
  obtain ⟨p0, pf⟩ := hP3.one
  obtain ⟨s0, s1, s2, s3, sf⟩ := hst.four
  obtain ⟨g0, g1, g2, gf⟩ := hr3.three
  have hAQ : Q + 2 < A := by omega
  have hd3 : Fr Nil1 W3 W3.drew := (Fr.refl _ _).drew
  have H3 := hid (And.intro (hP3.fr' hd3 id) (And.intro (hS3.fr' hd3 id) (And.intro (hR3.fr' hd3 id) (And.intro (hst.fr' hd3 id) (And.intro (hr3.fr' hd3 id) (hF3.trans hd3))))))
  have HAft := hid (fun w4 (hE : EvenW W3.drew F.sl τ (FolB F.p (Q + 1) Q B) (FolJ F.p (Q + 1) Q (.pointer (some ⟨F.sl.s, 0, none⟩)) (.pointer (some ⟨F.t, 0, none⟩)) tv J slot evs) evs f S w4) => show ∃ r τ', StepW w F h tv Q A f S (8 * (Z : Int)) B J evs slot (cntsL τ) r τ' w4 ∧ Steps τ r τ' ∧ EvenR τ (8 * f) (8 * S) (plcL (winC τ f S) f S) τ' from by
    obtain ⟨r, τ', q1, q2, q3, q4⟩ := hE.ex
    have hml := HPm.out.lt
    have hmem : ∀ k, F.mem k ∨ B k → k < Q := fun k hk => by
      rw [← hQ]
      rcases hk with hk | hk
      · exact hml k hk
      · exact (HB.out k hk).2
    have hcm : ∀ k, F.sl.chg k ∨ FolB F.p (Q + 1) Q B k → (F.mem k ∨ B k) ∨ k = Q + 1 ∨ k = Q := fun k hk => by
      rcases hk with hk | (hk | rfl) | rfl | rfl
      · exact .inl (.inl (.inr (.inl (SF.chg_mem hk))))
      · exact .inl (.inr hk)
      · exact .inl (.inl (.inl rfl))
      · exact .inr (.inl rfl)
      · exact .inr (.inr rfl)
    have htm : ∀ k, (k = F.t ∨ k = F.d) → ¬ (F.sl.chg k ∨ FolB F.p (Q + 1) Q B k) := fun k hk hh => by
      have hkF : F.mem k := by rcases hk with rfl | rfl; exact .inr (.inr (.inl rfl)); exact .inr (.inr (.inr rfl))
      have hkQ := hmem k (.inl hkF)
      rcases hh with hh | (hh | hh) | hh | hh
      · rcases hk with rfl | rfl
        · exact ap4 (SF.chg_mem hh)
        · exact ap5 (SF.chg_mem hh)
      · exact (HB.out k hh).1 hkF
      · rcases hk with rfl | rfl
        · exact ap2 hh.symm
        · exact ap3 hh.symm
      · omega
      · omega
    obtain ⟨r', e1, e2⟩ := q4.ex
    have e3 := List.append_cancel_left e1
    subst e3
    refine ⟨r, τ', ⟨q4.bx, e2, H3.out.2.2.1.fr' hE.fr (fun hh => ?_), H3.out.2.2.2.1.fr' hE.fr (fun hh => ?_), q4.tell.2, q3, (HTr.out.new H3.out.2.2.2.2.2).fr hE.fr (htm _ (.inl rfl)) (htm _ (.inr rfl)), q4.tell.1, ?_⟩, q1, q2⟩
    · rcases hcm _ hh with hh | hh | hh
      · have := hmem _ hh; omega
      · omega
      · omega
    · rcases hcm _ hh with hh | hh | hh
      · have := hmem _ hh; omega
      · omega
      · omega
    · refine (H3.out.2.2.2.2.2.mono (fun _ _ h => h.elim)).trans' hE.fr (fun j hj _ hh => ?_)
      rcases hcm _ hh with hh | hh | hh
      · exact hh
      · omega
      · omega)
  clear hP3 hS3 hR3 hst hr3 hF3 hfr E0 E2 y0 y1 z0 z1 z2 zf r0 r1 r2 rf hW3 hA hq2 hlq hlq1 hlq2 hd3
  go_region_held3 (fun w' => w'.cell? ⟨Q, 0, none⟩ = some (.pointer (some ⟨F.p, 0, none⟩)) ∧ w'.cell? ⟨F.p, 0, none⟩ = some (.pointer (some ⟨F.sl.s, 0, none⟩)) ∧ w'.cell? ⟨A, 1, none⟩ = some (.int .i64 f) ∧ w'.cell? ⟨A, 2, none⟩ = some (.int .i64 S)) (first | exact ⟨k0, k1, k2, k3⟩ | exact ⟨p0, g0, s1, s2⟩ | go_keep) (first | (go_at_call 138; refine (HEv.out W3.drew H3.out.2.2.2.2.2 H3.out.1 H3.out.2.1).mono ?_; rintro e w4 ⟨m, rfl, hE⟩; obtain ⟨r, τ', hSW, hst, hev⟩ := HAft.out w4 hE; have HSW := hid hSW; have HEV := hid (And.intro hst hev); have k0 := hSW.pb.cell 0; have k1 := hSW.row.cell 0; have k2 := hSW.st.cell 1; have k3 := hSW.st.cell 2; clear hE hSW hst hev))
  clear k0 k1 k2 k3 p0 g0 g1 g2 gf s0 s1 s2 s3 sf pf
  have HLt := hid (show τ'.length = τ.length from HEV.out.2.len)
  have kk0 := HSW.out.pb.cell 0
  have kk1 := HSW.out.row.cell 0
  have kk2 := HSW.out.st.cell 1
  have kk3 := HSW.out.st.cell 2
  go_wp2_with fail
  go_region_held3 (fun w' => w'.cell? ⟨Q, 0, none⟩ = some (.pointer (some ⟨F.p, 0, none⟩)) ∧ w'.cell? ⟨F.p, 0, none⟩ = some (.pointer (some ⟨F.sl.s, 0, none⟩)) ∧ w'.cell? ⟨A, 1, none⟩ = some (.int .i64 f) ∧ w'.cell? ⟨A, 2, none⟩ = some (.int .i64 S)) (first | exact ⟨k0, k1, k2, k3⟩ | exact ⟨kk0, kk1, kk2, kk3⟩ | go_keep) (first | (go_at_call 130; refine (HCn.out τ' w4.drew HLt.out (HSW.out.sl.new (Fr.refl _ _).drew)).mono ?_; rintro e w5 ⟨rfl, hR, hF5⟩; have hF := (Fr.refl Nil1 w4).drew.trans hF5; have HR := hid hR; have HF := hid hF; have k0 := (HSW.out.pb.fr' hF id).cell 0; have k1 := (HSW.out.row.fr' hF id).cell 0; have k2 := (HSW.out.st.fr' hF id).cell 1; have k3 := (HSW.out.st.fr' hF id).cell 2; clear hR hF5 hF))
  clear k0 k1 k2 k3 kk0 kk1 kk2 kk3
  obtain ⟨R, hRR⟩ : ∃ R, w4.drew.heap.size = R := ⟨_, rfl⟩
  have hR4 : A < R := by
    have := HSW.out.st.lt
    rw [← hRR]
    exact this
  have hdd : F.d < Q := by
    have := HPm.out.lt F.d (.inr (.inr (.inr rfl)))
    omega
  rw [hRR] at HR
  first | rw [hRR] | (rw [show w4.heap.size = R from hRR])
  have hpA : F.p < Q := by have := HRow.out.lt; omega
  have HdB := hid (show ¬ B F.d from fun hb => (HB.out _ hb).1 (.inr (.inr (.inr rfl))))
  have HW0 := hid (show StepW w F h tv Q A f S (8 * (Z : Int)) B J evs slot (csMid τ τ' f 0) r τ' w5 ∧ Has w5 R (ints' (cntsW τ' f S)) 3 from by
    rw [csMid_zero]
    exact ⟨HSW.out.new HF.out HT.out, HR.out⟩)
  have HcL := hid (cntsW_length τ' f S)
  have HcG := hid (fun k (hk : k < S) => cntsW_getD τ' f S k hk)
  have HsL := hid (fun k => segC_le τ' k)
  have HcS := hid (fun k => csMid_set τ τ' f k)
  clear hRR HR
  go_wp2_with fail
  go_loopw [6, 8, 14, 15, 16, 71] (fun _ _ _ _ _ i wr => ∃ k : Nat, k ≤ S ∧ i = .int .i64 k ∧ Hid (StepW w F h tv Q A f S (8 * (Z : Int)) B J evs slot (csMid τ τ' f k) r τ' wr ∧ Has wr R (ints' (cntsW τ' f S)) 3)) (fun _ _ _ _ _ i _ => S - (intOf i).toNat)
  case atStart => exact ⟨0, by omega, rfl, HW0⟩
  case round =>
    obtain ⟨k, hk, rfl, HW⟩ := hrel
    have kk0 := HW.out.1.pb.cell 0
    by_cases hlt : k < S
    · have hltI : (k : Int) < S := by omega
      have c0 := HW.out.2.cell k
      rw [ints'_get _ _ (by rw [HcL.out]; exact hlt), HcG.out k hlt] at c0
      have hs8 := HsL.out (f + k)
      have HSt := hid (HTs.out (csMid τ τ' f k) k (segC τ' (f + k) : Nat) wr.drew (HW.out.1.tr.new (Fr.refl _ _).drew) (by omega) (by omega) (by omega))
      have e1 := HcS.out k
      rw [e1] at HSt
      clear e1
      obtain ⟨sc, hsc⟩ : ∃ sc, segC τ' (f + k) = sc := ⟨_, rfl⟩
      rw [hsc] at c0 HSt
      have kk1 := HW.out.1.row.cell 1
      have kk2 := HW.out.1.st.cell 1
      have v1 : IntKind.i64.wrap ((f : Int) + k) = (f : Int) + k := IntWalk.i64_in _ (by omega)
      go_wp2_with fail
      go_region_held3 (fun w' => w'.cell? ⟨Q, 0, none⟩ = some (.pointer (some ⟨F.p, 0, none⟩)) ∧ w'.cell? ⟨F.p, 1, none⟩ = some (.pointer (some ⟨F.t, 0, none⟩)) ∧ w'.cell? ⟨A, 1, none⟩ = some (.int .i64 f)) (first | exact ⟨k0, k1, k2⟩ | exact ⟨kk0, kk1, kk2⟩ | go_keep) (first | (go_at_call 139; refine HSt.out.mono ?_; rintro e w6 ⟨rfl, hT6, hF6⟩; have hWn := (HW.out.1.new (Fr.refl Nil1 wr).drew HT.out).step hF6 hT6 HT.out HdB.out (by omega) (by omega) (by omega) (by omega) ap3 ap5; have HWn := hid hWn; have hrow := (HW.out.2.fr' (Fr.refl Nil1 wr).drew id).fr' hF6 (by omega); have Hrow := hid hrow; have k0 := hWn.pb.cell 0; have k1 := hWn.row.cell 1; have k2 := hWn.st.cell 1; clear hT6 hF6 hWn hrow))
      go_wp2_with fail
      exact ⟨⟨k + 1, by omega, by go_num, hid ⟨HWn.out, Hrow.out⟩⟩, by simp [intOf]; omega⟩
    · have hks := hid (show k = S by omega)
      go_wp2_with fail
      have kk1 := HW.out.1.sb.cell 0
      obtain ⟨s0, s1, s2, s3, sf⟩ := HW.out.1.st.four
      have hrb : Has wr (Q + 1 + 1) [.int .i64 0, .int .i64 0, .int .i64 0, .int .i64 0] 35 := HW.out.1.rb
      have HRb := hid hrb
      obtain ⟨b0, b1, b2, b3, bf⟩ := hrb.four
      have n1 : Q + 1 ≠ Q + 1 + 1 := by omega
      have n2 : A ≠ Q + 1 + 1 := by omega
      have n3 : Q + 1 + 1 ≠ A := by omega
      have n4 : Q + 1 + 1 ≠ Q + 1 := by omega
      clear hrb
      generalize htk : track slot r = tk at *
      go_region_held3 (fun w' => w'.cell? ⟨Q + 1, 0, none⟩ = some (.int .i64 tk) ∧ w'.cell? ⟨A, 0, none⟩ = some (.int .i64 1) ∧ w'.cell? ⟨A, 1, none⟩ = some (.int .i64 f) ∧ w'.cell? ⟨A, 2, none⟩ = some (.int .i64 S) ∧ w'.cell? ⟨A, 3, none⟩ = some (.int .i64 (8 * (Z : Int)))) (go_keep) (fail)
      go_wp2_with fail
      have hRF : Has ((((wr.setCell ⟨Q + 1 + 1, 0, none⟩ (.int .i64 1)).setCell ⟨Q + 1 + 1, 1, none⟩ (.int .i64 f)).setCell ⟨Q + 1 + 1, 2, none⟩ (.int .i64 S)).setCell ⟨Q + 1 + 1, 3, none⟩ (.int .i64 (8 * (Z : Int)))).drew (Q + 1 + 1) [.int .i64 1, .int .i64 f, .int .i64 S, .int .i64 (8 * (Z : Int))] 35 := (HRb.out.set4 (.int .i64 1) (.int .i64 f) (.int .i64 S) (.int .i64 (8 * (Z : Int)))).fr' (Fr.refl Nil1 _).drew id
      have gq : NG ≤ Q + 1 + 1 := by omega
      have hFF : Fr (fun k => k = Q + 1 + 1) wr ((((wr.setCell ⟨Q + 1 + 1, 0, none⟩ (.int .i64 1)).setCell ⟨Q + 1 + 1, 1, none⟩ (.int .i64 f)).setCell ⟨Q + 1 + 1, 2, none⟩ (.int .i64 S)).setCell ⟨Q + 1 + 1, 3, none⟩ (.int .i64 (8 * (Z : Int)))).drew := (((((Fr.refl (fun k => k = Q + 1 + 1) wr).setCell ⟨Q + 1 + 1, 0, none⟩ (.int .i64 1) gq (fun _ => rfl)).setCell ⟨Q + 1 + 1, 1, none⟩ (.int .i64 f) gq (fun _ => rfl)).setCell ⟨Q + 1 + 1, 2, none⟩ (.int .i64 S) gq (fun _ => rfl)).setCell ⟨Q + 1 + 1, 3, none⟩ (.int .i64 (8 * (Z : Int))) gq (fun _ => rfl)).drew
      obtain ⟨WF, hWF⟩ : ∃ WF, ((((wr.setCell ⟨Q + 1 + 1, 0, none⟩ (.int .i64 1)).setCell ⟨Q + 1 + 1, 1, none⟩ (.int .i64 f)).setCell ⟨Q + 1 + 1, 2, none⟩ (.int .i64 S)).setCell ⟨Q + 1 + 1, 3, none⟩ (.int .i64 (8 * (Z : Int)))).drew = WF := ⟨_, rfl⟩
      rw [hWF] at hRF hFF ⊢
      obtain ⟨z0, z1, z2, z3, zf⟩ := hRF.four
      refine bodyPost_ret (v := .tuple #[.int .i64 tk, .agg #[.int .i64 1, .int .i64 f, .int .i64 S, .int .i64 (8 * (Z : Int))], .int .i64 0]) (by simp [results, Tryz.f77, go_sem, z0, z1, z2, z3]) rfl ?_
      have hm : ∀ k, F.mem k → ¬ k = Q + 1 + 1 := fun k hk e => by have := HPm.out.lt k hk; omega
      refine ⟨r, τ', by rw [htk]; rfl, HEV.out.1, HEV.out.2, ⟨hgp, HPm.out.h2, HPm.out.h9, ?_, HW.out.1.row.fr' hFF (hm _ (.inl rfl)), HW.out.1.sl.fr hFF (fun k hk => hm k (.inr (.inl hk))), ?_, HPm.out.ne⟩, HT.out.keep _ _ _ _ HW.out.1.j hFF (fun k hk hb => by have := (HB.out k hb).2; omega), ?_⟩
      · rw [HLt.out, HPm.out.len]
      · have ht := HW.out.1.tr
        rw [hks.out, HEn.out _ _ HEV.out.2] at ht
        exact ht.fr hFF (hm _ (.inr (.inr (.inl rfl)))) (hm _ (.inr (.inr (.inr rfl))))
      · exact HW.out.1.fr.trans' hFF (fun j hj _ e => by omega)
end Go.Proofs.YtechphliifginaaGreatDoor

/- pma.step: the array is laid anew. -/
set_option linter.unusedVariables false
set_option linter.unusedSimpArgs false
namespace Go.Proofs.YtechphliifginaaGreatDoor
open Go.RowKit

theorem max_two (a : Array TypeId) (t : TypeId) (x y : Int) : Builtin.max_ a t #[.int .i64 x, .int .i64 y] = pure (.int .i64 (max x y)) := by
  have : (if y > x then y else x) = max x y := by omega
  show (do let v ← pure (Value.int .i64 (if y > x then y else x)); pure v) = _
  rw [this]
  rfl
attribute [local go_sem] max_two
/-- The boxes of a step. -/
structure Boxes (w : World) (Q A p : Nat) (sl : Int) (kd f s c : Int) : Prop where
  pb : Has w Q [.pointer (some ⟨p, 0, none⟩)] 24
  sb : Has w (Q + 1) [.int .i64 sl] 3
  rb : Has w (Q + 2) [.int .i64 0, .int .i64 0, .int .i64 0, .int .i64 0] 35
  st : Has w A [.int .i64 kd, .int .i64 f, .int .i64 s, .int .i64 c] 35
theorem Boxes.fr {w w' : World} {Q A p : Nat} {sl kd f s c : Int} {S : Nat → Prop} (H : Boxes w Q A p sl kd f s c) (hf : Fr S w w') (hS : ∀ k, k = Q ∨ k = Q + 1 ∨ k = Q + 2 ∨ k = A → ¬ S k) : Boxes w' Q A p sl kd f s c :=
  ⟨H.pb.fr' hf (hS _ (.inl rfl)), H.sb.fr' hf (hS _ (.inr (.inl rfl))), H.rb.fr' hf (hS _ (.inr (.inr (.inl rfl)))), H.st.fr' hf (hS _ (.inr (.inr (.inr rfl))))⟩

set_option maxRecDepth 100000 in
set_option maxHeartbeats 4000000 in
theorem pmaStep_grow {w : World} {F : PF} {τ : List (Option Int)} {h : Nat} {tv : Value} {B : Nat → Prop} {J : List Ev → World → Prop} {evs : List Ev} (H : PmaR w F τ h tv) (T : Hear tv B J) (hJ : J evs w)
    (hB : ∀ k, B k → ¬ F.mem k ∧ k < w.heap.size ∧ NG ≤ k) (seg : Nat) (slot : Int) (hs : seg < 2 ^ h) (hsl : slot ≤ τ.length) {h' : Nat} (h2' : 2 ≤ h') (h9' : h' ≤ 9) (hfit : (occ τ).length ≤ 8 * 2 ^ h')
    (hpk : pickS (cntsL τ) seg h = (⟨2, 0, (2 ^ h' : Nat), (8 * 2 ^ h' : Nat)⟩, 0)) :
    Calls Tryz.prog 77 #[.pointer (some ⟨F.p, 0, none⟩), .int .i64 seg, .int .i64 slot] w fun e w' => ∃ (v : Int) (F' : PF) (τ' : List (Option Int)), e = .returned (.tuple #[.int .i64 v, stV ⟨2, 0, (2 ^ h' : Nat), (8 * 2 ^ h' : Nat)⟩, .int .i64 0]) ∧
      LaidR (its τ) (2 ^ h') τ' ∧ F'.p = F.p ∧ PmaR w' F' τ' h' tv ∧ J (evs ++ resEv (plcL (occ τ).length 0 (2 ^ h')) (occ τ)) w' ∧ Fr (fun k => F.mem k ∨ B k) w w' ∧ (∀ k, F'.mem k → k = F.p ∨ w.heap.size ≤ k) ∧
      (cntOn (onOf τ) slot.toNat < (occ τ).length → ∃ p : Nat, v = p ∧ onOf τ' p = true ∧ cntOn (onOf τ') p = cntOn (onOf τ) slot.toNat) := by
  have hG := H.sl.g.size
  have hz := p2_le H.h9
  have hz4 : 4 ≤ 2 ^ h := Nat.pow_le_pow_right (n := 2) (by omega) H.h2
  have hz4' : 4 ≤ 2 ^ h' := Nat.pow_le_pow_right (n := 2) (by omega) h2'
  have hz' := p2_le h9'
  have hcl : (cntsL τ).length = 2 ^ h := by rw [cntsL_length, H.len]; omega
  have hall : ∀ x ∈ cntsL τ, 0 ≤ x ∧ x ≤ 8 := by rw [cntsL_eq]; exact cntsW_mem _ _ _
  have hplt := H.lt
  obtain ⟨ap1, ap2, ap3, ap4, ap5⟩ := H.apart
  obtain ⟨Q, hQ⟩ : ∃ Q, w.heap.size = Q := ⟨_, rfl⟩
  have HMk := hid (show ∀ w0, (((w.alloc (.cells #[.pointer (some ⟨F.p, 0, none⟩)] 24)).alloc (.cells #[.int .i64 slot] 3)).alloc (.cells #[.int .i64 0, .int .i64 0, .int .i64 0, .int .i64 0] 35)) = w0 →
      Has w0 Q [.pointer (some ⟨F.p, 0, none⟩)] 24 ∧ Has w0 (Q + 1) [.int .i64 slot] 3 ∧ Has w0 (Q + 2) [.int .i64 0, .int .i64 0, .int .i64 0, .int .i64 0] 35 ∧ Fr Nil1 w w0 from by
    rintro w1 rfl
    have b1 := ((Has.new w [.pointer (some ⟨F.p, 0, none⟩)] 24).alloc (.cells #[.int .i64 slot] 3)).alloc (.cells #[.int .i64 0, .int .i64 0, .int .i64 0, .int .i64 0] 35)
    have b2 := (Has.new (w.alloc (.cells #[.pointer (some ⟨F.p, 0, none⟩)] 24)) [.int .i64 slot] 3).alloc (.cells #[.int .i64 0, .int .i64 0, .int .i64 0, .int .i64 0] 35)
    have b3 := Has.new ((w.alloc (.cells #[.pointer (some ⟨F.p, 0, none⟩)] 24)).alloc (.cells #[.int .i64 slot] 3)) [.int .i64 0, .int .i64 0, .int .i64 0, .int .i64 0] 35
    simp only [World.size_alloc] at b2 b3
    rw [hQ] at b1 b2 b3
    exact ⟨b1, b2, b3, (((Fr.refl _ _).alloc _).alloc _).alloc _⟩)
  have HCt := hid (fun w' (hf : Fr Nil1 w w') => (treeCounts_ok (H.tr.new hf) (by have := hf.size; omega)).mono (fun e w2 hh => show ∃ ad c, e = .returned (.slice (some ad) (2 ^ h) c) ∧ Hid (RdC w2 ad c (cntsL τ) ∧ Fr Nil1 w' w2) from by
    obtain ⟨v, rfl, h1, _, h3⟩ := hh
    obtain ⟨ad, c, rfl, h5⟩ := h1.rdc (by omega)
    exact ⟨ad, c, by rw [hcl], hid ⟨h5, h3⟩⟩))
  have HPk := hid (fun ad c w' (hf : Fr Nil1 w w') (hx : RdC w' ad c (cntsL τ)) => by
    have := pickPick_ok (cntsL τ) h seg ad c w' hx ⟨H.h2, H.h9, hcl, hall⟩ (by omega) (H.sl.g.fr hf)
    rw [hpk, hcl] at this
    exact this.mono (fun e w2 hh => show e = .returned (.tuple #[.agg #[.int .i64 2, .int .i64 0, .int .i64 (2 ^ h' : Nat), .int .i64 (8 * 2 ^ h' : Nat)], .int .i64 0]) ∧ Fr Nil1 w' w2 from hh))
  have HRow := hid H.row
  have HSl := hid H.sl
  have HTr := hid H.tr
  have HPm := hid H
  have HT := hid T
  have HJ := hid hJ
  have HB := hid hB
  have hgp := H.gp
  have HCt' := HCt
  have HCo := hid (fun w' (hf : Fr Nil1 w w') => show Calls Tryz.prog 116 #[.pointer (some ⟨F.sl.s, 0, none⟩), .int .i64 0, .int .i64 (max slot 0)] w' fun e w'' => e = .returned (.tuple #[.int .i64 (cntOn (onOf τ) slot.toNat : Nat), .int .i64 0]) ∧ w' = w'' from by
    have := gapsCount_any (H.sl.new hf) 0 (max slot 0) (Int.le_refl 0) (by omega) (by omega)
    rw [show (max slot 0).toNat = slot.toNat by omega, show cntOn (onOf τ) slot.toNat - cntOn (onOf τ) (0 : Int).toNat = cntOn (onOf τ) slot.toNat from Nat.sub_zero _] at this
    exact this)
  have HRs := hid (fun w' (hf : Fr Nil1 w w') => sizeResize_ok (evs := evs) (tell_teller (p := F.p) (s0 := .pointer (some ⟨F.sl.s, 0, none⟩)) (t0 := .pointer (some ⟨F.t, 0, none⟩)) T (fun hb => (hB _ hb).1 (.inl rfl))) (H.sl.new hf)
      ⟨T.keep _ _ _ _ hJ hf (fun _ h => h.elim), H.row.fr' hf id⟩
      (fun k hk => by
        have hq := hf.size
        rcases hk with hk | rfl
        · exact ⟨fun hm => (hB k hk).1 (.inr (.inl hm)), by have := (hB k hk).2; omega, (hB k hk).2.2⟩
        · exact ⟨ap1, by have := hplt _ (.inl rfl); omega, H.gp⟩)
      h' h2' h9' hfit)
  have HMay := hid (fun w' => levelMay_any ((8 * 2 ^ h' : Nat) : Int) w')
  rw [mayB_pow h2' h9'] at HMay
  have HTot := hid (show (occ τ).length = cntOn (onOf τ) τ.length from by rw [← its_length]; simp [its])
  have hcm := cntOn_le (onOf τ) slot.toNat
  have hlen := H.len
  clear hpk hcl hall H T hJ hB hplt
  obtain ⟨N, hN⟩ : ∃ N, cntOn (onOf τ) slot.toNat = N := ⟨_, rfl⟩
  rw [hN] at HCo hcm ⊢
  have HUse := hid (fun (f2 : SF) τ' w' (hL : LaidR (its τ) (2 ^ h') τ') (hs : SlotsR w' f2 τ') (hr : Has w' F.p [.pointer (some ⟨F.sl.s, 0, none⟩), .pointer (some ⟨F.t, 0, none⟩), tv] 95) => pmaUse_ok hs h2' h9' hL.len hr hgp ⟨_, rfl⟩ ⟨_, rfl⟩)
  have HNth := hid (fun (F' : PF) τ' w' (hp : PmaR w' F' τ' h' tv) (hL : LaidR (its τ) (2 ^ h') τ') => show Calls Tryz.prog 141 #[.pointer (some ⟨F'.p, 0, none⟩), .int .i64 N] w' fun e w'' => ∃ v : Int, e = .returned (.int .i64 v) ∧ w' = w'' ∧ (N < (occ τ).length → ∃ p : Nat, v = p ∧ onOf τ' p = true ∧ cntOn (onOf τ') p = N) from by
    have hc : cntOn (onOf τ') τ'.length = (occ τ).length := by rw [← its_length, hL.items]; simp [its]
    by_cases hlt : N < (occ τ).length
    · refine (pmaNth_ok hp N (by rw [hc]; exact hlt)).mono ?_
      rintro e w'' ⟨p, rfl, hw, h3, h4⟩
      exact ⟨p, rfl, hw, fun _ => ⟨p, rfl, h3, h4⟩⟩
    · refine (pmaNth_none hp N (.inr (by rw [hc]; omega))).mono ?_
      rintro e w'' ⟨rfl, hw⟩
      exact ⟨-1, rfl, hw, fun h => absurd h hlt⟩)
  obtain ⟨Z', hZ'⟩ : ∃ Z', 2 ^ h' = Z' := ⟨_, rfl⟩
  rw [hZ'] at HPk HRs HMay HUse HNth ⊢
  obtain ⟨C, hC⟩ : ∃ C : Int, ((8 * Z' : Nat) : Int) = C := ⟨_, rfl⟩
  rw [hC] at HPk HRs HMay ⊢
  generalize hZ : 2 ^ h = Z at *
  obtain ⟨r0, r1, r2, rf⟩ := HRow.out.three
  have hlp := HRow.out.lt
  have hlq : F.p < Q := by omega
  have hlq1 : F.p < Q + 1 := by omega
  have hlq2 : F.p < Q + 1 + 1 := by omega
  go_enter Tryz.func77, Tryz.ntmps77
  go_wp2_with (first
    | (go_at_call 82; refine (HCt.out _ (HMk.out _ rfl).2.2.2).mono ?_; rintro e w1 ⟨ad, c, rfl, H1⟩; obtain ⟨e0, e1, e2, F0⟩ := HMk.out _ rfl; have E0 := hid (And.intro (e0.fr' H1.out.2 id) (And.intro (e1.fr' H1.out.2 id) (And.intro (e2.fr' H1.out.2 id) (F0.trans H1.out.2)))); clear e0 e1 e2 F0)
    | (go_at_call 28; refine (HPk.out ad c _ E0.out.2.2.2 H1.out.1).mono ?_; rintro e w2 ⟨rfl, hF2⟩; have E2 := hid (And.intro (E0.out.1.fr' hF2 id) (And.intro (E0.out.2.1.fr' hF2 id) (And.intro (E0.out.2.2.1.fr' hF2 id) (E0.out.2.2.2.trans hF2)))); clear hF2; have y0 := E2.out.1.cell 0; have y1 := E2.out.2.1.cell 0; have yr := HRow.out.fr' E2.out.2.2.2 id; obtain ⟨z0, z1, z2, zf⟩ := yr.three; clear yr; have hq2 : Q + 2 < w2.heap.size := E2.out.2.2.1.lt)
    | fail)
  have hGq : NG ≤ w.heap.size := hG
  have hst : Has (w2.alloc (.cells #[.int .i64 2, .int .i64 0, .int .i64 Z', .int .i64 C] 35)) w2.heap.size [.int .i64 2, .int .i64 0, .int .i64 Z', .int .i64 C] 35 := Has.new w2 _ _
  have hfr : Fr Nil1 w2 (w2.alloc (.cells #[.int .i64 2, .int .i64 0, .int .i64 Z', .int .i64 C] 35)) := (Fr.refl _ _).alloc _
  obtain ⟨W3, hW3⟩ : ∃ W3, (w2.alloc (.cells #[.int .i64 2, .int .i64 0, .int .i64 Z', .int .i64 C] 35)) = W3 := ⟨_, rfl⟩
  rw [hW3] at hst hfr ⊢
  obtain ⟨A, hA⟩ : ∃ A, w2.heap.size = A := ⟨_, rfl⟩
  rw [hA] at hst ⊢
  have hF3 := E2.out.2.2.2.trans hfr
  have hbx : Boxes W3 Q A F.p slot 2 0 Z' C := ⟨E2.out.1.fr' hfr id, E2.out.2.1.fr' hfr id, E2.out.2.2.1.fr' hfr id, hst⟩
  have HBx := hid hbx
  have HF3 := hid hF3
  have HR3 := hid (HRow.out.fr' hF3 id)
  have hAQ : Q + 2 < A := by omega
  have hlm := HPm.out.lt
  have hmem : ∀ k, F.mem k ∨ B k → k < Q := fun k hk => by
    rw [← hQ]
    rcases hk with hk | hk
    · exact hlm k hk
    · exact (HB.out k hk).2.1
  have HMem := hid hmem
  have HQB := hid (show ∀ k, k = Q ∨ k = Q + 1 ∨ k = Q + 2 ∨ k = A → ¬ TellB F.p B k from fun k hk hh => by
    rcases hh with hh | rfl
    · have := hmem k (.inr hh); omega
    · have := hmem F.p (.inl (.inl rfl)); omega)
  clear hbx hF3 hst hfr E0 E2 y0 y1 z0 z1 z2 zf r0 r1 r2 rf hW3 hA hq2 hlq hlq1 hlq2 hlm hmem
  have kk0 := HBx.out.pb.cell 0
  have kk1 := HR3.out.cell 0
  have kk2 := HBx.out.sb.cell 0
  go_region_held3 (fun w' => w'.cell? ⟨Q, 0, none⟩ = some (.pointer (some ⟨F.p, 0, none⟩)) ∧ w'.cell? ⟨F.p, 0, none⟩ = some (.pointer (some ⟨F.sl.s, 0, none⟩)) ∧ w'.cell? ⟨Q + 1, 0, none⟩ = some (.int .i64 slot)) (first | exact ⟨kk0, kk1, kk2⟩ | go_keep) (first | (go_at_call 116; refine (HCo.out W3.drew (HF3.out.trans (Fr.refl _ _).drew)).mono ?_; rintro e w3 ⟨rfl, rfl⟩))
  go_wp2_with fail
  have HBx2 := hid (HBx.out.fr (Fr.refl Nil1 W3).drew (fun _ _ h => h))
  have HF32 := hid (HF3.out.trans (Fr.refl Nil1 W3).drew)
  have HR32 := hid (HR3.out.fr' (Fr.refl Nil1 W3).drew id)
  obtain ⟨W4, hW4⟩ : ∃ W4, W3.drew = W4 := ⟨_, rfl⟩
  rw [hW4] at HBx2 HF32 HR32 ⊢
  clear HBx HF3 HR3 kk0 kk1 kk2 hW4
  have kk0 := HBx2.out.pb.cell 0
  have kk1 := HR32.out.cell 0
  have kk2 := HBx2.out.st.cell 3
  go_region_held3 (fun w' => w'.cell? ⟨Q, 0, none⟩ = some (.pointer (some ⟨F.p, 0, none⟩)) ∧ w'.cell? ⟨F.p, 0, none⟩ = some (.pointer (some ⟨F.sl.s, 0, none⟩)) ∧ w'.cell? ⟨A, 3, none⟩ = some (.int .i64 C)) (first | exact ⟨kk0, kk1, kk2⟩ | exact ⟨k0, k1, k2⟩ | go_keep) (first | (go_at_call 140; refine (HRs.out W4.drew (HF32.out.trans (Fr.refl _ _).drew)).mono ?_; rintro e w5 ⟨f2, rfl, ⟨τ', hL, hSl⟩, hT5, hF5, hf2⟩; have hF := (Fr.refl (TellB F.p B) W4).drew.trans hF5; have hbx := HBx2.out.fr hF HQB.out; have HBx3 := hid hbx; have H5 := hid (And.intro hL (And.intro hSl (And.intro hT5 (And.intro hF hf2)))); have k0 := hbx.pb.cell 0; have k1 := hT5.2.cell 0; have k2 := hbx.st.cell 3; clear hL hSl hT5 hF5 hf2 hF hbx))
  go_wp2_with (go_at_call 70; refine (HUse.out f2 τ' w5 H5.out.1 H5.out.2.1 H5.out.2.2.1.2).mono ?_; rintro e w6 ⟨⟨v6, rfl⟩, t6, d6, hP6, ht6, hd6, hF6⟩; have H6 := hid (And.intro hP6 (And.intro ht6 (And.intro hd6 hF6))); have hbx := HBx3.out.fr hF6 (fun k hk e => by have := HMem.out F.p (.inl (.inl rfl)); omega); have HBx4 := hid hbx; clear hP6 ht6 hd6 hF6 hbx)
  have hap : F.p < Q := HMem.out F.p (.inl (.inl rfl))
  have HNt := hid (HNth.out ⟨F.p, f2, t6, d6⟩ τ' w6.drew (H6.out.1.new (Fr.refl _ _).drew) H5.out.1)
  have kk0 := HBx4.out.pb.cell 0
  obtain ⟨s0, s1, s2, s3, sf⟩ := HBx4.out.st.four
  have hrb : Has w6 (Q + 1 + 1) [.int .i64 0, .int .i64 0, .int .i64 0, .int .i64 0] 35 := HBx4.out.rb
  have HRb := hid hrb
  obtain ⟨b0, b1, b2, b3, bf⟩ := hrb.four
  have n1 : Q ≠ Q + 1 + 1 := by omega
  have n2 : A ≠ Q + 1 + 1 := by omega
  have n3 : Q + 1 + 1 ≠ A := by omega
  have n4 : Q + 1 + 1 ≠ Q := by omega
  clear hrb
  go_region_held3 (fun w' => w'.cell? ⟨Q, 0, none⟩ = some (.pointer (some ⟨F.p, 0, none⟩)) ∧ w'.cell? ⟨A, 0, none⟩ = some (.int .i64 2) ∧ w'.cell? ⟨A, 1, none⟩ = some (.int .i64 0) ∧ w'.cell? ⟨A, 2, none⟩ = some (.int .i64 Z') ∧ w'.cell? ⟨A, 3, none⟩ = some (.int .i64 C)) (go_keep) (first | (go_at_call 141; refine HNt.out.mono ?_; rintro e w7 ⟨v, rfl, rfl, hv⟩; have HV := hid hv; clear hv))
  go_wp2_with fail
  have hRF : Has ((((w6.setCell ⟨Q + 1 + 1, 0, none⟩ (.int .i64 2)).setCell ⟨Q + 1 + 1, 1, none⟩ (.int .i64 0)).setCell ⟨Q + 1 + 1, 2, none⟩ (.int .i64 Z')).setCell ⟨Q + 1 + 1, 3, none⟩ (.int .i64 C)).drew (Q + 1 + 1) [.int .i64 2, .int .i64 0, .int .i64 Z', .int .i64 C] 35 := (HRb.out.set4 (.int .i64 2) (.int .i64 0) (.int .i64 Z') (.int .i64 C)).fr' (Fr.refl Nil1 _).drew id
  have gq : NG ≤ Q + 1 + 1 := by omega
  have hFF : Fr (fun k => k = Q + 1 + 1) w6 ((((w6.setCell ⟨Q + 1 + 1, 0, none⟩ (.int .i64 2)).setCell ⟨Q + 1 + 1, 1, none⟩ (.int .i64 0)).setCell ⟨Q + 1 + 1, 2, none⟩ (.int .i64 Z')).setCell ⟨Q + 1 + 1, 3, none⟩ (.int .i64 C)).drew := (((((Fr.refl (fun k => k = Q + 1 + 1) w6).setCell ⟨Q + 1 + 1, 0, none⟩ (.int .i64 2) gq (fun _ => rfl)).setCell ⟨Q + 1 + 1, 1, none⟩ (.int .i64 0) gq (fun _ => rfl)).setCell ⟨Q + 1 + 1, 2, none⟩ (.int .i64 Z') gq (fun _ => rfl)).setCell ⟨Q + 1 + 1, 3, none⟩ (.int .i64 C) gq (fun _ => rfl)).drew
  obtain ⟨WF, hWF⟩ : ∃ WF, ((((w6.setCell ⟨Q + 1 + 1, 0, none⟩ (.int .i64 2)).setCell ⟨Q + 1 + 1, 1, none⟩ (.int .i64 0)).setCell ⟨Q + 1 + 1, 2, none⟩ (.int .i64 Z')).setCell ⟨Q + 1 + 1, 3, none⟩ (.int .i64 C)).drew = WF := ⟨_, rfl⟩
  rw [hWF] at hRF hFF ⊢
  obtain ⟨z0, z1, z2, z3, zf⟩ := hRF.four
  refine bodyPost_ret (v := .tuple #[.int .i64 v, .agg #[.int .i64 2, .int .i64 0, .int .i64 Z', .int .i64 C], .int .i64 0]) (by simp [results, Tryz.f77, go_sem, z0, z1, z2, z3]) rfl ?_
  have q4 := HBx2.out.rb.lt
  have q5 := HBx3.out.rb.lt
  have hsz := HF32.out.size
  have hsz5 := H5.out.2.2.2.1.size
  have hm : ∀ k, (⟨F.p, f2, t6, d6⟩ : PF).mem k → k = F.p ∨ (w.heap.size ≤ k ∧ Q + 1 + 1 < k) := by
    rintro k (rfl | hk | rfl | rfl)
    · exact .inl rfl
    · have : W4.heap.size ≤ k := H5.out.2.2.2.2 k hk
      exact .inr ⟨by omega, by omega⟩
    · have := H6.out.2.1
      exact .inr ⟨by omega, by omega⟩
    · have := H6.out.2.2.1
      exact .inr ⟨by omega, by omega⟩
  refine ⟨v, ⟨F.p, f2, t6, d6⟩, τ', rfl, H5.out.1, rfl, H6.out.1.fr hFF (fun k hk e => ?_), ?_, ?_, fun k hk => (hm k hk).imp id (fun h => h.1), HV.out⟩
  · rcases hm k hk with h | h
    · omega
    · omega
  · refine HT.out.keep _ _ _ _ (HT.out.keep _ _ _ _ H5.out.2.2.1.1 H6.out.2.2.2 (fun k e hb => (HB.out k hb).1 (.inl e))) hFF (fun k e hb => by have := (HB.out k hb).2.1; omega)
  · refine ((((HF32.out.mono (fun _ _ h => h.elim)).trans' H5.out.2.2.2.1 (fun j _ _ hh => ?_)).trans (H6.out.2.2.2.mono (fun _ _ e => .inl (.inl e)))).trans' hFF (fun j hj _ e => by omega))
    rcases hh with hh | hh
    · exact .inr hh
    · exact .inl (.inl hh)
end Go.Proofs.YtechphliifginaaGreatDoor

/- pma.step: the array shrinks (printed by mkw9.py from W8). -/
set_option linter.unusedVariables false
set_option linter.unusedSimpArgs false
namespace Go.Proofs.YtechphliifginaaGreatDoor
open Go.RowKit
attribute [local go_sem] max_two

set_option maxRecDepth 100000 in
set_option maxHeartbeats 4000000 in
theorem pmaStep_shrink {w : World} {F : PF} {τ : List (Option Int)} {h : Nat} {tv : Value} {B : Nat → Prop} {J : List Ev → World → Prop} {evs : List Ev} (H : PmaR w F τ h tv) (T : Hear tv B J) (hJ : J evs w)
    (hB : ∀ k, B k → ¬ F.mem k ∧ k < w.heap.size ∧ NG ≤ k) (seg : Nat) (slot : Int) (hs : seg < 2 ^ h) (hsl : slot ≤ τ.length) {h' : Nat} (h2' : 2 ≤ h') (h9' : h' ≤ 9) (hfit : (occ τ).length ≤ 8 * 2 ^ h')
    (hpk : pickS (cntsL τ) seg h = (⟨3, 0, (2 ^ h' : Nat), (8 * 2 ^ h' : Nat)⟩, 0)) :
    Calls Tryz.prog 77 #[.pointer (some ⟨F.p, 0, none⟩), .int .i64 seg, .int .i64 slot] w fun e w' => ∃ (v : Int) (F' : PF) (τ' : List (Option Int)), e = .returned (.tuple #[.int .i64 v, stV ⟨3, 0, (2 ^ h' : Nat), (8 * 2 ^ h' : Nat)⟩, .int .i64 0]) ∧
      LaidR (its τ) (2 ^ h') τ' ∧ F'.p = F.p ∧ PmaR w' F' τ' h' tv ∧ J (evs ++ resEv (plcL (occ τ).length 0 (2 ^ h')) (occ τ)) w' ∧ Fr (fun k => F.mem k ∨ B k) w w' ∧ (∀ k, F'.mem k → k = F.p ∨ w.heap.size ≤ k) ∧
      (cntOn (onOf τ) slot.toNat < (occ τ).length → ∃ p : Nat, v = p ∧ onOf τ' p = true ∧ cntOn (onOf τ') p = cntOn (onOf τ) slot.toNat) := by
  have hG := H.sl.g.size
  have hz := p2_le H.h9
  have hz4 : 4 ≤ 2 ^ h := Nat.pow_le_pow_right (n := 2) (by omega) H.h2
  have hz4' : 4 ≤ 2 ^ h' := Nat.pow_le_pow_right (n := 2) (by omega) h2'
  have hz' := p2_le h9'
  have hcl : (cntsL τ).length = 2 ^ h := by rw [cntsL_length, H.len]; omega
  have hall : ∀ x ∈ cntsL τ, 0 ≤ x ∧ x ≤ 8 := by rw [cntsL_eq]; exact cntsW_mem _ _ _
  have hplt := H.lt
  obtain ⟨ap1, ap2, ap3, ap4, ap5⟩ := H.apart
  obtain ⟨Q, hQ⟩ : ∃ Q, w.heap.size = Q := ⟨_, rfl⟩
  have HMk := hid (show ∀ w0, (((w.alloc (.cells #[.pointer (some ⟨F.p, 0, none⟩)] 24)).alloc (.cells #[.int .i64 slot] 3)).alloc (.cells #[.int .i64 0, .int .i64 0, .int .i64 0, .int .i64 0] 35)) = w0 →
      Has w0 Q [.pointer (some ⟨F.p, 0, none⟩)] 24 ∧ Has w0 (Q + 1) [.int .i64 slot] 3 ∧ Has w0 (Q + 2) [.int .i64 0, .int .i64 0, .int .i64 0, .int .i64 0] 35 ∧ Fr Nil1 w w0 from by
    rintro w1 rfl
    have b1 := ((Has.new w [.pointer (some ⟨F.p, 0, none⟩)] 24).alloc (.cells #[.int .i64 slot] 3)).alloc (.cells #[.int .i64 0, .int .i64 0, .int .i64 0, .int .i64 0] 35)
    have b2 := (Has.new (w.alloc (.cells #[.pointer (some ⟨F.p, 0, none⟩)] 24)) [.int .i64 slot] 3).alloc (.cells #[.int .i64 0, .int .i64 0, .int .i64 0, .int .i64 0] 35)
    have b3 := Has.new ((w.alloc (.cells #[.pointer (some ⟨F.p, 0, none⟩)] 24)).alloc (.cells #[.int .i64 slot] 3)) [.int .i64 0, .int .i64 0, .int .i64 0, .int .i64 0] 35
    simp only [World.size_alloc] at b2 b3
    rw [hQ] at b1 b2 b3
    exact ⟨b1, b2, b3, (((Fr.refl _ _).alloc _).alloc _).alloc _⟩)
  have HCt := hid (fun w' (hf : Fr Nil1 w w') => (treeCounts_ok (H.tr.new hf) (by have := hf.size; omega)).mono (fun e w2 hh => show ∃ ad c, e = .returned (.slice (some ad) (2 ^ h) c) ∧ Hid (RdC w2 ad c (cntsL τ) ∧ Fr Nil1 w' w2) from by
    obtain ⟨v, rfl, h1, _, h3⟩ := hh
    obtain ⟨ad, c, rfl, h5⟩ := h1.rdc (by omega)
    exact ⟨ad, c, by rw [hcl], hid ⟨h5, h3⟩⟩))
  have HPk := hid (fun ad c w' (hf : Fr Nil1 w w') (hx : RdC w' ad c (cntsL τ)) => by
    have := pickPick_ok (cntsL τ) h seg ad c w' hx ⟨H.h2, H.h9, hcl, hall⟩ (by omega) (H.sl.g.fr hf)
    rw [hpk, hcl] at this
    exact this.mono (fun e w2 hh => show e = .returned (.tuple #[.agg #[.int .i64 3, .int .i64 0, .int .i64 (2 ^ h' : Nat), .int .i64 (8 * 2 ^ h' : Nat)], .int .i64 0]) ∧ Fr Nil1 w' w2 from hh))
  have HRow := hid H.row
  have HSl := hid H.sl
  have HTr := hid H.tr
  have HPm := hid H
  have HT := hid T
  have HJ := hid hJ
  have HB := hid hB
  have hgp := H.gp
  have HCt' := HCt
  have HCo := hid (fun w' (hf : Fr Nil1 w w') => show Calls Tryz.prog 116 #[.pointer (some ⟨F.sl.s, 0, none⟩), .int .i64 0, .int .i64 (max slot 0)] w' fun e w'' => e = .returned (.tuple #[.int .i64 (cntOn (onOf τ) slot.toNat : Nat), .int .i64 0]) ∧ w' = w'' from by
    have := gapsCount_any (H.sl.new hf) 0 (max slot 0) (Int.le_refl 0) (by omega) (by omega)
    rw [show (max slot 0).toNat = slot.toNat by omega, show cntOn (onOf τ) slot.toNat - cntOn (onOf τ) (0 : Int).toNat = cntOn (onOf τ) slot.toNat from Nat.sub_zero _] at this
    exact this)
  have HRs := hid (fun w' (hf : Fr Nil1 w w') => sizeResize_ok (evs := evs) (tell_teller (p := F.p) (s0 := .pointer (some ⟨F.sl.s, 0, none⟩)) (t0 := .pointer (some ⟨F.t, 0, none⟩)) T (fun hb => (hB _ hb).1 (.inl rfl))) (H.sl.new hf)
      ⟨T.keep _ _ _ _ hJ hf (fun _ h => h.elim), H.row.fr' hf id⟩
      (fun k hk => by
        have hq := hf.size
        rcases hk with hk | rfl
        · exact ⟨fun hm => (hB k hk).1 (.inr (.inl hm)), by have := (hB k hk).2; omega, (hB k hk).2.2⟩
        · exact ⟨ap1, by have := hplt _ (.inl rfl); omega, H.gp⟩)
      h' h2' h9' hfit)
  have HMay := hid (fun w' => levelMay_any ((8 * 2 ^ h' : Nat) : Int) w')
  rw [mayB_pow h2' h9'] at HMay
  have HTot := hid (show (occ τ).length = cntOn (onOf τ) τ.length from by rw [← its_length]; simp [its])
  have hcm := cntOn_le (onOf τ) slot.toNat
  have hlen := H.len
  clear hpk hcl hall H T hJ hB hplt
  obtain ⟨N, hN⟩ : ∃ N, cntOn (onOf τ) slot.toNat = N := ⟨_, rfl⟩
  rw [hN] at HCo hcm ⊢
  have HUse := hid (fun (f2 : SF) τ' w' (hL : LaidR (its τ) (2 ^ h') τ') (hs : SlotsR w' f2 τ') (hr : Has w' F.p [.pointer (some ⟨F.sl.s, 0, none⟩), .pointer (some ⟨F.t, 0, none⟩), tv] 95) => pmaUse_ok hs h2' h9' hL.len hr hgp ⟨_, rfl⟩ ⟨_, rfl⟩)
  have HNth := hid (fun (F' : PF) τ' w' (hp : PmaR w' F' τ' h' tv) (hL : LaidR (its τ) (2 ^ h') τ') => show Calls Tryz.prog 141 #[.pointer (some ⟨F'.p, 0, none⟩), .int .i64 N] w' fun e w'' => ∃ v : Int, e = .returned (.int .i64 v) ∧ w' = w'' ∧ (N < (occ τ).length → ∃ p : Nat, v = p ∧ onOf τ' p = true ∧ cntOn (onOf τ') p = N) from by
    have hc : cntOn (onOf τ') τ'.length = (occ τ).length := by rw [← its_length, hL.items]; simp [its]
    by_cases hlt : N < (occ τ).length
    · refine (pmaNth_ok hp N (by rw [hc]; exact hlt)).mono ?_
      rintro e w'' ⟨p, rfl, hw, h3, h4⟩
      exact ⟨p, rfl, hw, fun _ => ⟨p, rfl, h3, h4⟩⟩
    · refine (pmaNth_none hp N (.inr (by rw [hc]; omega))).mono ?_
      rintro e w'' ⟨rfl, hw⟩
      exact ⟨-1, rfl, hw, fun h => absurd h hlt⟩)
  obtain ⟨Z', hZ'⟩ : ∃ Z', 2 ^ h' = Z' := ⟨_, rfl⟩
  rw [hZ'] at HPk HRs HMay HUse HNth ⊢
  obtain ⟨C, hC⟩ : ∃ C : Int, ((8 * Z' : Nat) : Int) = C := ⟨_, rfl⟩
  rw [hC] at HPk HRs HMay ⊢
  generalize hZ : 2 ^ h = Z at *
  obtain ⟨r0, r1, r2, rf⟩ := HRow.out.three
  have hlp := HRow.out.lt
  have hlq : F.p < Q := by omega
  have hlq1 : F.p < Q + 1 := by omega
  have hlq2 : F.p < Q + 1 + 1 := by omega
  go_enter Tryz.func77, Tryz.ntmps77
  go_wp2_with (first
    | (go_at_call 82; refine (HCt.out _ (HMk.out _ rfl).2.2.2).mono ?_; rintro e w1 ⟨ad, c, rfl, H1⟩; obtain ⟨e0, e1, e2, F0⟩ := HMk.out _ rfl; have E0 := hid (And.intro (e0.fr' H1.out.2 id) (And.intro (e1.fr' H1.out.2 id) (And.intro (e2.fr' H1.out.2 id) (F0.trans H1.out.2)))); clear e0 e1 e2 F0)
    | (go_at_call 28; refine (HPk.out ad c _ E0.out.2.2.2 H1.out.1).mono ?_; rintro e w2 ⟨rfl, hF2⟩; have E2 := hid (And.intro (E0.out.1.fr' hF2 id) (And.intro (E0.out.2.1.fr' hF2 id) (And.intro (E0.out.2.2.1.fr' hF2 id) (E0.out.2.2.2.trans hF2)))); clear hF2; have y0 := E2.out.1.cell 0; have y1 := E2.out.2.1.cell 0; have yr := HRow.out.fr' E2.out.2.2.2 id; obtain ⟨z0, z1, z2, zf⟩ := yr.three; clear yr; have hq2 : Q + 2 < w2.heap.size := E2.out.2.2.1.lt)
    | (go_at_call 91; refine (HMay.out _).mono ?_; rintro e wM ⟨rfl, rfl⟩))
  have hGq : NG ≤ w.heap.size := hG
  have hst : Has (w2.alloc (.cells #[.int .i64 3, .int .i64 0, .int .i64 Z', .int .i64 C] 35)) w2.heap.size [.int .i64 3, .int .i64 0, .int .i64 Z', .int .i64 C] 35 := Has.new w2 _ _
  have hfr : Fr Nil1 w2 (w2.alloc (.cells #[.int .i64 3, .int .i64 0, .int .i64 Z', .int .i64 C] 35)) := (Fr.refl _ _).alloc _
  obtain ⟨W3, hW3⟩ : ∃ W3, (w2.alloc (.cells #[.int .i64 3, .int .i64 0, .int .i64 Z', .int .i64 C] 35)) = W3 := ⟨_, rfl⟩
  rw [hW3] at hst hfr ⊢
  obtain ⟨A, hA⟩ : ∃ A, w2.heap.size = A := ⟨_, rfl⟩
  rw [hA] at hst ⊢
  have hF3 := E2.out.2.2.2.trans hfr
  have hbx : Boxes W3 Q A F.p slot 3 0 Z' C := ⟨E2.out.1.fr' hfr id, E2.out.2.1.fr' hfr id, E2.out.2.2.1.fr' hfr id, hst⟩
  have HBx := hid hbx
  have HF3 := hid hF3
  have HR3 := hid (HRow.out.fr' hF3 id)
  have hAQ : Q + 2 < A := by omega
  have hlm := HPm.out.lt
  have hmem : ∀ k, F.mem k ∨ B k → k < Q := fun k hk => by
    rw [← hQ]
    rcases hk with hk | hk
    · exact hlm k hk
    · exact (HB.out k hk).2.1
  have HMem := hid hmem
  have HQB := hid (show ∀ k, k = Q ∨ k = Q + 1 ∨ k = Q + 2 ∨ k = A → ¬ TellB F.p B k from fun k hk hh => by
    rcases hh with hh | rfl
    · have := hmem k (.inr hh); omega
    · have := hmem F.p (.inl (.inl rfl)); omega)
  clear hbx hF3 hst hfr E0 E2 y0 y1 z0 z1 z2 zf r0 r1 r2 rf hW3 hA hq2 hlq hlq1 hlq2 hlm hmem
  have kk0 := HBx.out.pb.cell 0
  have kk1 := HR3.out.cell 0
  have kk2 := HBx.out.sb.cell 0
  go_region_held3 (fun w' => w'.cell? ⟨Q, 0, none⟩ = some (.pointer (some ⟨F.p, 0, none⟩)) ∧ w'.cell? ⟨F.p, 0, none⟩ = some (.pointer (some ⟨F.sl.s, 0, none⟩)) ∧ w'.cell? ⟨Q + 1, 0, none⟩ = some (.int .i64 slot)) (first | exact ⟨kk0, kk1, kk2⟩ | go_keep) (first | (go_at_call 116; refine (HCo.out W3.drew (HF3.out.trans (Fr.refl _ _).drew)).mono ?_; rintro e w3 ⟨rfl, rfl⟩))
  go_wp2_with fail
  have HBx2 := hid (HBx.out.fr (Fr.refl Nil1 W3).drew (fun _ _ h => h))
  have HF32 := hid (HF3.out.trans (Fr.refl Nil1 W3).drew)
  have HR32 := hid (HR3.out.fr' (Fr.refl Nil1 W3).drew id)
  obtain ⟨W4, hW4⟩ : ∃ W4, W3.drew = W4 := ⟨_, rfl⟩
  rw [hW4] at HBx2 HF32 HR32 ⊢
  clear HBx HF3 HR3 kk0 kk1 kk2 hW4
  have kk0 := HBx2.out.pb.cell 0
  have kk1 := HR32.out.cell 0
  have kk2 := HBx2.out.st.cell 3
  go_region_held3 (fun w' => w'.cell? ⟨Q, 0, none⟩ = some (.pointer (some ⟨F.p, 0, none⟩)) ∧ w'.cell? ⟨F.p, 0, none⟩ = some (.pointer (some ⟨F.sl.s, 0, none⟩)) ∧ w'.cell? ⟨A, 3, none⟩ = some (.int .i64 C)) (first | exact ⟨kk0, kk1, kk2⟩ | exact ⟨k0, k1, k2⟩ | go_keep) (first | (go_at_call 140; refine (HRs.out W4.drew (HF32.out.trans (Fr.refl _ _).drew)).mono ?_; rintro e w5 ⟨f2, rfl, ⟨τ', hL, hSl⟩, hT5, hF5, hf2⟩; have hF := (Fr.refl (TellB F.p B) W4).drew.trans hF5; have hbx := HBx2.out.fr hF HQB.out; have HBx3 := hid hbx; have H5 := hid (And.intro hL (And.intro hSl (And.intro hT5 (And.intro hF hf2)))); have k0 := hbx.pb.cell 0; have k1 := hT5.2.cell 0; have k2 := hbx.st.cell 3; clear hL hSl hT5 hF5 hf2 hF hbx))
  go_wp2_with (go_at_call 70; refine (HUse.out f2 τ' w5 H5.out.1 H5.out.2.1 H5.out.2.2.1.2).mono ?_; rintro e w6 ⟨⟨v6, rfl⟩, t6, d6, hP6, ht6, hd6, hF6⟩; have H6 := hid (And.intro hP6 (And.intro ht6 (And.intro hd6 hF6))); have hbx := HBx3.out.fr hF6 (fun k hk e => by have := HMem.out F.p (.inl (.inl rfl)); omega); have HBx4 := hid hbx; clear hP6 ht6 hd6 hF6 hbx)
  have hap : F.p < Q := HMem.out F.p (.inl (.inl rfl))
  have HNt := hid (HNth.out ⟨F.p, f2, t6, d6⟩ τ' w6.drew (H6.out.1.new (Fr.refl _ _).drew) H5.out.1)
  have kk0 := HBx4.out.pb.cell 0
  obtain ⟨s0, s1, s2, s3, sf⟩ := HBx4.out.st.four
  have hrb : Has w6 (Q + 1 + 1) [.int .i64 0, .int .i64 0, .int .i64 0, .int .i64 0] 35 := HBx4.out.rb
  have HRb := hid hrb
  obtain ⟨b0, b1, b2, b3, bf⟩ := hrb.four
  have n1 : Q ≠ Q + 1 + 1 := by omega
  have n2 : A ≠ Q + 1 + 1 := by omega
  have n3 : Q + 1 + 1 ≠ A := by omega
  have n4 : Q + 1 + 1 ≠ Q := by omega
  clear hrb
  go_region_held3 (fun w' => w'.cell? ⟨Q, 0, none⟩ = some (.pointer (some ⟨F.p, 0, none⟩)) ∧ w'.cell? ⟨A, 0, none⟩ = some (.int .i64 3) ∧ w'.cell? ⟨A, 1, none⟩ = some (.int .i64 0) ∧ w'.cell? ⟨A, 2, none⟩ = some (.int .i64 Z') ∧ w'.cell? ⟨A, 3, none⟩ = some (.int .i64 C)) (go_keep) (first | (go_at_call 141; refine HNt.out.mono ?_; rintro e w7 ⟨v, rfl, rfl, hv⟩; have HV := hid hv; clear hv))
  go_wp2_with fail
  have hRF : Has ((((w6.setCell ⟨Q + 1 + 1, 0, none⟩ (.int .i64 3)).setCell ⟨Q + 1 + 1, 1, none⟩ (.int .i64 0)).setCell ⟨Q + 1 + 1, 2, none⟩ (.int .i64 Z')).setCell ⟨Q + 1 + 1, 3, none⟩ (.int .i64 C)).drew (Q + 1 + 1) [.int .i64 3, .int .i64 0, .int .i64 Z', .int .i64 C] 35 := (HRb.out.set4 (.int .i64 3) (.int .i64 0) (.int .i64 Z') (.int .i64 C)).fr' (Fr.refl Nil1 _).drew id
  have gq : NG ≤ Q + 1 + 1 := by omega
  have hFF : Fr (fun k => k = Q + 1 + 1) w6 ((((w6.setCell ⟨Q + 1 + 1, 0, none⟩ (.int .i64 3)).setCell ⟨Q + 1 + 1, 1, none⟩ (.int .i64 0)).setCell ⟨Q + 1 + 1, 2, none⟩ (.int .i64 Z')).setCell ⟨Q + 1 + 1, 3, none⟩ (.int .i64 C)).drew := (((((Fr.refl (fun k => k = Q + 1 + 1) w6).setCell ⟨Q + 1 + 1, 0, none⟩ (.int .i64 3) gq (fun _ => rfl)).setCell ⟨Q + 1 + 1, 1, none⟩ (.int .i64 0) gq (fun _ => rfl)).setCell ⟨Q + 1 + 1, 2, none⟩ (.int .i64 Z') gq (fun _ => rfl)).setCell ⟨Q + 1 + 1, 3, none⟩ (.int .i64 C) gq (fun _ => rfl)).drew
  obtain ⟨WF, hWF⟩ : ∃ WF, ((((w6.setCell ⟨Q + 1 + 1, 0, none⟩ (.int .i64 3)).setCell ⟨Q + 1 + 1, 1, none⟩ (.int .i64 0)).setCell ⟨Q + 1 + 1, 2, none⟩ (.int .i64 Z')).setCell ⟨Q + 1 + 1, 3, none⟩ (.int .i64 C)).drew = WF := ⟨_, rfl⟩
  rw [hWF] at hRF hFF ⊢
  obtain ⟨z0, z1, z2, z3, zf⟩ := hRF.four
  refine bodyPost_ret (v := .tuple #[.int .i64 v, .agg #[.int .i64 3, .int .i64 0, .int .i64 Z', .int .i64 C], .int .i64 0]) (by simp [results, Tryz.f77, go_sem, z0, z1, z2, z3]) rfl ?_
  have q4 := HBx2.out.rb.lt
  have q5 := HBx3.out.rb.lt
  have hsz := HF32.out.size
  have hsz5 := H5.out.2.2.2.1.size
  have hm : ∀ k, (⟨F.p, f2, t6, d6⟩ : PF).mem k → k = F.p ∨ (w.heap.size ≤ k ∧ Q + 1 + 1 < k) := by
    rintro k (rfl | hk | rfl | rfl)
    · exact .inl rfl
    · have : W4.heap.size ≤ k := H5.out.2.2.2.2 k hk
      exact .inr ⟨by omega, by omega⟩
    · have := H6.out.2.1
      exact .inr ⟨by omega, by omega⟩
    · have := H6.out.2.2.1
      exact .inr ⟨by omega, by omega⟩
  refine ⟨v, ⟨F.p, f2, t6, d6⟩, τ', rfl, H5.out.1, rfl, H6.out.1.fr hFF (fun k hk e => ?_), ?_, ?_, fun k hk => (hm k hk).imp id (fun h => h.1), HV.out⟩
  · rcases hm k hk with h | h
    · omega
    · omega
  · refine HT.out.keep _ _ _ _ (HT.out.keep _ _ _ _ H5.out.2.2.1.1 H6.out.2.2.2 (fun k e hb => (HB.out k hb).1 (.inl e))) hFF (fun k e hb => by have := (HB.out k hb).2.1; omega)
  · refine ((((HF32.out.mono (fun _ _ h => h.elim)).trans' H5.out.2.2.2.1 (fun j _ _ hh => ?_)).trans (H6.out.2.2.2.mono (fun _ _ e => .inl (.inl e)))).trans' hFF (fun j hj _ e => by omega))
    rcases hh with hh | hh
    · exact .inr hh
    · exact .inl (.inl hh)
end Go.Proofs.YtechphliifginaaGreatDoor
