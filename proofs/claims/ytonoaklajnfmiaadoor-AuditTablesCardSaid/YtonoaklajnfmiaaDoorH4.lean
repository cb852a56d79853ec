/- handle.Table.All, as it is called. -/
import Derived.Test.YtonoaklajnfmiaaDoorH3
set_option linter.unusedVariables false
set_option linter.unusedSimpArgs false
namespace Go.Proofs.YtonoaklajnfmiaaDoor
open Go.RowKit Go.Maps Go.Sort Go.Shelf
attribute [local go_sem] Oper.semAt_some

theorem keys_stops (n : Nat) (hn : 1 ≤ n) (Bm b nn : Nat) (D0 : DataW Unit) (w : World) (hBm : Bm < w.heap.size) (hm : w.cell? ⟨Bm, 0, none⟩ = some (.map (some b))) (hown : w.ownsMap Tryd.prog 3 (plainElem Tryd.prog 3) b nn D0) :
    SeqStopsK Fence.wide n Tryd.prog 79 #[.pointer (some ⟨Bm, 0, none⟩)] encN KeepsWalks (fun ss => ss.Nodup ∧ ∀ x, x ∈ ss ↔ Maps.has D0 (.int .i64 x) = true) (fun _ => True) (Maps.size D0) w := fun l J Jx W hW hJ _ hY h0 => by
  refine (keys1_in n hn l Bm b nn D0 J Jx hY W hJ ((hW.cell (p := ⟨Bm, 0, none⟩) hBm).trans hm) (ownsMap_blk hown (hW.block b hown.lt)) h0)

set_option maxRecDepth 100000 in
set_option maxHeartbeats 2000000 in
theorem tabAll_any {f : TF} {τ : List (Option Int)} {w : World} (h : TabR w f τ) (hn : (occ τ).length ≤ 65536) (hG : NG ≤ w.heap.size) :
    Calls Tryd.prog 47 #[.pointer (some ⟨f.t, 0, none⟩)] w fun e w' => ∃ v, e = .returned v ∧ RowI w' w.heap.size v (hnds τ) ∧ Fr Nil1 w w' := by
  refine (callsIn_wide (n := 6)).1 ?_
  obtain ⟨i0, hi, hz0, hz1, hz2⟩ := info_parts info_int
  obtain ⟨c0, c1, _⟩ := h.row.two
  obtain ⟨D, hown, hD⟩ := h.map
  have HO := hid hown
  have HD := hid hD
  have HH := hid h
  have hS := hD.size
  have HS := hid hS
  have hmk := mk_cap (P := Tryd.prog) 30 3 (.int .i64 0) 8 Tryd.underlying30 info_int rfl (by decide) (occ τ).length (by omega)
  have HG := hid hG
  have HN := hid hn
  have c2 : ((w.alloc (.cells (madeCells #[.int .i64 0] (occ τ).length) 3)).alloc (.cells #[.slice (some ⟨w.heap.size, 0, none⟩) 0 (occ τ).length] 30)).cell? ⟨f.t, 0, none⟩ = some (.map (some f.m)) := ((HH.out.row.alloc _).alloc _).cell 0
  clear h hown hD hS hn hG
  (refine callsIn_of_wp_marks Tryd.func47 rfl trivial ?_ rfl; simp only [Tryd.ntmps47, List.size_toArray, List.length_cons, List.length_nil, Nat.reduceAdd, Nat.reduceSub, Array.replicate_succ, Array.replicate_zero, List.push_toArray, List.append_toArray, List.nil_append, List.cons_append])
  gi_wp2_with (first | (gi_at_len; refine wpListIn_len_own _ rfl _ 78 rfl 3 3 Tryd.underlying78 _ f.m τ.length D rfl HO.out ?_; rw [HS.out]) | ((first | refine ⟨trivial, wideNo, ?_⟩ | refine ⟨trivial, ?_⟩); gi_at_call 65; refine (callsIn_wide.2 (keys_any _ _)).mono ?_; rintro e w1 ⟨rfl, rfl⟩))
  obtain ⟨N, hNN⟩ : ∃ N, (occ τ).length = N := ⟨_, rfl⟩
  rw [hNN] at HS HN c2 ⊢
  have hn65 := HN.out
  obtain ⟨Q, hQ⟩ : ∃ Q, w.heap.size = Q := ⟨_, rfl⟩
  have hfr0 : Fr Nil1 w (((w.alloc (.cells (madeCells #[.int .i64 0] N) 3)).alloc (.cells #[.slice (some ⟨w.heap.size, 0, none⟩) 0 N] 30)).alloc (.cells #[.map (some f.m)] 78)) := (((Fr.refl _ _).alloc _).alloc _).alloc _
  have hrow0 := ((World.ownsRow_made (base := Q) (e := 3) (size := 1) w (madeCells #[.int .i64 0] N) N (by omega) (by unfold maxLen; omega) (by rw [size_madeCells]; simp)).alloc (.cells #[.slice (some ⟨w.heap.size, 0, none⟩) 0 N] 30)).alloc (.cells #[.map (some f.m)] 78)
  have hb1 := (Has.new (w.alloc (.cells (madeCells #[.int .i64 0] N) 3)) [.slice (some ⟨w.heap.size, 0, none⟩) 0 N] 30).alloc (.cells #[.map (some f.m)] 78)
  have hb2 := Has.new ((w.alloc (.cells (madeCells #[.int .i64 0] N) 3)).alloc (.cells #[.slice (some ⟨w.heap.size, 0, none⟩) 0 N] 30)) [.map (some f.m)] 78
  have hown0 := ((HO.out.alloc (.cells (madeCells #[.int .i64 0] N) 3)).alloc (.cells #[.slice (some ⟨w.heap.size, 0, none⟩) 0 N] 30)).alloc (.cells #[.map (some f.m)] 78)
  simp only [World.size_alloc] at hb1 hb2
  obtain ⟨W0, hW0⟩ : ∃ W0, (((w.alloc (.cells (madeCells #[.int .i64 0] N) 3)).alloc (.cells #[.slice (some ⟨w.heap.size, 0, none⟩) 0 N] 30)).alloc (.cells #[.map (some f.m)] 78)) = W0 := ⟨_, rfl⟩
  have hsz : W0.heap.size = w.heap.size + 3 := by rw [← hW0]; simp
  rw [hW0] at hfr0 hrow0 hb1 hb2 hown0 ⊢
  clear hW0 hmk c2
  have hGw := HG.out
  rw [hQ] at hrow0 hb1 hb2 hsz hGw ⊢
  have HFr := hid hfr0
  refine wpIn_rangeFunc_ownG rfl (by omega) (gf := 79) (lb := #[.pointer (some ⟨Q + 2, 0, none⟩)]) rfl trivial (enters_of Tryd.func79 (by kernel_rfl) rfl)
    (keys_stops _ (by omega) (Q + 2) f.m τ.length D W0 (by omega) (hb2.cell 0) hown0) (fun h k => h.trans k) (fun W l o o' hl ho hc hw => KeepsWalks.putObj o' ho hw) (Below.refl _ _) (fun _ => rfl)
    (fun pre W => Has W (Q + 1) [.slice (some ⟨Q, 0, none⟩) pre.length N] 30 ∧ W.ownsRow Q 3 1 (.slice (some ⟨Q, 0, none⟩) pre.length N) pre.length (pre.map (Value.int .i64)) ∧ Fr Nil1 w W ∧ Q + 3 ≤ W.heap.size)
    (fun _ _ _ => False)
    (fun s A B row hs hg hrow => ⟨hs.1.grownBy hg (fun r e => (hrow r e).2), own_same hs.2.1 (hg.block Q (by have := hs.2.2.2; omega) (fun e => by have := (hrow Q e.symm).1; omega)), hs.2.2.1.grownBy hg hrow (by omega) HG.out, Nat.le_trans hs.2.2.2 hg.size⟩)
    (fun _ _ _ _ _ hs _ _ => hs)
    ⟨hb1, hrow0, hfr0, by omega⟩
    (fun x => { tmps := #[.pointer (some ⟨f.t, 0, none⟩), undef, .slice none 0 0, .pointer (some ⟨Q + 1, 0, none⟩), .int .i64 x, .pointer (some ⟨f.t, 0, none⟩), .bool false, .pointer (some ⟨f.t, 0, none⟩), .pointer (some ⟨f.t, 0, none⟩), .pointer (some ⟨f.t, 0, none⟩), .map (some f.m), .int .i64 N, .slice (some ⟨Q, 0, none⟩) 0 N,
      .pointer (some ⟨f.t, 0, none⟩), .pointer (some ⟨f.t, 0, none⟩), .pointer (some ⟨f.t, 0, none⟩), .map (some f.m), .func (.func 79) #[] #[.pointer (some ⟨Q + 2, 0, none⟩)], .int .i64 x, undef, undef, undef, undef, undef, undef, undef], defers := [] }) ?assign ?body ?done ?stop
  case assign =>
    intro l x W K hK
    unfold encN
    gi_wp2
    exact hK
  case body =>
    rintro l pre x W ⟨hv, hrow, hB, hWs⟩ hlt
    rw [HS.out] at hlt
    obtain ⟨hc, hfz⟩ := hv.one
    have Hv := hid hv
    have Hrow := hid hrow
    have HB := hid hB
    clear hv hrow hB hfr0 hrow0 hb1 hb2 hown0 c0 c1
    gi_wp2_with (gi_at_builtin; refine wpListIn_append_fits _ rfl _ _ 30 rfl Q 3 i0 1 Tryd.underlying30 hi hz1 Q _ N _ rfl (Hrow.out.alloc _) ⟨W.heap.size, 0, none⟩ 1 1 [.int .i64 x] rfl rfl (cell_one_new _ _ _) (by simp [Value.oneCell']) (by omega) ?_; intro w1 hown' hgrow; have hv1 : Has w1 (Q + 1) [.slice (some ⟨Q, 0, none⟩) pre.length N] 30 := (hgrow.block (Q + 1) (by simp; omega) (by simp)).trans (Hv.out.alloc _); obtain ⟨hc1, hf1⟩ := hv1.one; have HGr := hid hgrow; have HOw := hid hown'; have HV1 := hid hv1; clear hgrow hown' hv1)
    have hws := HGr.out.size
    rw [World.size_alloc] at hws
    have hs : Fr (fun k => k = Q ∨ k = Q + 1) W (w1.setCell ⟨Q + 1, 0, none⟩ (.slice (some ⟨Q, 0, none⟩) (pre.length + 1) N)) :=
      (((Fr.refl _ _).alloc _).grown HGr.out (fun k e => by cases e; omega) (fun k e _ => by cases e; exact .inl rfl)).setCell _ _ (by show NG ≤ Q + 1; omega) (fun _ => .inr rfl)
    have hblk : ∀ j, some j = some Q → ∃ cur e, (W.alloc (.cells #[.int .i64 x] 3)).heap[j]? = some (.cells cur e (0, 0)) := by
      rintro j e
      cases e
      rcases (Hrow.out.alloc (.cells #[.int .i64 x] 3)).2 with ⟨h0, _⟩ | ⟨g', cap', cur, hv, _, hb, _⟩
      · cases h0
      · have eg : Q = g' := by injection hv with e1; injection e1 with e1; injection e1
        subst eg
        exact ⟨cur, _, hb⟩
    refine ⟨((KeepsFrom.of_grownBy (World.grownBy_alloc W _ none) (fun j e => by cases e)).trans (KeepsFrom.of_grownBy HGr.out (fun j e => by cases e; omega))).trans ((KeepsOthers.setCell _ _ _).from _), ((KeepsWalks.alloc W _).trans (KeepsWalks.of_grownBy HGr.out (fun j o e ho => by obtain ⟨cur, e2, hb⟩ := hblk j e.symm; rw [hb] at ho; cases ho; rfl))).trans (KeepsWalks.setCell _ _ _), ?_, ?_, HB.out.trans' hs (fun k _ hk h => by omega), Nat.le_trans hWs hs.size⟩
    · rw [List.length_append]
      exact HV1.out.set 0 _
    · rw [List.length_append, List.map_append]
      exact own_same HOw.out ((grownBy_setCell' w1 (Q + 1) _).block Q (by have := HGr.out.size; rw [World.size_alloc] at this; omega) (by simp))
  case done =>
    rintro D' ys W hD' ⟨hnod, hmem⟩ ⟨hv, hrow, hB, hWs⟩ hK
    obtain ⟨hc, hfz⟩ := hv.one
    have hmem' : ∀ x, x ∈ ys ↔ liveB τ x = true := fun x => by rw [hmem, HD.out.has]
    have hsort := keys_sorted hnod hmem'
    have hyl : ys.length = (hnds τ).length := by rw [← hsort]; exact (List.mergeSort_perm _ _).length_eq.symm
    have hyN : ys.length = N := by rw [hyl, hnds_length, hNN]
    obtain ⟨cur, hb, h1, h2, h3, h4⟩ : ∃ cur, W.heap[Q]? = some (.cells cur 3 (0, 0)) ∧ ys.length ≤ N ∧ N ≤ maxLen ∧ cur.size = N * 1 ∧ cur.toList.take (ys.length * 1) = ys.map (Value.int .i64) := by
      rcases hrow.2 with ⟨h0, _⟩ | ⟨g', cap', cur, hv', _, hb, r1, r2, r3, r4⟩
      · cases h0
      · injection hv' with e1 e2 e3
        injection e1 with e1
        injection e1 with e1
        subst e1
        subst e3
        exact ⟨cur, hb, r1, r2, r3, r4⟩
    have hsrt := Tryd.slices_Sort_int Q 0 N ys W (holds_of_blockI hb (by rw [Nat.mul_one] at h4; exact h4)) (Array.getElem?_eq_some_iff.1 hb).1 (by omega)
    rw [hsort] at hsrt
    have hsq : Calls Tryd.prog 66 #[.slice (some ⟨Q, 0, none⟩) ys.length N] W fun e w2 => e = .returned (.tuple #[]) ∧ Hid (W.grownBy w2 (some Q) ∧ w2.ownsRow Q 3 1 (.slice (some ⟨Q, 0, none⟩) ys.length N) ys.length ((hnds τ).map (Value.int .i64))) :=
      hsrt.mono (fun e w2 hh => by
        obtain ⟨he, nn, os, hw⟩ := hh
        subst hw
        exact ⟨he, hid ⟨grownBy_sortedI _, ownsRow_sortedI hyl.symm (Nat.le_refl _) hb h1 h2 h3⟩⟩)
    have HSo := hid hsq
    have Hv := hid hv
    have HB := hid hB
    have HK := hid hK
    have Hyl := hid hyl
    clear hsrt hsq hsort hmem hmem' hnod hv hrow hB hfr0 hrow0 hb1 hb2 hown0 c0 c1 hb h4 h1 h2 h3 hyl hyN
    gi_wp2_with (first | ((first | refine ⟨trivial, wideNo, ?_⟩ | refine ⟨trivial, ?_⟩); gi_at_call 66; refine (callsIn_wide.2 HSo.out).mono ?_; rintro e w2 ⟨rfl, hq2⟩; have hv2 : Has w2 (Q + 1) [.slice (some ⟨Q, 0, none⟩) ys.length N] 30 := (hq2.out.1.block (Q + 1) (by omega) (by simp)).trans Hv.out; obtain ⟨hc2, hf2⟩ := hv2.one; have HG2 := hid hq2.out.1; have HW2 := hid hq2.out.2; clear hq2 hv2))
    have hK2 : w2.heap[D']? = some (.deferred (some [])) := (HG2.out.block D' (Array.getElem?_eq_some_iff.1 HK.out).1 (by simp; omega)).trans HK.out
    refine ⟨by simp, .inl ⟨_, _, rfl, run_takeDeferred hK2, ?_⟩⟩
    refine ⟨.slice (some ⟨Q, 0, none⟩) ys.length N, ?_, _, rfl, ?_, ?_⟩
    · simp [results, Tryd.f47, go_sem]
    · have hr2 := HW2.out
      unfold RowI
      rw [← Hyl.out, hQ]
      exact own_same hr2 (World.putObj_heap_other (by omega))
    · exact (HB.out.grown HG2.out (fun k e => by cases e; omega) (fun k e hk => by cases e; omega)).putObj D' _ (by omega) HG.out
  case stop =>
    rintro D c pre W _ _ h _
    exact h.elim
end Go.Proofs.YtonoaklajnfmiaaDoor
