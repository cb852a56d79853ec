/- spread.Places. -/
import Derived.Test.YtonoaklajnfmiaaDoorS2
set_option linter.unusedVariables false
set_option linter.unusedSimpArgs false
namespace Go.Proofs.YtonoaklajnfmiaaDoor
open Go.RowKit Go.Shelf
attribute [local go_sem] Oper.semAt_some

/-- 'make([]T, 0, n)', laid ahead of a walk. -/
theorem mk_cap {P : Program} (t e : TypeId) (z : Value) (bytes : Nat) (ht : P.underlying t = some (.slice e)) (hinfo : (P.info? e).map (fun i => (i.zero, i.size, i.bytes)) = some (some z, 1, bytes)) (hz : z.cells = #[z]) (hb : bytes ≤ 64)
    (n : Nat) (hn : n ≤ 1000000000) : ∀ W : World, (Instr.makeSlice t (.int .i64 0) (.int .i64 n)).run P W = .ok (.slice (some ⟨W.heap.size, 0, none⟩) 0 n) (W.alloc (.cells (madeCells #[z] n) e)) := by
  intro W
  obtain ⟨i, hi, hz0, hz1, hz2⟩ := info_parts hinfo
  have h1 : bytes * n ≤ 64 * n := Nat.mul_le_mul_right n hb
  have hq : (i.bytes : Int) * (n : Int) ≤ 281474976710656 := by
    rw [hz2]
    have h3 : ((bytes * n : Nat) : Int) ≤ 281474976710656 := by omega
    rwa [Int.natCast_mul] at h3
  have := run_make (P := P) W t e i z ht hi hz0 .i64 .i64 0 n (by omega) (by omega) hq (by omega)
  rw [hz1, hz] at this
  simpa using this

theorem own_same {w w' : World} {base : Nat} {e : TypeId} {size g n cap : Nat} {xs : List Value} (h : w.ownsRow base e size (.slice (some ⟨g, 0, none⟩) n cap) n xs) (hb : w'.heap[g]? = w.heap[g]?) : w'.ownsRow base e size (.slice (some ⟨g, 0, none⟩) n cap) n xs := by
  obtain ⟨h1, h2⟩ := h
  refine ⟨h1, ?_⟩
  rcases h2 with ⟨e, _⟩ | ⟨g', cap', cur, e, r1, r2, r3⟩
  · cases e
  · have eg : g = g' := by injection e with e1; injection e1 with e1; injection e1
    subst eg
    exact .inr ⟨g, cap', cur, e, r1, hb.trans r2, r3⟩

theorem spPlaces_stops (n : Nat) (Bn Bs Bf : Nat) (m first segs : Nat) (h0 : 0 < segs) (hs : segs ≤ 512) (hm : m ≤ 8 * segs) (hf : first ≤ 512) (w : World) (hBn : Has w Bn [.int .i64 m] 3) (hBs : Has w Bs [.int .i64 segs] 3) (hBf : Has w Bf [.int .i64 first] 3) :
    SeqStopsK Fence.wide n Tryd.prog 75 #[.pointer (some ⟨Bn, 0, none⟩), .pointer (some ⟨Bs, 0, none⟩), .pointer (some ⟨Bf, 0, none⟩)] encN (KeepC (fun k => k = Bn ∨ k = Bs ∨ k = Bf ∨ w.heap.size ≤ k)) (fun ys => ys = plcL m first segs) (fun pre => pre <+: plcL m first segs) (plcL m first segs).length w := fun l J Jx W hW hA _ hY hJ =>
  spPlaces1_in n l Bn Bs Bf w.heap.size m first segs h0 hs hm hf J Jx hY W hW.size (fun s A A' h hg => hA s A A' none h hg (fun r e => by cases e)) (hBn.below hW hBn.lt) (hBs.below hW hBs.lt) (hBf.below hW hBf.lt) hJ

theorem spPlacesL_bad (n first segs : Int) (w : World) (h : spCheck n first segs ≠ 0) :
    Calls Tryd.prog 44 #[.int .i64 n, .int .i64 first, .int .i64 segs] w fun e w' => e = .returned (.tuple #[.slice none 0 0, .int .i64 (spCheck n first segs)]) ∧ Fr Nil1 w w' := by
  have HC := hid (spCheck_any n first segs w)
  generalize spCheck n first segs = c at *
  have hb : (c != 0) = true := by rw [bne_iff_ne]; exact h
  have f0 : Fr Nil1 w (w.alloc (.cells #[.slice none 0 0] 30)) := (Fr.refl _ _).alloc _
  have HF := hid f0
  clear h f0
  go_enter Tryd.func44, Tryd.ntmps44
  go_wp2_with (first | (go_at_call 60; refine HC.out.mono ?_; rintro e w1 ⟨rfl, rfl⟩))
  go_ret2
  exact ⟨rfl, Fr.refl _ _⟩

set_option maxRecDepth 100000 in
set_option maxHeartbeats 2000000 in
theorem spPlacesL_any (m first segs : Nat) (h0 : 0 < segs) (hs : segs ≤ 512) (hm : m ≤ 8 * segs) (hf : first + segs ≤ 512) (w : World) (hG : NG ≤ w.heap.size) :
    Calls Tryd.prog 44 #[.int .i64 m, .int .i64 first, .int .i64 segs] w fun e w' => ∃ v, e = .returned (.tuple #[v, .int .i64 0]) ∧ RowI w' w.heap.size v (plcL m first segs) ∧ Fr Nil1 w w' := by
  refine (callsIn_wide (n := 3)).1 ?_
  obtain ⟨i0, hi, hz0, hz1, hz2⟩ := info_parts info_int
  have hch : spCheck (m : Int) first segs = 0 := by
    unfold spCheck
    rw [if_neg (by rw [(spOk_iff m segs).2 ⟨by omega, by omega⟩]; simp), if_pos (by omega)]
  have HC := hid (fun w => hch ▸ spCheck_any (m : Int) first segs w)
  have hmk := mk_cap (P := Tryd.prog) 30 3 (.int .i64 0) 8 Tryd.underlying30 info_int rfl (by decide) m (by omega)
  have HLen := hid (plcL_length m first segs h0)
  have HG := hid hG
  clear hch
  (refine callsIn_of_wp_marks Tryd.func44 rfl trivial ?_ rfl; simp only [Tryd.ntmps44, List.size_toArray, List.length_cons, List.length_nil, Nat.reduceAdd, Nat.reduceSub, Array.replicate_succ, Array.replicate_zero, List.push_toArray, List.append_toArray, List.nil_append, List.cons_append])
  gi_wp2_with (first | ((first | refine ⟨trivial, wideNo, ?_⟩ | refine ⟨trivial, ?_⟩); gi_at_call 60; refine (callsIn_wide.2 (HC.out _)).mono ?_; rintro e w1 ⟨rfl, rfl⟩) | ((first | refine ⟨trivial, wideNo, ?_⟩ | refine ⟨trivial, ?_⟩); gi_at_call 61; refine (callsIn_wide.2 (spPlaces_any _ _ _ _)).mono ?_; rintro e w1 ⟨rfl, rfl⟩))
  obtain ⟨Q, hQ⟩ : ∃ Q, w.heap.size = Q := ⟨_, rfl⟩
  have hfr0 : Fr Nil1 w (((((w.alloc (.cells (madeCells #[.int .i64 0] m) 3)).alloc (.cells #[.slice (some ⟨w.heap.size, 0, none⟩) 0 m] 30)).alloc (.cells #[.int .i64 m] 3)).alloc (.cells #[.int .i64 first] 3)).alloc (.cells #[.int .i64 segs] 3)) := (((((Fr.refl _ _).alloc _).alloc _).alloc _).alloc _).alloc _
  have hrow0 := (((((World.ownsRow_made (base := Q) (e := 3) (size := 1) w (madeCells #[.int .i64 0] m) m (by omega) (by unfold maxLen; omega) (by rw [size_madeCells]; simp)).alloc (.cells #[.slice (some ⟨w.heap.size, 0, none⟩) 0 m] 30)).alloc (.cells #[.int .i64 m] 3)).alloc (.cells #[.int .i64 first] 3)).alloc (.cells #[.int .i64 segs] 3))
  have hb1 := (((Has.new (w.alloc (.cells (madeCells #[.int .i64 0] m) 3)) [.slice (some ⟨w.heap.size, 0, none⟩) 0 m] 30).alloc (.cells #[.int .i64 m] 3)).alloc (.cells #[.int .i64 first] 3)).alloc (.cells #[.int .i64 segs] 3)
  have hb2 := ((Has.new ((w.alloc (.cells (madeCells #[.int .i64 0] m) 3)).alloc (.cells #[.slice (some ⟨w.heap.size, 0, none⟩) 0 m] 30)) [.int .i64 m] 3).alloc (.cells #[.int .i64 first] 3)).alloc (.cells #[.int .i64 segs] 3)
  have hb3 := (Has.new (((w.alloc (.cells (madeCells #[.int .i64 0] m) 3)).alloc (.cells #[.slice (some ⟨w.heap.size, 0, none⟩) 0 m] 30)).alloc (.cells #[.int .i64 m] 3)) [.int .i64 first] 3).alloc (.cells #[.int .i64 segs] 3)
  have hb4 := Has.new ((((w.alloc (.cells (madeCells #[.int .i64 0] m) 3)).alloc (.cells #[.slice (some ⟨w.heap.size, 0, none⟩) 0 m] 30)).alloc (.cells #[.int .i64 m] 3)).alloc (.cells #[.int .i64 first] 3)) [.int .i64 segs] 3
  simp only [World.size_alloc] at hb1 hb2 hb3 hb4
  obtain ⟨W0, hW0⟩ : ∃ W0, (((((w.alloc (.cells (madeCells #[.int .i64 0] m) 3)).alloc (.cells #[.slice (some ⟨w.heap.size, 0, none⟩) 0 m] 30)).alloc (.cells #[.int .i64 m] 3)).alloc (.cells #[.int .i64 first] 3)).alloc (.cells #[.int .i64 segs] 3)) = W0 := ⟨_, rfl⟩
  have hsz : W0.heap.size = w.heap.size + 5 := by rw [← hW0]; simp
  rw [hW0] at hfr0 hrow0 hb1 hb2 hb3 hb4 ⊢
  clear hW0 hmk
  rw [hQ] at hrow0 hb1 hb2 hb3 hb4 hsz hG ⊢
  have HFr := hid hfr0
  refine wpIn_rangeFunc_ownG rfl (by omega) (gf := 75) (lb := #[.pointer (some ⟨Q + 2, 0, none⟩), .pointer (some ⟨Q + 4, 0, none⟩), .pointer (some ⟨Q + 3, 0, none⟩)]) rfl trivial (enters_of Tryd.func75 (by kernel_rfl) rfl)
    (spPlaces_stops _ (Q + 2) (Q + 4) (Q + 3) m first segs h0 hs hm (by omega) W0 hb2 hb4 hb3) (fun h k => h.trans k) (fun W l o o' hl ho hc hw => KeepC.putObj _ W l o o' ho hc) (Below.refl _ _) (fun _ => rfl)
    (fun pre W => Has W (Q + 1) [.slice (some ⟨Q, 0, none⟩) pre.length m] 30 ∧ W.ownsRow Q 3 1 (.slice (some ⟨Q, 0, none⟩) pre.length m) pre.length (pre.map (Value.int .i64)) ∧ Fr Nil1 w W ∧ Q + 5 ≤ W.heap.size)
    (fun _ _ _ => False)
    (fun s A B row hs hg hrow => ⟨hs.1.grownBy hg (fun r e => (hrow r e).2), own_same hs.2.1 (hg.block Q (by have := hs.2.2.2; omega) (fun e => by have := (hrow Q e.symm).1; omega)), hs.2.2.1.grownBy hg hrow (by omega) HG.out, Nat.le_trans hs.2.2.2 hg.size⟩)
    (fun _ _ _ _ _ hs _ _ => hs)
    ⟨hb1, hrow0, hfr0, by omega⟩
    (fun x => { tmps := #[.int .i64 m, .int .i64 first, .int .i64 segs, undef, undef, undef, .slice none 0 0, .int .i64 0, .int .i64 0, .pointer (some ⟨Q + 1, 0, none⟩), .int .i64 x, .int .i64 m, .int .i64 first, .int .i64 segs, .int .i64 0, .int .i64 0, .bool false, undef, .int .i64 m, .slice (some ⟨Q, 0, none⟩) 0 m, .int .i64 m, .int .i64 first, .int .i64 segs,
      .func (.func 75) #[] #[.pointer (some ⟨Q + 2, 0, none⟩), .pointer (some ⟨Q + 4, 0, none⟩), .pointer (some ⟨Q + 3, 0, none⟩)], .int .i64 x, undef, undef, undef, undef, undef], defers := [] }) ?assign ?body ?done ?stop
  case assign =>
    intro l x W K hK
    unfold encN
    gi_wp2
    exact hK
  case body =>
    rintro l pre x W ⟨hv, hrow, hB, hWs⟩ hlt
    rw [HLen.out] at hlt
    obtain ⟨hc, hfz⟩ := hv.one
    have Hv := hid hv
    have Hrow := hid hrow
    have HB := hid hB
    clear hv hrow hB hfr0 hrow0 hb1 hb2 hb3 hb4
    gi_wp2_with (gi_at_builtin; refine wpListIn_append_fits _ rfl _ _ 30 rfl Q 3 i0 1 Tryd.underlying30 hi hz1 Q _ m _ rfl (Hrow.out.alloc _) ⟨W.heap.size, 0, none⟩ 1 1 [.int .i64 x] rfl rfl (cell_one_new _ _ _) (by simp [Value.oneCell']) (by omega) ?_; intro w1 hown' hgrow; have hv1 : Has w1 (Q + 1) [.slice (some ⟨Q, 0, none⟩) pre.length m] 30 := (hgrow.block (Q + 1) (by simp; omega) (by simp)).trans (Hv.out.alloc _); obtain ⟨hc1, hf1⟩ := hv1.one; have HGr := hid hgrow; have HOw := hid hown'; have HV1 := hid hv1; clear hgrow hown' hv1)
    have hws := HGr.out.size
    rw [World.size_alloc] at hws
    have hs : Fr (fun k => k = Q ∨ k = Q + 1) W (w1.setCell ⟨Q + 1, 0, none⟩ (.slice (some ⟨Q, 0, none⟩) (pre.length + 1) m)) :=
      (((Fr.refl _ _).alloc _).grown HGr.out (fun k e => by cases e; omega) (fun k e _ => by cases e; exact .inl rfl)).setCell _ _ (by show NG ≤ Q + 1; omega) (fun _ => .inr rfl)
    refine ⟨((KeepsFrom.of_grownBy (World.grownBy_alloc W _ none) (fun j e => by cases e)).trans (KeepsFrom.of_grownBy HGr.out (fun j e => by cases e; omega))).trans ((KeepsOthers.setCell _ _ _).from _), KeepC.of_fr hs (fun k hk => by omega), ?_, ?_, HB.out.trans' hs (fun k _ hk h => by omega), Nat.le_trans hWs hs.size⟩
    · rw [List.length_append]
      exact HV1.out.set 0 _
    · rw [List.length_append, List.map_append]
      exact own_same HOw.out ((grownBy_setCell' w1 (Q + 1) _).block Q (by have := HGr.out.size; rw [World.size_alloc] at this; omega) (by simp))
  case done =>
    rintro D ys W hD rfl ⟨hv, hrow, hB, hWs⟩ hK
    obtain ⟨hc, hfz⟩ := hv.one
    gi_wp2
    refine ⟨by simp, .inl ⟨_, _, rfl, run_takeDeferred hK, ?_⟩⟩
    refine ⟨.tuple #[.slice (some ⟨Q, 0, none⟩) (plcL m first segs).length m, .int .i64 0], ?_, _, rfl, ?_, hB.putObj D _ (by omega) HG.out⟩
    · simp [results, Tryd.f44, go_sem]
    · rw [hQ]
      exact own_same hrow (World.putObj_heap_other (by omega))
  case stop =>
    rintro D c pre W _ _ h _
    exact h.elim
end Go.Proofs.YtonoaklajnfmiaaDoor
