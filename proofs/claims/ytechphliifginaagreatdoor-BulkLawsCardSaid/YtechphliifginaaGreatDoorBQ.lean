/- bulk.of for Both, Minus; bulk.Union, Both, Minus, Make. -/
import Derived.Test.YtechphliifginaaGreatDoorBO
import Derived.Test.YtechphliifginaaGreatDoorBT
set_option linter.unusedVariables false
set_option linter.unusedSimpArgs false
namespace Go.Proofs.YtechphliifginaaGreatDoor
open Go.RowKit Go.Shelf
attribute [local go_sem] Oper.semAt_some

set_option maxRecDepth 100000 in
set_option maxHeartbeats 8000000 in
theorem bulkOf_Both {wa wb w : World} {a b : Nat} {ka kb : List Int} (hA : SS wa a ka w) (hB : SS wb b kb w) (hl : ka.length + kb.length ≤ 2560) (hg : GW w) :
    Calls Tryz.prog 121 #[.pointer (some ⟨a, 0, none⟩), .pointer (some ⟨b, 0, none⟩), .func (.func 123) #[] #[]] w fun e w' => ∃ s : Nat, e = .returned (.tuple #[.pointer (some ⟨s, 0, none⟩), .int .i64 0]) ∧ Hid (SS w s (pickL tkB ka kb) w') := by
  refine (callsIn_wide (n := 3)).1 ?_
  have hG := hg.size
  refine callsIn_of_wp_marks Tryz.func121 rfl trivial ?_ rfl
  simp only [Tryz.ntmps121, List.size_toArray, List.length_cons, List.length_nil, Nat.reduceAdd, Nat.reduceSub, Array.replicate_succ, Array.replicate_zero, List.push_toArray, List.append_toArray, List.nil_append, List.cons_append]
  have HA := hid hA
  have HB := hid hB
  have HGw := hid hg
  have HL := hid hl
  clear hA hB hg hl
  have b1 := (Has.new w [.func (.func 123) #[] #[]] 142).alloc (.cells #[.slice none 0 0] 30)
  have b2 := Has.new (w.alloc (.cells #[.func (.func 123) #[] #[]] 142)) [.slice none 0 0] 30
  simp only [World.size_alloc] at b2
  have hf0 : Fr Nil1 w ((w.alloc (.cells #[.func (.func 123) #[] #[]] 142)).alloc (.cells #[.slice none 0 0] 30)) := ((Fr.refl _ _).alloc _).alloc _
  have hs0 : ((w.alloc (.cells #[.func (.func 123) #[] #[]] 142)).alloc (.cells #[.slice none 0 0] 30)).heap.size = w.heap.size + 2 := by simp
  obtain ⟨w1, hw1⟩ : ∃ w1, (w.alloc (.cells #[.func (.func 123) #[] #[]] 142)).alloc (.cells #[.slice none 0 0] 30) = w1 := ⟨_, rfl⟩
  have HW1 := hid hw1
  rw [hw1] at b1 b2 hf0 hs0
  have HB1 := hid b1
  have HB2 := hid b2
  have HF0 := hid hf0
  have HKa := hid ((HA.out.new hf0).keysR)
  clear hw1 b1 b2 hf0
  gi_wp2_with (first
    | ((first | refine ⟨trivial, wideNo, ?_⟩ | refine ⟨trivial, ?_⟩); gi_at_call 170; refine (callsIn_wide.2 (bulkSide_any B1 B2 ka.length kb.length c1 c2 w3)).mono ?_; rintro e w4 ⟨rfl, rfl⟩)
    | ((first | refine ⟨trivial, wideNo, ?_⟩ | refine ⟨trivial, ?_⟩); gi_at_call 51; refine (callsIn_wide.2 ((HB.out.new (HF0.out.trans H2.out.2)).keysR)).mono ?_; rintro e w3 ⟨vb, rfl, H3⟩; obtain ⟨B2, c2, gb, rfl, q2⟩ := row_sd H3.out.1 (by have := HL.out; omega) w.heap.size; have Q2 := hid q2; clear q2)
    | ((first | refine ⟨trivial, wideNo, ?_⟩ | refine ⟨trivial, ?_⟩); gi_at_call 51; rw [HW1.out]; refine (callsIn_wide.2 HKa.out).mono ?_; rintro e w2 ⟨va, rfl, H2⟩; obtain ⟨B1, c1, ga, rfl, q1⟩ := row_sd H2.out.1 (by have := HL.out; omega) w.heap.size; have Q1 := hid q1; clear q1))
  obtain ⟨i0, hi0, hz0, hz1, hz2⟩ := info_parts info_int
  obtain ⟨P0, hP0⟩ : ∃ P0, w.heap.size = P0 := ⟨_, rfl⟩
  obtain ⟨R, hR⟩ : ∃ R, w3.heap.size = R := ⟨_, rfl⟩
  have hf3 := H2.out.2.trans H3.out.2
  have hs1 : w1.heap.size ≤ w2.heap.size := H2.out.2.size
  have hs2 : w2.heap.size ≤ w3.heap.size := H3.out.2.size
  have n1 := (Has.new w3 [.slice B1 ka.length c1] 30).alloc (.cells #[.slice B2 kb.length c2] 30)
  have n2 := Has.new (w3.alloc (.cells #[.slice B1 ka.length c1] 30)) [.slice B2 kb.length c2] 30
  have hfB : Fr Nil1 w3 ((w3.alloc (.cells #[.slice B1 ka.length c1] 30)).alloc (.cells #[.slice B2 kb.length c2] 30)) := ((Fr.refl _ _).alloc _).alloc _
  have hs4 : ((w3.alloc (.cells #[.slice B1 ka.length c1] 30)).alloc (.cells #[.slice B2 kb.length c2] 30)).heap.size = w3.heap.size + 2 := by simp
  simp only [World.size_alloc] at n2
  obtain ⟨W4, hW4⟩ : ∃ W4, (w3.alloc (.cells #[.slice B1 ka.length c1] 30)).alloc (.cells #[.slice B2 kb.length c2] 30) = W4 := ⟨_, rfl⟩
  rw [hW4] at n1 n2 hfB hs4 ⊢
  rw [hR] at n1 n2 hs4 hs2 ⊢
  obtain ⟨c11, c12, c13, c14⟩ := Q1.out
  obtain ⟨c21, c22, c23, c24⟩ := Q2.out
  rw [hP0] at hG hs0 c14 c24 ⊢
  have hgaR : ga < R ∧ P0 ≤ ga := by omega
  have hgbR : gb < R ∧ P0 ≤ gb := by omega
  have hga1 : ga ≠ P0 + 1 := by omega
  have hgb1 : gb ≠ P0 + 1 := by omega
  have HSa : SdB W4 R ga ka 0 := ⟨⟨B1, c1, by simpa using n1, by omega, fun h => c12 h⟩, fun k hk => (H3.out.2.trans hfB).cell (c13 k hk) id, by omega⟩
  have HSb : SdB W4 (R + 1) gb kb 0 := ⟨⟨B2, c2, by simpa using n2, by omega, fun h => c22 h⟩, fun k hk => hfB.cell (c23 k hk) id, by omega⟩
  have hfA : Fr Nil1 w W4 := HF0.out.trans (hf3.trans hfB)
  have hb1 := hP0 ▸ (HB1.out.fr' (hf3.trans hfB) id)
  have hb2 := hP0 ▸ (HB2.out.fr' (hf3.trans hfB) id)
  have HUa := hid HA.out.up
  have HUb := hid HB.out.up
  have hLn := HL.out
  clear n1 n2 hW4 hR
  refine wpIn_rangeZ (α := Int × Bool × Bool) (by omega) (by omega) (T := SdT R (R + 1) ga gb) (by rintro k (rfl | rfl | rfl | rfl) <;> omega) (gf := 193) (lb := #[.pointer (some ⟨R, 0, none⟩), .pointer (some ⟨R + 1, 0, none⟩)]) rfl (enters_of Tryz.func193 (by kernel_rfl) rfl)
    (So := SdO R (R + 1)) (by rintro k (rfl | rfl) <;> omega)
    (bulkSide1_Y _ (by omega) (by omega) HUa.out HUb.out HSa HSb (by omega) (by omega) (by omega)) (fun _ => rfl)
    (fun X (pre : List (Int × Bool × Bool)) (W : World) => (∃ v, Has W P0 [.func (.func 123) #[] #[]] 142 ∧ Has W (P0 + 1) [v] 30 ∧ RowI W X v (tookL tkB pre) ∧ W4.heap.size ≤ X) ∧ Fr Nil1 w W)
    (fun _ _ _ => False) (fun _ _ _ _ => trivial)
    (fun X pre A B row hs hg hrow => ⟨(by obtain ⟨⟨v, h1, h2, h3, h4⟩, _⟩ := hs; exact ⟨v, h1.grownBy hg (fun r e => (hrow r e).2), h2.grownBy hg (fun r e => (hrow r e).2), own_grown h3 hg (fun r e => (hrow r e).2), h4⟩), hs.2.grownBy hg hrow (by omega) (by omega)⟩)
    (fun X pre U V hs hf => ⟨(by
      obtain ⟨⟨v, h1, h2, h3, h4⟩, _⟩ := hs
      exact ⟨v, h1.fr' hf (fun s => by rcases s with s | s <;> omega), h2.fr' hf (fun s => by rcases s with s | s <;> omega), RowI.fr h3 hf (fun k hk s => by rcases s with s | s <;> omega), h4⟩), hs.2.trans' hf (fun j hj hl s => by rcases s with s | s <;> omega)⟩)
    (fun _ _ _ _ _ hs _ _ => hs)
    (fun X hX => ⟨⟨_, hb1, hb2, World.ownsRow_nil _ _ _ _, hX⟩, hfA⟩)
    (fun x q => { tmps := #[.pointer (some ⟨a, 0, none⟩), .pointer (some ⟨b, 0, none⟩), .func (.func 123) #[] #[], undef, undef, .pointer (some ⟨P0, 0, none⟩), .pointer none, .int .i64 0, .pointer (some ⟨P0 + 1, 0, none⟩), .int .i64 x.1, .pointer (some ⟨q, 0, none⟩), .pointer (some ⟨a, 0, none⟩), .bool false, .bool false, .pointer (some ⟨b, 0, none⟩), .bool false, .bool false, .pointer (some ⟨a, 0, none⟩), .slice B1 ka.length c1, .pointer (some ⟨b, 0, none⟩), .slice B2 kb.length c2, .func (.func 193) #[] #[.pointer (some ⟨R, 0, none⟩), .pointer (some ⟨R + 1, 0, none⟩)], .int .i64 x.1, .agg #[.bool x.2.1, .bool x.2.2], undef, undef, undef, undef, undef, undef, undef, undef, undef, undef, undef], defers := [] })
    (fun x q W => Has W q [.bool x.2.1, .bool x.2.2] 141) (fun x q W1 l o hlq h => (World.putObj_heap_other (by omega)).trans h) ?assign ?body ?done ?stop
  case assign =>
    intro l x W K hK
    unfold encSd
    gi_wp2
    exact hK W.heap.size _ ((Fr.refl _ _).alloc _) (Nat.le_refl _) (by simp) (Has.new W _ _)
  case body =>
    rintro l X pre x q W hX hXW hXq hqs hbx ⟨⟨v, ht, ho, hrow, hX4⟩, hF⟩ hlt
    obtain ⟨e0, _⟩ := ht.one
    obtain ⟨e1, f1⟩ := ho.one
    obtain ⟨e2, e3, _⟩ := hbx.two
    have Hrow := hid hrow
    have HB := hid hF
    have HO := hid ho
    have HT := hid ht
    have HN := hid (And.intro hX4 (And.intro hX hXW))
    have hpl : (tookL tkB pre).length ≤ 2560 := by have := tookL_len tkB pre; omega
    have hent : ∀ (args : Array Value) (W : World), Sem.run Tryz.prog (callFunc 123 args) W = .ok (.enter 123 args) W := enters_of Tryz.func123 (by kernel_rfl) rfl
    obtain ⟨x0, xa, xb⟩ := x
    obtain ⟨z, hz⟩ : ∃ z, tkB xa xb = z := ⟨_, rfl⟩
    have HTk := hid (fun wz => hz ▸ bulkBoth1_any xa xb wz)
    have HZ := hid hz
    clear hF ho ht hrow hX4 hz
    cases z with
    | true =>
      gi_wp2_with (first
        | ((first | refine ⟨trivial, wideNo, ?_⟩ | refine ⟨trivial, ?_⟩); gi_at_call 123; refine (callsIn_wide.2 (HTk.out W)).mono ?_; rintro e W5 ⟨rfl, h5⟩; have HF5 := hid h5; have hs5 : W.heap.size ≤ W5.heap.size := h5.size; have HO5 := hid (HO.out.fr' h5 id); have HR5 := hid (show RowI W5 X v (tookL tkB pre) from Hrow.out.new h5); obtain ⟨c5, f5⟩ := HO5.out.one; clear h5)
        | (gi_at_builtin; refine wpListIn_append_own _ rfl _ _ 30 rfl X 3 i0 (.int .i64 0) 1 8 Tryz.underlying30 hi0 hz0 hz1 hz2 rfl (by decide) _ _ _ rfl (HR5.out.alloc _) ⟨W5.heap.size, 0, none⟩ 1 1 [.int .i64 x0] rfl rfl (cell_one_new _ _ _) (by simp [Value.oneCell']) (by unfold maxLen; omega) (by omega) (by simp; omega) ?_; intro v' w1 hown' hgrow _; obtain ⟨g', cap', rfl⟩ := ownsRow_succ hown'; obtain ⟨hv1, hv2, hr2, hk2, hb2⟩ := HO5.out.appended (by decide) HR5.out (by omega) hown' hgrow; obtain ⟨hc1, hf1⟩ := hv1.one; have hgrow' := hid hgrow; clear hgrow))
      have hg1 : (W5.alloc (.cells #[.int .i64 x0] 3)).grownBy w1 v.ownBlock := hgrow'.out
      have hbl := own_block HR5.out
      have hn := HN.out
      have kx1 : KeepX (SdT R (R + 1) ga gb) W4.heap.size X W W5 := KeepX.of_fr HF5.out (fun _ _ h => h) (fun _ h => h.elim) (fun _ _ h => h.elim)
      have kx2 : KeepX (SdT R (R + 1) ga gb) W4.heap.size X W5 (w1.setCell ⟨P0 + 1, 0, none⟩ _) := KeepX.appended hk2 hg1 (fun k hk => ⟨by
        rcases hk with hk | (rfl | rfl | rfl | rfl) | hk <;> omega, fun e => by
        have h1 := hbl k e.symm
        rcases hk with hk | (rfl | rfl | rfl | rfl) | hk <;> omega⟩)
      refine ⟨kx1.trans kx2, ⟨.slice (some ⟨g', 0, none⟩) ((tookL tkB pre).length + 1) cap', ?_, hv2, ?_, HN.out.1⟩, (HB.out.trans HF5.out).appended hg1 (by omega) (fun j e => by have := hbl j e; omega) (by omega)⟩
      · exact (hb2 P0 (by omega) (by omega)).trans (HT.out.fr' HF5.out id)
      · rw [tookL_snoc]
        show RowI _ X _ (tookL tkB pre ++ if tkB xa xb = true then [x0] else [])
        rw [HZ.out, if_pos rfl]
        unfold RowI
        rw [List.length_append, List.map_append]
        exact hr2
    | false =>
      gi_wp2_with (first
        | ((first | refine ⟨trivial, wideNo, ?_⟩ | refine ⟨trivial, ?_⟩); gi_at_call 123; refine (callsIn_wide.2 (HTk.out W)).mono ?_; rintro e W5 ⟨rfl, h5⟩; have HF5 := hid h5; clear h5))
      have kx1 : KeepX (SdT R (R + 1) ga gb) W4.heap.size X W W5 := KeepX.of_fr HF5.out (fun _ _ h => h) (fun _ h => h.elim) (fun _ _ h => h.elim)
      refine ⟨kx1, ⟨v, HT.out.fr' HF5.out id, HO.out.fr' HF5.out id, ?_, HN.out.1⟩, HB.out.trans HF5.out⟩
      rw [tookL_snoc]
      show RowI _ X _ (tookL tkB pre ++ if tkB xa xb = true then [x0] else [])
      rw [HZ.out, if_neg (by simp), List.append_nil]
      exact Hrow.out.new HF5.out
  case done =>
    rintro D X ys W hD hys ⟨⟨v, ht, ho, hrow, hX4⟩, hF⟩ hK
    obtain ⟨e1, f1⟩ := ho.one
    have hto := hys.took HUa.out tkB
    rw [hto] at hrow
    have hpl := pickL_len tkB ka kb
    have HOf := hid (SS.of (pickL tkB ka kb) (up_pickL _ HUa.out _) (by omega) (RowI.rd hrow (by omega)) (HGw.out.fr hF))
    have HB := hid hF
    have HK := hid hK
    clear hK hF hrow ho ht hys hto
    gi_wp2_with (first
      | ((first | refine ⟨trivial, wideNo, ?_⟩ | refine ⟨trivial, ?_⟩); gi_at_call 94; refine (callsIn_wide.2 HOf.out).mono ?_; rintro e W6 ⟨s, rfl, H6⟩))
    have hD6 : W6.heap[D]? = some (.deferred (some [])) := (H6.out.fr.block D (Array.getElem?_eq_some_iff.1 HK.out).1 (fun s => s.elim)).trans HK.out
    refine ⟨by simp, .inl ⟨_, _, rfl, run_takeDeferred hD6, ?_⟩⟩
    refine ⟨.tuple #[.pointer (some ⟨s, 0, none⟩), .int .i64 0], by simp [results, Tryz.f121, go_sem], s, rfl, hid ?_⟩
    obtain ⟨p, F, σ, h, evs, aa, ee⟩ := H6.out.ex
    have hDW := (Array.getElem?_eq_some_iff.1 HK.out).1
    have hfr : Fr (fun k => k = D) W6 (W6.putObj D (.deferred none)) := (Fr.refl _ _).grown (grownBy_putObj' W6 D _) (fun k e => by injection e with e; omega) (fun k e _ => by injection e with e; exact e.symm)
    exact ⟨⟨p, F, σ, h, evs, (aa.base HB.out).frS hfr (fun k hk => ⟨fun hs => by have := aa.geB k hs; omega, by omega⟩), ee⟩, H6.out.up, (HB.out.trans H6.out.fr).putObj D _ (by omega) (by omega)⟩
  case stop =>
    rintro D c pre W _ _ h _
    exact h.elim
set_option maxRecDepth 100000 in
set_option maxHeartbeats 8000000 in
theorem bulkOf_Minus {wa wb w : World} {a b : Nat} {ka kb : List Int} (hA : SS wa a ka w) (hB : SS wb b kb w) (hl : ka.length + kb.length ≤ 2560) (hg : GW w) :
    Calls Tryz.prog 121 #[.pointer (some ⟨a, 0, none⟩), .pointer (some ⟨b, 0, none⟩), .func (.func 124) #[] #[]] w fun e w' => ∃ s : Nat, e = .returned (.tuple #[.pointer (some ⟨s, 0, none⟩), .int .i64 0]) ∧ Hid (SS w s (pickL tkM ka kb) w') := by
  refine (callsIn_wide (n := 3)).1 ?_
  have hG := hg.size
  refine callsIn_of_wp_marks Tryz.func121 rfl trivial ?_ rfl
  simp only [Tryz.ntmps121, List.size_toArray, List.length_cons, List.length_nil, Nat.reduceAdd, Nat.reduceSub, Array.replicate_succ, Array.replicate_zero, List.push_toArray, List.append_toArray, List.nil_append, List.cons_append]
  have HA := hid hA
  have HB := hid hB
  have HGw := hid hg
  have HL := hid hl
  clear hA hB hg hl
  have b1 := (Has.new w [.func (.func 124) #[] #[]] 142).alloc (.cells #[.slice none 0 0] 30)
  have b2 := Has.new (w.alloc (.cells #[.func (.func 124) #[] #[]] 142)) [.slice none 0 0] 30
  simp only [World.size_alloc] at b2
  have hf0 : Fr Nil1 w ((w.alloc (.cells #[.func (.func 124) #[] #[]] 142)).alloc (.cells #[.slice none 0 0] 30)) := ((Fr.refl _ _).alloc _).alloc _
  have hs0 : ((w.alloc (.cells #[.func (.func 124) #[] #[]] 142)).alloc (.cells #[.slice none 0 0] 30)).heap.size = w.heap.size + 2 := by simp
  obtain ⟨w1, hw1⟩ : ∃ w1, (w.alloc (.cells #[.func (.func 124) #[] #[]] 142)).alloc (.cells #[.slice none 0 0] 30) = w1 := ⟨_, rfl⟩
  have HW1 := hid hw1
  rw [hw1] at b1 b2 hf0 hs0
  have HB1 := hid b1
  have HB2 := hid b2
  have HF0 := hid hf0
  have HKa := hid ((HA.out.new hf0).keysR)
  clear hw1 b1 b2 hf0
  gi_wp2_with (first
    | ((first | refine ⟨trivial, wideNo, ?_⟩ | refine ⟨trivial, ?_⟩); gi_at_call 170; refine (callsIn_wide.2 (bulkSide_any B1 B2 ka.length kb.length c1 c2 w3)).mono ?_; rintro e w4 ⟨rfl, rfl⟩)
    | ((first | refine ⟨trivial, wideNo, ?_⟩ | refine ⟨trivial, ?_⟩); gi_at_call 51; refine (callsIn_wide.2 ((HB.out.new (HF0.out.trans H2.out.2)).keysR)).mono ?_; rintro e w3 ⟨vb, rfl, H3⟩; obtain ⟨B2, c2, gb, rfl, q2⟩ := row_sd H3.out.1 (by have := HL.out; omega) w.heap.size; have Q2 := hid q2; clear q2)
    | ((first | refine ⟨trivial, wideNo, ?_⟩ | refine ⟨trivial, ?_⟩); gi_at_call 51; rw [HW1.out]; refine (callsIn_wide.2 HKa.out).mono ?_; rintro e w2 ⟨va, rfl, H2⟩; obtain ⟨B1, c1, ga, rfl, q1⟩ := row_sd H2.out.1 (by have := HL.out; omega) w.heap.size; have Q1 := hid q1; clear q1))
  obtain ⟨i0, hi0, hz0, hz1, hz2⟩ := info_parts info_int
  obtain ⟨P0, hP0⟩ : ∃ P0, w.heap.size = P0 := ⟨_, rfl⟩
  obtain ⟨R, hR⟩ : ∃ R, w3.heap.size = R := ⟨_, rfl⟩
  have hf3 := H2.out.2.trans H3.out.2
  have hs1 : w1.heap.size ≤ w2.heap.size := H2.out.2.size
  have hs2 : w2.heap.size ≤ w3.heap.size := H3.out.2.size
  have n1 := (Has.new w3 [.slice B1 ka.length c1] 30).alloc (.cells #[.slice B2 kb.length c2] 30)
  have n2 := Has.new (w3.alloc (.cells #[.slice B1 ka.length c1] 30)) [.slice B2 kb.length c2] 30
  have hfB : Fr Nil1 w3 ((w3.alloc (.cells #[.slice B1 ka.length c1] 30)).alloc (.cells #[.slice B2 kb.length c2] 30)) := ((Fr.refl _ _).alloc _).alloc _
  have hs4 : ((w3.alloc (.cells #[.slice B1 ka.length c1] 30)).alloc (.cells #[.slice B2 kb.length c2] 30)).heap.size = w3.heap.size + 2 := by simp
  simp only [World.size_alloc] at n2
  obtain ⟨W4, hW4⟩ : ∃ W4, (w3.alloc (.cells #[.slice B1 ka.length c1] 30)).alloc (.cells #[.slice B2 kb.length c2] 30) = W4 := ⟨_, rfl⟩
  rw [hW4] at n1 n2 hfB hs4 ⊢
  rw [hR] at n1 n2 hs4 hs2 ⊢
  obtain ⟨c11, c12, c13, c14⟩ := Q1.out
  obtain ⟨c21, c22, c23, c24⟩ := Q2.out
  rw [hP0] at hG hs0 c14 c24 ⊢
  have hgaR : ga < R ∧ P0 ≤ ga := by omega
  have hgbR : gb < R ∧ P0 ≤ gb := by omega
  have hga1 : ga ≠ P0 + 1 := by omega
  have hgb1 : gb ≠ P0 + 1 := by omega
  have HSa : SdB W4 R ga ka 0 := ⟨⟨B1, c1, by simpa using n1, by omega, fun h => c12 h⟩, fun k hk => (H3.out.2.trans hfB).cell (c13 k hk) id, by omega⟩
  have HSb : SdB W4 (R + 1) gb kb 0 := ⟨⟨B2, c2, by simpa using n2, by omega, fun h => c22 h⟩, fun k hk => hfB.cell (c23 k hk) id, by omega⟩
  have hfA : Fr Nil1 w W4 := HF0.out.trans (hf3.trans hfB)
  have hb1 := hP0 ▸ (HB1.out.fr' (hf3.trans hfB) id)
  have hb2 := hP0 ▸ (HB2.out.fr' (hf3.trans hfB) id)
  have HUa := hid HA.out.up
  have HUb := hid HB.out.up
  have hLn := HL.out
  clear n1 n2 hW4 hR
  refine wpIn_rangeZ (α := Int × Bool × Bool) (by omega) (by omega) (T := SdT R (R + 1) ga gb) (by rintro k (rfl | rfl | rfl | rfl) <;> omega) (gf := 193) (lb := #[.pointer (some ⟨R, 0, none⟩), .pointer (some ⟨R + 1, 0, none⟩)]) rfl (enters_of Tryz.func193 (by kernel_rfl) rfl)
    (So := SdO R (R + 1)) (by rintro k (rfl | rfl) <;> omega)
    (bulkSide1_Y _ (by omega) (by omega) HUa.out HUb.out HSa HSb (by omega) (by omega) (by omega)) (fun _ => rfl)
    (fun X (pre : List (Int × Bool × Bool)) (W : World) => (∃ v, Has W P0 [.func (.func 124) #[] #[]] 142 ∧ Has W (P0 + 1) [v] 30 ∧ RowI W X v (tookL tkM pre) ∧ W4.heap.size ≤ X) ∧ Fr Nil1 w W)
    (fun _ _ _ => False) (fun _ _ _ _ => trivial)
    (fun X pre A B row hs hg hrow => ⟨(by obtain ⟨⟨v, h1, h2, h3, h4⟩, _⟩ := hs; exact ⟨v, h1.grownBy hg (fun r e => (hrow r e).2), h2.grownBy hg (fun r e => (hrow r e).2), own_grown h3 hg (fun r e => (hrow r e).2), h4⟩), hs.2.grownBy hg hrow (by omega) (by omega)⟩)
    (fun X pre U V hs hf => ⟨(by
      obtain ⟨⟨v, h1, h2, h3, h4⟩, _⟩ := hs
      exact ⟨v, h1.fr' hf (fun s => by rcases s with s | s <;> omega), h2.fr' hf (fun s => by rcases s with s | s <;> omega), RowI.fr h3 hf (fun k hk s => by rcases s with s | s <;> omega), h4⟩), hs.2.trans' hf (fun j hj hl s => by rcases s with s | s <;> omega)⟩)
    (fun _ _ _ _ _ hs _ _ => hs)
    (fun X hX => ⟨⟨_, hb1, hb2, World.ownsRow_nil _ _ _ _, hX⟩, hfA⟩)
    (fun x q => { tmps := #[.pointer (some ⟨a, 0, none⟩), .pointer (some ⟨b, 0, none⟩), .func (.func 124) #[] #[], undef, undef, .pointer (some ⟨P0, 0, none⟩), .pointer none, .int .i64 0, .pointer (some ⟨P0 + 1, 0, none⟩), .int .i64 x.1, .pointer (some ⟨q, 0, none⟩), .pointer (some ⟨a, 0, none⟩), .bool false, .bool false, .pointer (some ⟨b, 0, none⟩), .bool false, .bool false, .pointer (some ⟨a, 0, none⟩), .slice B1 ka.length c1, .pointer (some ⟨b, 0, none⟩), .slice B2 kb.length c2, .func (.func 193) #[] #[.pointer (some ⟨R, 0, none⟩), .pointer (some ⟨R + 1, 0, none⟩)], .int .i64 x.1, .agg #[.bool x.2.1, .bool x.2.2], undef, undef, undef, undef, undef, undef, undef, undef, undef, undef, undef], defers := [] })
    (fun x q W => Has W q [.bool x.2.1, .bool x.2.2] 141) (fun x q W1 l o hlq h => (World.putObj_heap_other (by omega)).trans h) ?assign ?body ?done ?stop
  case assign =>
    intro l x W K hK
    unfold encSd
    gi_wp2
    exact hK W.heap.size _ ((Fr.refl _ _).alloc _) (Nat.le_refl _) (by simp) (Has.new W _ _)
  case body =>
    rintro l X pre x q W hX hXW hXq hqs hbx ⟨⟨v, ht, ho, hrow, hX4⟩, hF⟩ hlt
    obtain ⟨e0, _⟩ := ht.one
    obtain ⟨e1, f1⟩ := ho.one
    obtain ⟨e2, e3, _⟩ := hbx.two
    have Hrow := hid hrow
    have HB := hid hF
    have HO := hid ho
    have HT := hid ht
    have HN := hid (And.intro hX4 (And.intro hX hXW))
    have hpl : (tookL tkM pre).length ≤ 2560 := by have := tookL_len tkM pre; omega
    have hent : ∀ (args : Array Value) (W : World), Sem.run Tryz.prog (callFunc 124 args) W = .ok (.enter 124 args) W := enters_of Tryz.func124 (by kernel_rfl) rfl
    obtain ⟨x0, xa, xb⟩ := x
    obtain ⟨z, hz⟩ : ∃ z, tkM xa xb = z := ⟨_, rfl⟩
    have HTk := hid (fun wz => hz ▸ bulkMinus1_any xa xb wz)
    have HZ := hid hz
    clear hF ho ht hrow hX4 hz
    cases z with
    | true =>
      gi_wp2_with (first
        | ((first | refine ⟨trivial, wideNo, ?_⟩ | refine ⟨trivial, ?_⟩); gi_at_call 124; refine (callsIn_wide.2 (HTk.out W)).mono ?_; rintro e W5 ⟨rfl, h5⟩; have HF5 := hid h5; have hs5 : W.heap.size ≤ W5.heap.size := h5.size; have HO5 := hid (HO.out.fr' h5 id); have HR5 := hid (show RowI W5 X v (tookL tkM pre) from Hrow.out.new h5); obtain ⟨c5, f5⟩ := HO5.out.one; clear h5)
        | (gi_at_builtin; refine wpListIn_append_own _ rfl _ _ 30 rfl X 3 i0 (.int .i64 0) 1 8 Tryz.underlying30 hi0 hz0 hz1 hz2 rfl (by decide) _ _ _ rfl (HR5.out.alloc _) ⟨W5.heap.size, 0, none⟩ 1 1 [.int .i64 x0] rfl rfl (cell_one_new _ _ _) (by simp [Value.oneCell']) (by unfold maxLen; omega) (by omega) (by simp; omega) ?_; intro v' w1 hown' hgrow _; obtain ⟨g', cap', rfl⟩ := ownsRow_succ hown'; obtain ⟨hv1, hv2, hr2, hk2, hb2⟩ := HO5.out.appended (by decide) HR5.out (by omega) hown' hgrow; obtain ⟨hc1, hf1⟩ := hv1.one; have hgrow' := hid hgrow; clear hgrow))
      have hg1 : (W5.alloc (.cells #[.int .i64 x0] 3)).grownBy w1 v.ownBlock := hgrow'.out
      have hbl := own_block HR5.out
      have hn := HN.out
      have kx1 : KeepX (SdT R (R + 1) ga gb) W4.heap.size X W W5 := KeepX.of_fr HF5.out (fun _ _ h => h) (fun _ h => h.elim) (fun _ _ h => h.elim)
      have kx2 : KeepX (SdT R (R + 1) ga gb) W4.heap.size X W5 (w1.setCell ⟨P0 + 1, 0, none⟩ _) := KeepX.appended hk2 hg1 (fun k hk => ⟨by
        rcases hk with hk | (rfl | rfl | rfl | rfl) | hk <;> omega, fun e => by
        have h1 := hbl k e.symm
        rcases hk with hk | (rfl | rfl | rfl | rfl) | hk <;> omega⟩)
      refine ⟨kx1.trans kx2, ⟨.slice (some ⟨g', 0, none⟩) ((tookL tkM pre).length + 1) cap', ?_, hv2, ?_, HN.out.1⟩, (HB.out.trans HF5.out).appended hg1 (by omega) (fun j e => by have := hbl j e; omega) (by omega)⟩
      · exact (hb2 P0 (by omega) (by omega)).trans (HT.out.fr' HF5.out id)
      · rw [tookL_snoc]
        show RowI _ X _ (tookL tkM pre ++ if tkM xa xb = true then [x0] else [])
        rw [HZ.out, if_pos rfl]
        unfold RowI
        rw [List.length_append, List.map_append]
        exact hr2
    | false =>
      gi_wp2_with (first
        | ((first | refine ⟨trivial, wideNo, ?_⟩ | refine ⟨trivial, ?_⟩); gi_at_call 124; refine (callsIn_wide.2 (HTk.out W)).mono ?_; rintro e W5 ⟨rfl, h5⟩; have HF5 := hid h5; clear h5))
      have kx1 : KeepX (SdT R (R + 1) ga gb) W4.heap.size X W W5 := KeepX.of_fr HF5.out (fun _ _ h => h) (fun _ h => h.elim) (fun _ _ h => h.elim)
      refine ⟨kx1, ⟨v, HT.out.fr' HF5.out id, HO.out.fr' HF5.out id, ?_, HN.out.1⟩, HB.out.trans HF5.out⟩
      rw [tookL_snoc]
      show RowI _ X _ (tookL tkM pre ++ if tkM xa xb = true then [x0] else [])
      rw [HZ.out, if_neg (by simp), List.append_nil]
      exact Hrow.out.new HF5.out
  case done =>
    rintro D X ys W hD hys ⟨⟨v, ht, ho, hrow, hX4⟩, hF⟩ hK
    obtain ⟨e1, f1⟩ := ho.one
    have hto := hys.took HUa.out tkM
    rw [hto] at hrow
    have hpl := pickL_len tkM ka kb
    have HOf := hid (SS.of (pickL tkM ka kb) (up_pickL _ HUa.out _) (by omega) (RowI.rd hrow (by omega)) (HGw.out.fr hF))
    have HB := hid hF
    have HK := hid hK
    clear hK hF hrow ho ht hys hto
    gi_wp2_with (first
      | ((first | refine ⟨trivial, wideNo, ?_⟩ | refine ⟨trivial, ?_⟩); gi_at_call 94; refine (callsIn_wide.2 HOf.out).mono ?_; rintro e W6 ⟨s, rfl, H6⟩))
    have hD6 : W6.heap[D]? = some (.deferred (some [])) := (H6.out.fr.block D (Array.getElem?_eq_some_iff.1 HK.out).1 (fun s => s.elim)).trans HK.out
    refine ⟨by simp, .inl ⟨_, _, rfl, run_takeDeferred hD6, ?_⟩⟩
    refine ⟨.tuple #[.pointer (some ⟨s, 0, none⟩), .int .i64 0], by simp [results, Tryz.f121, go_sem], s, rfl, hid ?_⟩
    obtain ⟨p, F, σ, h, evs, aa, ee⟩ := H6.out.ex
    have hDW := (Array.getElem?_eq_some_iff.1 HK.out).1
    have hfr : Fr (fun k => k = D) W6 (W6.putObj D (.deferred none)) := (Fr.refl _ _).grown (grownBy_putObj' W6 D _) (fun k e => by injection e with e; omega) (fun k e _ => by injection e with e; exact e.symm)
    exact ⟨⟨p, F, σ, h, evs, (aa.base HB.out).frS hfr (fun k hk => ⟨fun hs => by have := aa.geB k hs; omega, by omega⟩), ee⟩, H6.out.up, (HB.out.trans H6.out.fr).putObj D _ (by omega) (by omega)⟩
  case stop =>
    rintro D c pre W _ _ h _
    exact h.elim
theorem bulkUnion_any {wa wb w : World} {a b : Nat} {ka kb : List Int} (hA : SS wa a ka w) (hB : SS wb b kb w) (hl : ka.length + kb.length ≤ 2560) (hg : GW w) :
    Calls Tryz.prog 58 #[.pointer (some ⟨a, 0, none⟩), .pointer (some ⟨b, 0, none⟩)] w fun e w' => ∃ s : Nat, e = .returned (.tuple #[.pointer (some ⟨s, 0, none⟩), .int .i64 0]) ∧ Hid (SS w s (pickL tkU ka kb) w') := by
  have HO := hid (bulkOf_Union hA hB hl hg)
  clear hA hB hl hg
  go_enter Tryz.func58, Tryz.ntmps58
  go_wp2_with (go_at_call 121; (with_reducible refine HO.out.mono ?_); rintro e w1 ⟨s, rfl, H1⟩)
  go_ret2
  exact ⟨s, rfl, H1⟩
theorem bulkBoth_any {wa wb w : World} {a b : Nat} {ka kb : List Int} (hA : SS wa a ka w) (hB : SS wb b kb w) (hl : ka.length + kb.length ≤ 2560) (hg : GW w) :
    Calls Tryz.prog 59 #[.pointer (some ⟨a, 0, none⟩), .pointer (some ⟨b, 0, none⟩)] w fun e w' => ∃ s : Nat, e = .returned (.tuple #[.pointer (some ⟨s, 0, none⟩), .int .i64 0]) ∧ Hid (SS w s (pickL tkB ka kb) w') := by
  have HO := hid (bulkOf_Both hA hB hl hg)
  clear hA hB hl hg
  go_enter Tryz.func59, Tryz.ntmps59
  go_wp2_with (go_at_call 121; (with_reducible refine HO.out.mono ?_); rintro e w1 ⟨s, rfl, H1⟩)
  go_ret2
  exact ⟨s, rfl, H1⟩
theorem bulkMinus_any {wa wb w : World} {a b : Nat} {ka kb : List Int} (hA : SS wa a ka w) (hB : SS wb b kb w) (hl : ka.length + kb.length ≤ 2560) (hg : GW w) :
    Calls Tryz.prog 62 #[.pointer (some ⟨a, 0, none⟩), .pointer (some ⟨b, 0, none⟩)] w fun e w' => ∃ s : Nat, e = .returned (.tuple #[.pointer (some ⟨s, 0, none⟩), .int .i64 0]) ∧ Hid (SS w s (pickL tkM ka kb) w') := by
  have HO := hid (bulkOf_Minus hA hB hl hg)
  clear hA hB hl hg
  go_enter Tryz.func62, Tryz.ntmps62
  go_wp2_with (go_at_call 121; (with_reducible refine HO.out.mono ?_); rintro e w1 ⟨s, rfl, H1⟩)
  go_ret2
  exact ⟨s, rfl, H1⟩
theorem bulkMake_any (l : List Int) (hl : l.length ≤ 2560) {u : Value} {w : World} (hu : Rd w u (ints' l)) (hg : GW w) :
    Calls Tryz.prog 57 #[u] w fun e w' => ∃ s : Nat, e = .returned (.tuple #[.pointer (some ⟨s, 0, none⟩), .int .i64 0]) ∧ Hid (SS w s (srtL l) w') := by
  have HS := hid (bulkSorted_any l (by omega) hu hg.size)
  have HG := hid hg
  have HL := hid (srt_spec l)
  have hl2 := hl
  clear hu hg
  go_enter Tryz.func57, Tryz.ntmps57
  go_wp2_with (first
    | (go_at_call 94; (with_reducible refine (SS.of (srtL l) HL.out.1 (by have := HL.out.2.2; omega) H1.out.1 (HG.out.fr H1.out.2)).mono ?_); rintro e w2 ⟨s, rfl, H2⟩)
    | (go_at_call 67; (with_reducible refine HS.out.mono ?_); rintro e w1 ⟨v1, rfl, H1⟩))
  go_ret2
  exact ⟨s, rfl, hid (H2.out.base H1.out.2)⟩
end Go.Proofs.YtechphliifginaaGreatDoor
