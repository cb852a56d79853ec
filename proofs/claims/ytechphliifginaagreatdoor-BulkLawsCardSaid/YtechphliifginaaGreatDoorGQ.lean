/- In one: X6, X7. -/
import Derived.Test.YtechphliifginaaGreatDoorGP
import Derived.Test.YtechphliifginaaGreatDoorGD
import Derived.Test.YtechphliifginaaGreatDoorGE
import Derived.Test.YtechphliifginaaGreatDoorGJ
/- gaps.Items, pma.New, Slots, Items, Counts, Clone (printed by mkx6.py). -/
set_option linter.unusedVariables false
set_option linter.unusedSimpArgs false
namespace Go.Proofs.YtechphliifginaaGreatDoor
open Go.RowKit
attribute [local go_sem] Oper.semAt_some

def vals (l : List (Nat × Int)) : List Int := l.map fun p => p.2

set_option maxRecDepth 100000 in
set_option maxHeartbeats 2000000 in
theorem gapsItems_any {f : SF} {σ : List (Option Int)} {w : World} (h : SlotsR w f σ) :
    Calls Tryz.prog 128 #[.pointer (some ⟨f.s, 0, none⟩)] w fun e w' => ∃ v, e = .returned v ∧ RowI w' w.heap.size v (vals (occ σ)) ∧ Fr Nil1 w w' := by
  refine (callsIn_wide (n := 3)).1 ?_
  obtain ⟨i0, hi, hz0, hz1, hz2⟩ := info_parts info_int
  have hlen : (occ σ).length ≤ 65536 := Nat.le_trans (occTo_length σ _) h.bits.n2
  have hG := h.g.size
  have hlt := h.lt
  have hge := h.ge
  refine callsIn_of_wp_marks Tryz.func128 rfl trivial ?_ rfl
  simp only [Tryz.ntmps128, List.size_toArray, List.length_cons, List.length_nil, Nat.reduceAdd, Nat.reduceSub, Array.replicate_succ, Array.replicate_zero, List.push_toArray, List.append_toArray, List.nil_append, List.cons_append]
  have HH := hid h
  clear h
  gi_wp2_with (first | ((first | refine ⟨trivial, wideNo, ?_⟩ | refine ⟨trivial, ?_⟩); gi_at_call 72; refine (callsIn_wide.2 (gapsAll_any f.s _)).mono ?_; rintro e w1 ⟨rfl, rfl⟩))
  have hfr0 : Fr Nil1 w ((w.alloc (.cells #[.slice none 0 0] 30)).alloc (.cells #[.pointer (some ⟨f.s, 0, none⟩)] 31)) := ((Fr.refl _ _).alloc _).alloc _
  have hO : Has ((w.alloc (.cells #[.slice none 0 0] 30)).alloc (.cells #[.pointer (some ⟨f.s, 0, none⟩)] 31)) w.heap.size [.slice none 0 0] 30 := (Has.new w [.slice none 0 0] 30).alloc _
  have hN : Has ((w.alloc (.cells #[.slice none 0 0] 30)).alloc (.cells #[.pointer (some ⟨f.s, 0, none⟩)] 31)) (w.heap.size + 1) [.pointer (some ⟨f.s, 0, none⟩)] 31 := by
    have := Has.new (w.alloc (.cells #[.slice none 0 0] 30)) [.pointer (some ⟨f.s, 0, none⟩)] 31
    rwa [World.size_alloc] at this
  obtain ⟨W0, hW0⟩ : ∃ W0, ((w.alloc (.cells #[.slice none 0 0] 30)).alloc (.cells #[.pointer (some ⟨f.s, 0, none⟩)] 31)) = W0 := ⟨_, rfl⟩
  have hsz : W0.heap.size = w.heap.size + 2 := by rw [← hW0]; simp
  rw [hW0] at hfr0 hO hN ⊢
  have hS0 : SlotsR W0 f σ := HH.out.new hfr0
  have hT : ∀ k, k < NG ∨ (k = w.heap.size + 1 ∨ f.mem k) → k < W0.heap.size ∧ k ≠ w.heap.size := by
    rintro k (hk | rfl | hk)
    · omega
    · omega
    · have := hlt k hk; omega
  refine wpIn_rangeFunc_ownG rfl (by omega) (gf := 132) (lb := #[.pointer (some ⟨w.heap.size + 1, 0, none⟩)]) rfl trivial (enters_of Tryz.func132 (by kernel_rfl) rfl)
    (gapsAll_stops _ (w.heap.size + 1) f σ W0 hN hS0) (fun h k => h.trans k) (fun W l o o' hl ho hc hw => KeepT.putObj W0 (fun k hk => (hT k hk).1) W l o o' hl ho hc hw) (Below.refl _ _) (fun _ => rfl)
    (fun pre W => (∃ v, Has W w.heap.size [v] 30 ∧ W.ownsRow W0.heap.size 3 1 v (vals pre).length ((vals pre).map (Value.int .i64))) ∧ Fr Nil1 w W ∧ W0.heap.size ≤ W.heap.size)
    (fun _ _ _ => False)
    (fun s A B row hs hg hrow => ⟨(by obtain ⟨⟨v, hv, hr⟩, _⟩ := hs; exact ⟨v, hv.grownBy hg (fun r e => (hrow r e).2), own_grown hr hg (fun r e => (hrow r e).2)⟩), hs.2.1.grownBy hg hrow (by omega) hG, Nat.le_trans hs.2.2 hg.size⟩)
    (fun _ _ _ _ _ hs _ _ => hs)
    ⟨⟨_, hO, World.ownsRow_nil _ _ _ _⟩, hfr0, Nat.le_refl _⟩
    (fun x => { tmps := #[.pointer (some ⟨f.s, 0, none⟩), undef, .slice none 0 0, .pointer (some ⟨w.heap.size, 0, none⟩), undef, .int .i64 x.2, .pointer (some ⟨f.s, 0, none⟩), .func (.func 132) #[] #[.pointer (some ⟨w.heap.size + 1, 0, none⟩)], .int .i64 (x.1 : Int), .int .i64 x.2, undef, undef, undef, undef, undef], defers := [] }) ?assign ?body ?done ?stop
  case assign =>
    intro l x W K hK
    unfold encIx
    gi_wp2
    exact hK
  case body =>
    rintro l pre x W ⟨⟨v, hv, hrow⟩, hB, hWs⟩ hlt
    obtain ⟨hc, hfz⟩ := hv.one
    have hpl : (vals pre).length ≤ 65536 := by simp only [vals, List.length_map]; omega
    have Hv := hid hv
    have Hrow := hid hrow
    have HB := hid hB
    gi_wp2_with (gi_at_builtin; refine wpListIn_append_own _ rfl _ _ 30 rfl W0.heap.size 3 i0 (.int .i64 0) 1 8 Tryz.underlying30 hi hz0 hz1 hz2 rfl (by decide) _ _ _ rfl (Hrow.out.alloc _) ⟨W.heap.size, 0, none⟩ 1 1 [.int .i64 x.2] rfl rfl (cell_one_new _ _ _) (by simp [Value.oneCell']) (by unfold maxLen; omega) (by omega) (by simp; omega) ?_; intro v' w1 hown' hgrow _; obtain ⟨g', cap', rfl⟩ := ownsRow_succ hown'; obtain ⟨hv1, hv2, hr2, hk2, hb2⟩ := Hv.out.appended (by decide) Hrow.out hWs hown' hgrow; obtain ⟨hc1, hf1⟩ := hv1.one; have hgrow' := hid hgrow; have hb2' := hid hb2; clear hgrow hb2)
    refine ⟨hk2.from _, KeepT.of_low (hk2.size) hb2'.out hT, ⟨_, hv2, ?_⟩, HB.out.appended hgrow'.out hG (fun j e => by have := own_block Hrow.out j e; omega) (Nat.le_refl _), Nat.le_trans hWs hk2.size⟩
    have e : vals (pre ++ [x]) = vals pre ++ [x.2] := by simp [vals]
    rw [e, List.length_append, List.map_append]
    exact hr2
  case done =>
    rintro D ys W hD rfl ⟨⟨v, hv, hrow⟩, hB, hWs⟩ hK
    obtain ⟨hc, hfz⟩ := hv.one
    gi_wp2
    refine ⟨by simp, .inl ⟨_, _, rfl, run_takeDeferred hK, ?_⟩⟩
    exact ⟨_, results_tmp rfl _ _ _, v, rfl, own_mono (ownsRow_putObj hrow _ hK rfl) (by omega), hB.putObj D _ (by omega) hG⟩
  case stop =>
    rintro D c pre W _ _ h _
    exact h.elim

theorem vals_occ (σ : List (Option Int)) : vals (occ σ) = its σ := rfl
theorem cntOn_none (n k : Nat) : cntOn (onOf (List.replicate n (none : Option Int))) k = 0 := by
  have : ∀ j, onOf (List.replicate n (none : Option Int)) j = false := fun j => by
    unfold onOf
    rw [List.getD_eq_getElem?_getD, List.getElem?_replicate]
    split <;> rfl
  have := cntOn_gap (onOf (List.replicate n (none : Option Int))) 0 k (fun j _ _ => this j)
  rw [Nat.zero_add] at this
  exact this
theorem dn_new : Dn (List.replicate 32 (none : Option Int)) 2 := by
  refine ⟨by omega, by omega, by simp, fun k hk => ?_, fun h => by omega⟩
  have a := cntOn_seg (List.replicate 32 (none : Option Int)) k
  rw [cntOn_none, cntOn_none] at a
  omega

set_option maxRecDepth 100000 in
set_option maxHeartbeats 2000000 in
theorem pmaNew_any (tv : Value) (hv : tv = Value.nilFunc ∨ ∃ g b c, tv = .func (.func g) b c) (w : World) (hg : GW w) :
    Calls Tryz.prog 16 #[tv] w fun e w' => ∃ F : PF, e = .returned (.pointer (some ⟨F.p, 0, none⟩)) ∧ PmaR w' F (List.replicate 32 none) 2 tv ∧ Fr Nil1 w w' ∧ ∀ k, F.mem k → w.heap.size ≤ k := by
  have hG := hg.size
  obtain ⟨Q, hQ⟩ : ∃ Q, w.heap.size = Q := ⟨_, rfl⟩
  have F0 := hid (show Fr Nil1 w (w.alloc (.cells #[.pointer none, .pointer none, tv] 95)) from (Fr.refl _ _).alloc _)
  have hR0 : Has (w.alloc (.cells #[.pointer none, .pointer none, tv] 95)) Q [.pointer none, .pointer none, tv] 95 := hQ ▸ Has.new w _ _
  have HR0 := hid hR0
  have HN := hid (fun w' (hf : Fr Nil1 w w') => gapsNew_ok 32 w' (by omega) (by omega) (hg.fr hf))
  have HU := hid (fun (f : SF) w' (hs : SlotsR w' f (List.replicate 32 none)) (hr : Has w' Q [.pointer none, .pointer none, tv] 95) => pmaUse_ok (h := 2) hs (by omega) (by omega) (by simp) hr (by omega) ⟨_, rfl⟩ ⟨_, rfl⟩)
  clear hR0
  rcases hv with rfl | ⟨g0, b0, c0, rfl⟩
  · go_enter Tryz.func16, Tryz.ntmps16
    go_wp2_with (first
      | (go_at_call 69; refine (HN.out _ F0.out).mono ?_; rintro e w1 ⟨f, rfl, hs, hf, hm⟩; have H1 := hid (And.intro hs (And.intro hf hm)); clear hs hf hm)
      | (go_at_call 70; refine (HU.out f w1 H1.out.1 (HR0.out.fr' H1.out.2.1 id)).mono ?_; rintro e w2 ⟨⟨v, rfl⟩, t, d, hp, ht, hd, hf⟩; have H2 := hid (And.intro hp (And.intro ht (And.intro hd hf))); clear hp ht hd hf))
    go_ret
    have h1 := H1.out.2.1.size
    have h0 := F0.out.size
    refine ⟨⟨Q, f, t, d⟩, rfl, H2.out.1, ((F0.out.trans H1.out.2.1).mono (fun _ _ h => h.elim)).trans' H2.out.2.2.2 (fun j hj _ e => by omega), ?_⟩
    rintro k (rfl | hk | rfl | rfl)
    · omega
    · have : _ ≤ k := H1.out.2.2 k hk
      omega
    · have := H2.out.2.1
      omega
    · have := H2.out.2.2.1
      omega
  · go_enter Tryz.func16, Tryz.ntmps16
    go_wp2_with (first
      | (go_at_call 69; refine (HN.out _ F0.out).mono ?_; rintro e w1 ⟨f, rfl, hs, hf, hm⟩; have H1 := hid (And.intro hs (And.intro hf hm)); clear hs hf hm)
      | (go_at_call 70; refine (HU.out f w1 H1.out.1 (HR0.out.fr' H1.out.2.1 id)).mono ?_; rintro e w2 ⟨⟨v, rfl⟩, t, d, hp, ht, hd, hf⟩; have H2 := hid (And.intro hp (And.intro ht (And.intro hd hf))); clear hp ht hd hf))
    go_ret
    have h1 := H1.out.2.1.size
    have h0 := F0.out.size
    refine ⟨⟨Q, f, t, d⟩, rfl, H2.out.1, ((F0.out.trans H1.out.2.1).mono (fun _ _ h => h.elim)).trans' H2.out.2.2.2 (fun j hj _ e => by omega), ?_⟩
    rintro k (rfl | hk | rfl | rfl)
    · omega
    · have : _ ≤ k := H1.out.2.2 k hk
      omega
    · have := H2.out.2.1
      omega
    · have := H2.out.2.2.1
      omega
theorem pmaSlots_any {w : World} {F : PF} {σ : List (Option Int)} {h : Nat} {tv : Value} (H : PmaR w F σ h tv) :
    Calls Tryz.prog 19 #[.pointer (some ⟨F.p, 0, none⟩)] w fun e w' => ∃ f' : SF, e = .returned (.pointer (some ⟨f'.s, 0, none⟩)) ∧ SlotsR w' f' σ ∧ Fr Nil1 w w' ∧ ∀ k, f'.mem k → w.heap.size ≤ k := by
  have HC := hid (gapsClone_any H.sl)
  obtain ⟨r0, r1, r2, rf⟩ := H.row.three
  clear H
  go_enter Tryz.func19, Tryz.ntmps19
  go_wp2_with (go_at_call 71; refine HC.out.mono ?_; rintro e w1 ⟨f', rfl, h1, h2, h3⟩; have H1 := hid (And.intro h1 (And.intro h2 h3)); clear h1 h2 h3)
  go_ret
  exact ⟨f', rfl, H1.out.1, H1.out.2.1, H1.out.2.2⟩
theorem pmaItems_any {w : World} {F : PF} {σ : List (Option Int)} {h : Nat} {tv : Value} (H : PmaR w F σ h tv) :
    Calls Tryz.prog 68 #[.pointer (some ⟨F.p, 0, none⟩)] w fun e w' => ∃ v, e = .returned v ∧ RowI w' w.heap.size v (its σ) ∧ Fr Nil1 w w' := by
  have HC := hid (gapsItems_any H.sl)
  obtain ⟨r0, r1, r2, rf⟩ := H.row.three
  clear H
  go_enter Tryz.func68, Tryz.ntmps68
  go_wp2_with (go_at_call 128; refine HC.out.mono ?_; rintro e w1 ⟨v, rfl, h1, h2⟩; have H1 := hid (And.intro h1 h2); clear h1 h2)
  go_ret
  exact ⟨v, rfl, H1.out.1, H1.out.2⟩
theorem pmaCountsM_any {w : World} {F : PF} {σ : List (Option Int)} {h : Nat} {tv : Value} (H : PmaR w F σ h tv) :
    Calls Tryz.prog 26 #[.pointer (some ⟨F.p, 0, none⟩)] w fun e w' => ∃ v, e = .returned v ∧ RowI w' w.heap.size v (cntsL σ) ∧ Fr Nil1 w w' := by
  have HC := hid (treeCounts_ok H.tr H.sl.g.size)
  obtain ⟨r0, r1, r2, rf⟩ := H.row.three
  clear H
  go_enter Tryz.func26, Tryz.ntmps26
  go_wp2_with (go_at_call 82; refine HC.out.mono ?_; rintro e w1 ⟨v, rfl, h1, _, h2⟩; have H1 := hid (And.intro h1 h2); clear h1 h2)
  go_ret
  exact ⟨v, rfl, H1.out.1, H1.out.2⟩
set_option maxRecDepth 100000 in
set_option maxHeartbeats 2000000 in
theorem pmaClone_any {w : World} {F : PF} {σ : List (Option Int)} {h : Nat} {tv : Value} (H : PmaR w F σ h tv) :
    Calls Tryz.prog 23 #[.pointer (some ⟨F.p, 0, none⟩)] w fun e w' => ∃ F' : PF, e = .returned (.pointer (some ⟨F'.p, 0, none⟩)) ∧ PmaR w' F' σ h Value.nilFunc ∧ Fr Nil1 w w' ∧ ∀ k, F'.mem k → w.heap.size ≤ k := by
  have hG := H.sl.g.size
  have HS := hid (fun w' (hf : Fr Nil1 w w') => gapsClone_any (H.sl.new hf))
  have HT := hid (fun w' (hf : Fr Nil1 w w') => treeClone_ok (H.tr.new hf) (by have := hf.size; omega))
  have hr : ∀ w', Fr Nil1 w w' → w'.cell? ⟨F.p, 0, none⟩ = some (.pointer (some ⟨F.sl.s, 0, none⟩)) ∧ w'.cell? ⟨F.p, 1, none⟩ = some (.pointer (some ⟨F.t, 0, none⟩)) := fun w' hf => ⟨(H.row.fr' hf id).cell 0, (H.row.fr' hf id).cell 1⟩
  have HR := hid hr
  have HP := hid H
  obtain ⟨p0, p1⟩ := hr w (Fr.refl _ _)
  clear hr H
  go_enter Tryz.func23, Tryz.ntmps23
  go_wp2_with fail
  go_region_held3 (fun w' => w'.cell? ⟨F.p, 0, none⟩ = some (.pointer (some ⟨F.sl.s, 0, none⟩)) ∧ w'.cell? ⟨F.p, 1, none⟩ = some (.pointer (some ⟨F.t, 0, none⟩))) (first | exact ⟨k0, k1⟩ | exact ⟨j0, j1⟩ | exact ⟨p0, p1⟩ | go_keep) (first
    | (go_at_call 71; refine (HS.out w.drew (Fr.refl _ _).drew).mono ?_; rintro e w1 ⟨f', rfl, h1, h2, h3⟩; have hF1 := (Fr.refl Nil1 w).drew.trans h2; have H1 := hid (And.intro h1 (And.intro hF1 h3)); obtain ⟨j0, j1⟩ := HR.out w1 hF1; clear h1 h2 h3 hF1)
    | (go_at_call 81; refine (HT.out w1 H1.out.2.1).mono ?_; rintro e w2 ⟨t', d', rfl, h1, h2, h3, h4⟩; have H2 := hid (And.intro h1 (And.intro h2 (And.intro h3 h4))); obtain ⟨k0, k1⟩ := HR.out w2 (H1.out.2.1.trans h2); clear h1 h2 h3 h4))
  go_wp2_with fail
  go_ret
  have q1 := H1.out.2.1.size
  have q2 := H2.out.2.1.size
  have hfr : Fr Nil1 w2 (w2.alloc (.cells #[.pointer (some ⟨f'.s, 0, none⟩), .pointer (some ⟨t', 0, none⟩), Value.nilFunc] 95)) := (Fr.refl _ _).alloc _
  have hm1 : ∀ k, f'.mem k → w.heap.size ≤ k ∧ k < w1.heap.size := fun k hk => ⟨H1.out.2.2 k hk, H1.out.1.lt k hk⟩
  refine ⟨⟨w2.heap.size, f', t', d'⟩, rfl, ⟨by show NG ≤ w2.heap.size; omega, HP.out.h2, HP.out.h9, HP.out.len, Has.new w2 _ _, (H1.out.1.new H2.out.2.1).new hfr, H2.out.1.new hfr, fun e => ?_⟩, (H1.out.2.1.trans H2.out.2.1).trans hfr, ?_⟩
  · have := (hm1 f'.d (.inr (.inl rfl))).2
    have h4 := H2.out.2.2.2
    have e' : d' = f'.d := e
    omega
  · rintro k (rfl | hk | rfl | rfl)
    · show w.heap.size ≤ w2.heap.size; omega
    · exact (hm1 k hk).1
    · have := H2.out.2.2.1; omega
    · have := H2.out.2.2.2; omega
end Go.Proofs.YtechphliifginaaGreatDoor

/- What Insert and Delete do to the list, in plain words. -/
set_option linter.unusedVariables false
set_option linter.unusedSimpArgs false
namespace Go.Proofs.YtechphliifginaaGreatDoor
open Go.RowKit

theorem sorted_ext : ∀ (A B : List Int), A.Pairwise (· < ·) → B.Pairwise (· < ·) → (∀ x, x ∈ A ↔ x ∈ B) → A = B
  | [], [], _, _, _ => rfl
  | [], b :: B, _, _, h => absurd ((h b).2 (List.mem_cons_self ..)) (by simp)
  | a :: A, [], _, _, h => absurd ((h a).1 (List.mem_cons_self ..)) (by simp)
  | a :: A, b :: B, h1, h2, h => by
    obtain ⟨a1, a2⟩ := List.pairwise_cons.1 h1
    obtain ⟨b1, b2⟩ := List.pairwise_cons.1 h2
    have e : a = b := by
      rcases List.mem_cons.1 ((h a).1 (List.mem_cons_self ..)) with e | e
      · exact e
      · rcases List.mem_cons.1 ((h b).2 (List.mem_cons_self ..)) with e' | e'
        · exact e'.symm
        · have := b1 a e; have := a1 b e'; omega
    subst e
    rw [sorted_ext A B a2 b2 (fun x => by
      constructor
      · intro hx
        rcases List.mem_cons.1 ((h x).1 (List.mem_cons_of_mem _ hx)) with e | e
        · have := a1 x hx; omega
        · exact e
      · intro hx
        rcases List.mem_cons.1 ((h x).2 (List.mem_cons_of_mem _ hx)) with e | e
        · have := b1 x hx; omega
        · exact e)]
theorem idxs_to (σ : List (Option Int)) : ∀ n, (idxs (occTo σ n)).Pairwise (· < ·) ∧ ∀ p, p ∈ idxs (occTo σ n) ↔ ∃ k : Nat, p = k ∧ k < n ∧ onOf σ k = true
  | 0 => ⟨by simp [idxs, occTo], fun p => by simp [idxs, occTo]⟩
  | n + 1 => by
    obtain ⟨h1, h2⟩ := idxs_to σ n
    cases hx : σ.getD n none with
    | none =>
      have e : occTo σ (n + 1) = occTo σ n := by simp only [occTo, hx, List.append_nil]
      rw [e]
      refine ⟨h1, fun p => (h2 p).trans ⟨fun ⟨k, a, b, c⟩ => ⟨k, a, by omega, c⟩, fun ⟨k, a, b, c⟩ => ⟨k, a, ?_, c⟩⟩⟩
      rcases Nat.lt_or_ge k n with g | g
      · exact g
      · have : k = n := by omega
        subst this
        rw [onOf_none_iff.2 hx] at c
        exact absurd c (by simp)
    | some x =>
      have e : occTo σ (n + 1) = occTo σ n ++ [(n, x)] := by simp only [occTo, hx]
      have e2 : idxs (occTo σ (n + 1)) = idxs (occTo σ n) ++ [(n : Int)] := by rw [e]; simp [idxs]
      rw [e2]
      refine ⟨List.pairwise_append.2 ⟨h1, by simp, fun a ha b hb => ?_⟩, fun p => ?_⟩
      · obtain ⟨k, rfl, hk, _⟩ := (h2 a).1 ha
        rw [List.mem_singleton.1 hb]
        omega
      · rw [List.mem_append, h2 p, List.mem_singleton]
        constructor
        · rintro (⟨k, a, b, c⟩ | rfl)
          · exact ⟨k, a, by omega, c⟩
          · exact ⟨n, rfl, by omega, onOf_some hx⟩
        · rintro ⟨k, a, b, c⟩
          rcases Nat.lt_or_ge k n with g | g
          · exact .inl ⟨k, a, g, c⟩
          · exact .inr (by rw [a, show k = n by omega])
/-- The places of an array's elements, said by a rising list. -/
theorem idxs_is {σ : List (Option Int)} {A : List Int} (hA : A.Pairwise (· < ·)) (h : ∀ p, p ∈ A ↔ ∃ k : Nat, p = k ∧ onOf σ k = true) : idxs (occ σ) = A := by
  obtain ⟨h1, h2⟩ := idxs_to σ σ.length
  refine sorted_ext _ _ h1 hA (fun p => (h2 p).trans ((Iff.trans ?_ (h p).symm)))
  exact ⟨fun ⟨k, a, b, c⟩ => ⟨k, a, c⟩, fun ⟨k, a, c⟩ => ⟨k, a, onOf_lt c, c⟩⟩
theorem mem_its {σ : List (Option Int)} {x : Int} : x ∈ its σ ↔ ∃ k, σ.getD k none = some x := by
  constructor
  · intro h
    obtain ⟨⟨p, y⟩, h1, rfl⟩ := List.mem_map.1 h
    exact ⟨p, (occTo_mem _ _ _ h1).2⟩
  · rintro ⟨k, hk⟩
    exact List.mem_of_getElem? (its_get σ k x hk)
theorem idxs_get {σ : List (Option Int)} {k : Nat} (hk : k < (idxs (occ σ)).length) : ∃ p : Nat, (idxs (occ σ)).getD k 0 = p ∧ onOf σ p = true ∧ cntOn (onOf σ) p = k := by
  have key : ∀ n k, k < (idxs (occTo σ n)).length → ∃ p : Nat, (idxs (occTo σ n)).getD k 0 = p ∧ onOf σ p = true ∧ cntOn (onOf σ) p = k := by
    intro n
    induction n with
    | zero => intro k hk; simp [idxs, occTo] at hk
    | succ n ih =>
      intro k hk
      cases hx : σ.getD n none with
      | none =>
        have e : occTo σ (n + 1) = occTo σ n := by simp only [occTo, hx, List.append_nil]
        rw [e] at hk ⊢
        exact ih k hk
      | some x =>
        have e : occTo σ (n + 1) = occTo σ n ++ [(n, x)] := by simp only [occTo, hx]
        have e2 : idxs (occTo σ (n + 1)) = idxs (occTo σ n) ++ [(n : Int)] := by rw [e]; simp [idxs]
        rw [e2, List.length_append] at hk
        rw [e2]
        have hl : (idxs (occTo σ n)).length = cntOn (onOf σ) n := by
          have := itsTo_length σ n
          simp only [itsTo, idxs, List.length_map] at this ⊢
          exact this
        rcases Nat.lt_or_ge k (idxs (occTo σ n)).length with g | g
        · obtain ⟨p, h1, h2⟩ := ih k g
          refine ⟨p, ?_, h2⟩
          rw [← h1, List.getD_eq_getElem?_getD, List.getD_eq_getElem?_getD, List.getElem?_append_left g]
        · have : k = (idxs (occTo σ n)).length := by simp at hk; omega
          subst this
          refine ⟨n, ?_, onOf_some hx, hl.symm⟩
          rw [List.getD_eq_getElem?_getD, List.getElem?_append_right (Nat.le_refl _), Nat.sub_self]
          rfl
  exact key _ k hk

/-- An Insert's outcome. -/
structure InsF (w : World) (F : PF) (σ : List (Option Int)) (h seg next : Nat) (x : Int) (tv : Value) (J : List Ev → World → Prop) (evs : List Ev) (v : Int) (S : St) (w' : World) (F' : PF) (σ' : List (Option Int)) (h' : Nat) (ev : List Ev) : Prop where
  p : F'.p = F.p
  r : PmaR w' F' σ' h' tv
  d : Dn σ' h'
  jj : J (evs ++ ev) w'
  mem : ∀ k, F'.mem k → F.mem k ∨ w.heap.size ≤ k
  items : its σ' = (its σ).take (cntOn (onOf σ) next) ++ x :: (its σ).drop (cntOn (onOf σ) next)
  slot : ∃ q : Nat, v = q ∧ σ'.getD q none = some x ∧ cntOn (onOf σ') q = cntOn (onOf σ) next
  knows : ∀ pos, Knows pos σ → pos x = -1 → legit pos ev ∧ Knows (runEv pos ev) σ'
  told : ev ≠ []
  dom : ∀ e ∈ ev, e.1 ∈ its σ ∨ e.1 ∈ its σ'
  rng : ∀ e ∈ ev, e.2.2 < 4096
  step : ∃ τ, ChgC σ τ (2 ^ h) seg 0 1 ∧ τ.length = σ.length ∧ (∀ k, k < 8 * seg ∨ 8 * seg + 8 ≤ k → τ.getD k none = σ.getD k none) ∧ its τ = its σ' ∧ StepO τ h seg S σ' h' ∧ pickS (cntsL τ) seg h = (S, 0)
theorem InsOut.law {w : World} {F : PF} {σ : List (Option Int)} {h seg next : Nat} {x : Int} {tv : Value} {B : Nat → Prop} {J : List Ev → World → Prop} {evs : List Ev} {v : Int} {S : St} {w' : World} (H : InsOut w F σ h seg next x tv B J evs v S w') (D : Dn σ h) (hs : seg < 2 ^ h) :
    (∃ F' σ' h' ev, InsF w F σ h seg next x tv J evs v S w' F' σ' h' ev) ∧ Fr (fun k => F.mem k ∨ B k) w w' := by
  obtain ⟨e1, τ, slot, hS, hO, hOut⟩ := H.ex
  obtain ⟨F', σ', h', ev, p1, p2, p3, p4, p5, p6, p7, p8⟩ := hOut.ex
  have hlen := D.len
  have hhi := hO.hi
  have hslot : slot < τ.length := by have := hO.len; omega
  have hon : onOf (τ.set slot (some x)) slot = true := onOf_some (by rw [getD_setO _ _ _ _ hslot, if_pos rfl])
  have hit := its_put x hslot hO.free
  rw [hO.items, hO.rank] at hit
  have hr : cntOn (onOf (τ.set slot (some x))) slot = cntOn (onOf σ) next := by
    have := cntOn_set (σ := τ) (some x) hslot slot
    rw [if_neg (by omega), if_neg (by omega), hO.rank] at this
    omega
  have hlo := hO.lo
  refine ⟨⟨F', σ', h', e1 ++ [(x, -1, (slot : Int))] ++ ev, p1, p2, p3, by simpa [List.append_assoc] using p5, p7, by rw [p4.its, hit], ?_, ?_, by simp, fun e he => ?_, fun e he => ?_, ?_⟩, hOut.fr⟩
  · obtain ⟨q, q1, q2, q3⟩ := p8 slot rfl hon
    exact ⟨q, q1, by rw [q2, getD_setO _ _ _ _ hslot, if_pos rfl], by rw [q3, hr]⟩
  · intro pos hpos hx
    obtain ⟨a1, a2⟩ := hS.knows pos hpos
    have hx' : runEv pos e1 x = -1 := by
      refine (a2 x).2 (fun i hi => ?_)
      have : x ∈ its σ := by rw [← hO.items]; exact mem_its.2 ⟨i, hi⟩
      obtain ⟨k, hk⟩ := mem_its.1 this
      have := (hpos x).1 k hk
      omega
    have a3 := a2.put hslot hO.free hx'
    obtain ⟨a4, a5⟩ := p6.knows _ a3
    have er : runEv pos (e1 ++ [(x, -1, (slot : Int))]) = updI (runEv pos e1) x slot := by rw [runEv_append]; rfl
    refine ⟨(legit_append _ _ _).2 ⟨(legit_append _ _ _).2 ⟨a1, ⟨hx', trivial⟩⟩, ?_⟩, ?_⟩
    · rw [er]; exact a4
    · rw [runEv_append, er]; exact a5
  · rcases List.mem_append.1 he with h1 | h1
    · rcases List.mem_append.1 h1 with h2 | h2
      · exact .inl (steps_dom hS e h2)
      · refine .inr ?_
        rw [List.mem_singleton.1 h2, p4.its]
        exact mem_its.2 ⟨slot, by rw [getD_setO _ _ _ _ hslot, if_pos rfl]⟩
    · exact .inr (by rw [p4.its]; exact p6.dom e h1)
  · have h9 := p2_le D.h9
    rcases List.mem_append.1 he with h1 | h1
    · rcases List.mem_append.1 h1 with h2 | h2
      · exact steps_rng hS (by omega) e h2
      · rw [List.mem_singleton.1 h2]
        have := hO.len
        show (slot : Int) < 4096
        omega
    · exact p6.rng e h1
  · refine ⟨_, hO.chg hlen hs x, by rw [List.length_set, hO.len], fun k hk => ?_, p4.its.symm, p4, hOut.pk⟩
    rw [getD_setO _ _ _ _ hslot, if_neg (by omega)]
    exact hO.out k hk
/-- A Delete's outcome. -/
structure DelF (w : World) (F : PF) (σ : List (Option Int)) (h j : Nat) (x : Int) (tv : Value) (J : List Ev → World → Prop) (evs : List Ev) (S : St) (w' : World) (F' : PF) (σ' : List (Option Int)) (h' : Nat) (ev : List Ev) : Prop where
  p : F'.p = F.p
  r : PmaR w' F' σ' h' tv
  d : Dn σ' h'
  jj : J (evs ++ ev) w'
  mem : ∀ k, F'.mem k → F.mem k ∨ w.heap.size ≤ k
  items : its σ' = (its σ).take (cntOn (onOf σ) j) ++ (its σ).drop (cntOn (onOf σ) j + 1)
  knows : ∀ pos, Knows pos σ → legit pos ev ∧ Knows (runEv pos ev) σ'
  told : ev ≠ []
  dom : ∀ e ∈ ev, e.1 ∈ its σ ∨ e.1 ∈ its σ'
  rng : ∀ e ∈ ev, e.2.2 < 4096
  step : ∃ τ, ChgC σ τ (2 ^ h) (j / 8) 1 0 ∧ τ.length = σ.length ∧ (∀ k, k < 8 * (j / 8) ∨ 8 * (j / 8) + 8 ≤ k → τ.getD k none = σ.getD k none) ∧ its τ = its σ' ∧ StepO τ h (j / 8) S σ' h' ∧ pickS (cntsL τ) (j / 8) h = (S, 0)
theorem StepOut.del {w : World} {F : PF} {σ : List (Option Int)} {h j : Nat} {x : Int} {tv : Value} {B : Nat → Prop} {J : List Ev → World → Prop} {evs : List Ev} {v : Int} {S : St} {w' : World} (H : StepOut w F (σ.set j none) h (j / 8) (-1) tv B J (evs ++ [(x, (j : Int), -1)]) v S w') (D : Dn σ h) (hx : σ.getD j none = some x) :
    (∃ F' σ' h' ev, DelF w F σ h j x tv J evs S w' F' σ' h' ev) ∧ Fr (fun k => F.mem k ∨ B k) w w' := by
  obtain ⟨F', σ', h', ev, p1, p2, p3, p4, p5, p6, p7, p8⟩ := H.ex
  have hj := getD_lt hx
  refine ⟨⟨F', σ', h', (x, (j : Int), -1) :: ev, p1, p2, p3, by simpa [List.append_assoc] using p5, p7, by rw [p4.its, its_take hx], ?_, by simp, fun e he => ?_, fun e he => ?_, ?_⟩, H.fr⟩
  · intro pos hpos
    obtain ⟨a1, a2⟩ := hpos.take hx
    obtain ⟨a4, a5⟩ := p6.knows _ a2
    exact ⟨⟨a1, a4⟩, a5⟩
  · rcases List.mem_cons.1 he with h1 | h1
    · rw [h1]
      exact .inl (mem_its.2 ⟨j, hx⟩)
    · exact .inr (by rw [p4.its]; exact p6.dom e h1)
  · rcases List.mem_cons.1 he with h1 | h1
    · rw [h1]
      show (-1 : Int) < 4096
      omega
    · exact p6.rng e h1
  · refine ⟨_, take_chg (Z := 2 ^ h) D.len (onOf_some hx), by rw [List.length_set], fun k hk => ?_, p4.its.symm, p4, H.pk⟩
    rw [getD_setO _ _ _ _ hj, if_neg (by omega)]
end Go.Proofs.YtechphliifginaaGreatDoor
