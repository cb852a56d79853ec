/- order.List: Clone; what an act does is fixed. -/
import Derived.Test.YtogjfaiidciedaaGreatDoorOV
import Derived.Test.YtogjfaiidciedaaGreatDoorUQ
set_option linter.unusedVariables false
set_option linter.unusedSimpArgs false
namespace Go.Proofs.YtogjfaiidciedaaGreatDoor
open Go.RowKit Go.Maps

set_option maxRecDepth 100000 in
set_option maxHeartbeats 1000000 in
theorem ordFollow_all {w0 w : World} {F : PF} {tf : TF} {L : Nat} {σ : List (Option Int)} {h : Nat} {τ : List (Option Int)} (H : PmaR w F σ h Value.nilFunc) (ht : TabR w tf τ) (hd : Dn σ h) (hk : Knows (posOf τ) σ) (hn : τ.length < 1000000000)
    (hL : Has w L [.pointer (some ⟨F.p, 0, none⟩), .pointer (some ⟨tf.t, 0, none⟩)] 62) (hf0 : Fr Nil1 w0 w) (gL : NG ≤ L)
    (hm : ∀ k, F.mem k → w0.heap.size ≤ k) (hmt : ∀ k, tf.mem k → w0.heap.size ≤ k ∧ ¬ F.mem k) (hmL : w0.heap.size ≤ L ∧ ¬ F.mem L) :
    Calls Tryz.prog 42 #[.pointer (some ⟨L, 0, none⟩)] w fun e w' => e = .returned (.pointer (some ⟨L, 0, none⟩)) ∧ Hid ((∃ bl, OrdR w0 L bl F.p tf F σ h τ w') ∧ Fr Nil1 w0 w') := by
  have fa : Fr Nil1 w (w.alloc (.cells #[.pointer (some ⟨L, 0, none⟩)] 24)) := (Fr.refl _ _).alloc _
  have HTl := hid (pmaTellM_any (H.new fa) 62 #[.pointer (some ⟨w.heap.size, 0, none⟩)])
  have hLa := hL.alloc (.cells #[.pointer (some ⟨L, 0, none⟩)] 24)
  obtain ⟨l0, l1, lf⟩ := hLa.two
  have hb := Has.new w [.pointer (some ⟨L, 0, none⟩)] 24
  obtain ⟨b0, bf⟩ := hb.one
  have hpL : F.p ≠ L := fun e => hmL.2 (e ▸ .inl rfl)
  have hpb : F.p ≠ w.heap.size := fun e => by have := H.row.lt; omega
  have hb' := hb.other (p := ⟨F.p, 2, none⟩) (folO w.heap.size) (fun e => hpb e.symm)
  obtain ⟨k0, kf⟩ := hb'.one
  unfold folO at k0 kf
  have hgp := H.gp
  have fz : Fr (fun k => k = F.p) (w.alloc (.cells #[.pointer (some ⟨L, 0, none⟩)] 24)) ((w.alloc (.cells #[.pointer (some ⟨L, 0, none⟩)] 24)).setCell ⟨F.p, 2, none⟩ (folO w.heap.size)) := (Fr.refl (fun k => k = F.p) _).setCell ⟨F.p, 2, none⟩ _ hgp (fun _ => rfl)
  have HX := hid (show OrdR w0 L w.heap.size F.p tf F σ h τ ((w.alloc (.cells #[.pointer (some ⟨L, 0, none⟩)] 24)).setCell ⟨F.p, 2, none⟩ (folO w.heap.size)) from by
    refine ⟨⟨rfl, (H.new fa).tell _, hd, ⟨hb', hLa.fr' fz (fun e => hpL e.symm), (ht.new fa).fr fz (fun k hk e => (hmt k hk).2 (e ▸ .inl rfl)), hn⟩, (hf0.trans fa).trans' fz (fun j _ hj e => by have e' : j = F.p := e; have := hm F.p (.inl rfl); omega), hm, ?_⟩, hk⟩
    have hs : ((w.alloc (.cells #[.pointer (some ⟨L, 0, none⟩)] 24)).setCell ⟨F.p, 2, none⟩ (folO w.heap.size)).heap.size = w.heap.size + 1 := by simp
    have hw0 := hf0.size
    have hGw := H.sl.g.size
    rintro k (rfl | rfl | hk)
    · exact ⟨fun hk => by have := H.lt _ hk; omega, by omega, hGw, hw0⟩
    · exact ⟨hmL.2, by have := hL.lt; omega, gL, hmL.1⟩
    · exact ⟨(hmt k hk).2, by have := ht.lt k hk; omega, ht.ge k hk, (hmt k hk).1⟩)
  have HF := hid (show Fr Nil1 w0 ((w.alloc (.cells #[.pointer (some ⟨L, 0, none⟩)] 24)).setCell ⟨F.p, 2, none⟩ (folO w.heap.size)) from (hf0.trans fa).trans' fz (fun j _ hj e => by have e' : j = F.p := e; have := hm F.p (.inl rfl); omega))
  unfold folO at HX HF
  clear H ht hL fa hLa hb hb' fz hpL hpb hgp hd hk
  go_enter Tryz.func42, Tryz.ntmps42
  go_wp2_with (go_at_call 61; refine HTl.out.mono ?_; rintro e w1 ⟨⟨v, rfl⟩, rfl⟩)
  go_ret
  exact ⟨rfl, hid ⟨⟨_, HX.out⟩, HF.out⟩⟩
section
variable {w0 w : World} {L bl p : Nat} {tf : TF} {F : PF} {σ : List (Option Int)} {h : Nat} {τ : List (Option Int)}
set_option maxRecDepth 100000 in
set_option maxHeartbeats 1000000 in
/-- A clone: a list of its own, the same; all that it is of is new. -/
theorem ordClone_any (H : OrdR w0 L bl p tf F σ h τ w) :
    Calls Tryz.prog 33 #[.pointer (some ⟨L, 0, none⟩)] w fun e w' => ∃ L' : Nat, e = .returned (.pointer (some ⟨L', 0, none⟩)) ∧ Hid ((∃ (bl' p' : Nat) (tf' : TF) (F' : PF), OrdR w L' bl' p' tf' F' σ h τ w') ∧ Fr Nil1 w w') := by
  obtain ⟨c0, c1, _⟩ := H.lst.two
  have HCd := hid (pmaClone_any (H.row.r.new (Fr.refl Nil1 w).drew))
  rw [H.row.p] at HCd
  have HT := hid (fun w1 (hf : Fr Nil1 w w1) => tabClone_any (H.tab.new hf) (by have := hf.size; have := H.row.r.sl.g.size; omega))
  have HG := hid H.row.r.sl.g.size
  have HD := hid (And.intro H.row.d (And.intro H.k H.row.jj.n))
  have HLs := hid (fun w1 (hf : Fr Nil1 w w1) => (H.lst.fr' hf id).two)
  clear H
  go_enter Tryz.func33, Tryz.ntmps33
  go_wp2_with fail
  go_region_held3 (fun w' => w'.cell? ⟨L, 0, none⟩ = some (.pointer (some ⟨p, 0, none⟩)) ∧ w'.cell? ⟨L, 1, none⟩ = some (.pointer (some ⟨tf.t, 0, none⟩))) (first | exact ⟨k0, k1⟩ | exact ⟨j0, j1⟩ | exact ⟨c0, c1⟩ | go_keep) (first
    | (go_at_call 44; refine (HT.out w1 H1.out.2.1).mono ?_; rintro e w2 ⟨f', rfl, h1, h2, h3⟩; have H2 := hid (And.intro h1 (And.intro h2 h3)); obtain ⟨k0, k1, _⟩ := HLs.out w2 (H1.out.2.1.trans h2); clear h1 h2 h3)
    | (go_at_call 45; refine (HCd.out).mono ?_; rintro e w1 ⟨F', rfl, h1, h2, h3⟩; have hF1 := (Fr.refl Nil1 w).drew.trans h2; have H1 := hid (And.intro h1 (And.intro hF1 (show ∀ k, F'.mem k → w.heap.size ≤ k from h3))); obtain ⟨j0, j1, _⟩ := HLs.out w1 hF1; clear h1 h2 h3 hF1))
  go_wp2_with fail
  have s1 := H1.out.2.1.size
  have s2 := H2.out.2.1.size
  refine (ordFollow_all (w0 := w) (F := F') (tf := f') (L := w2.heap.size) (σ := σ) (h := h) (τ := τ) (H1.out.1.new (H2.out.2.1.alloc _)) (H2.out.1.new ((Fr.refl _ _).alloc _)) HD.out.1 HD.out.2.1 HD.out.2.2 (Has.new w2 _ _) ((H1.out.2.1.trans H2.out.2.1).alloc _) (by have := HG.out; omega) H1.out.2.2 (fun k hk => ⟨by have := H2.out.2.2 k hk; omega, fun hF => by have := H2.out.2.2 k hk; have := H1.out.1.lt k hF; omega⟩) ⟨by omega, fun hF => by have := H1.out.1.lt _ hF; omega⟩).mono ?_
  rintro e w3 ⟨rfl, H3⟩
  go_wp2_with fail
  go_ret
  obtain ⟨bl', h3⟩ := H3.out.1
  exact ⟨_, rfl, hid ⟨⟨bl', _, _, _, h3⟩, H3.out.2⟩⟩
end

/-- What an act does is fixed by the list. -/
theorem DoQ.uniq {σ τ1 τ2 : List (Option Int)} {d y x1 x2 e1 e2 : Int} {S1 S2 : St} {σ1 σ2 ν1 ν2 : List (Option Int)} (A : DoQ σ τ1 d y x1 S1 e1 σ1 ν1) (B : DoQ σ τ2 d y x2 S2 e2 σ2 ν2) (hl : τ1.length = τ2.length) (h1 : liveB τ1 y = true ↔ y ∈ its σ) (h2 : liveB τ2 y = true ↔ y ∈ its σ)
    (inj : ∀ (i j : Nat) (a : Int), (its σ)[i]? = some a → (its σ)[j]? = some a → i = j) : x1 = x2 ∧ S1 = S2 ∧ e1 = e2 ∧ σ1 = σ2 ∧ ν1.length = ν2.length := by
  have hmem : ∀ {r : Nat}, (its σ)[r]? = some y → y ∈ its σ := fun h => List.mem_of_getElem? h
  cases A with
  | put k hT hd hx he k' =>
    cases B with
    | put m hT' hd' hx' he' m' =>
      have hkm : k = m := by
        rcases hd with ⟨a, b⟩ | ⟨a, r, hr, b⟩ | ⟨a, hr⟩
        · rcases hd' with ⟨a', b'⟩ | ⟨a', _⟩ | ⟨a', _⟩ <;> omega
        · rcases hd' with ⟨a', b'⟩ | ⟨a', r', hr', b'⟩ | ⟨a', _⟩
          · omega
          · have := inj _ _ _ hr hr'; omega
          · omega
        · rcases hd' with ⟨a', b'⟩ | ⟨a', _⟩ | ⟨a', hr'⟩
          · omega
          · omega
          · exact inj _ _ _ hr hr'
      subst hkm
      obtain ⟨b1, v1, s1, n1, h1', g1, ev1, c1, k1, l1, i1⟩ := k'.ins
      obtain ⟨b2, v2, s2, n2, h2', g2, ev2, c2, k2, l2, i2⟩ := m'.ins
      obtain ⟨es, en⟩ := c1.uniq c2 (by rw [k1, k2])
      subst es en
      have eh : h1' = h2' := pow_inj2 (by omega)
      subst eh
      rw [← hl] at i2
      obtain ⟨q1, q2, _⟩ := i1.uniq l1 i2
      exact ⟨by omega, q1, by omega, q2, by rw [k'.len, m'.len, hl]⟩
    | del m hd' hk' hx' he' m' => rcases hd with ⟨a, _⟩ | ⟨a, _⟩ | ⟨a, _⟩ <;> omega
    | stale hd' hl' _ _ _ _ _ =>
      rcases hd with ⟨a, _⟩ | ⟨a, r, hr, _⟩ | ⟨a, hr⟩
      · exact absurd a hd'
      · rw [h2.2 (hmem hr)] at hl'; cases hl'
      · rw [h2.2 (hmem hr)] at hl'; cases hl'
    | full _ hT' _ _ _ _ _ => omega
  | del k hd hk hx he k' =>
    cases B with
    | put m hT' hd' hx' he' m' => rcases hd' with ⟨a, _⟩ | ⟨a, _⟩ | ⟨a, _⟩ <;> omega
    | del m hd' hk' hx' he' m' =>
      obtain rfl := inj _ _ _ hk hk'
      obtain ⟨j1, h1', g1, y1, ev1, c1, k1, l1, i1⟩ := k'.del
      obtain ⟨j2, h2', g2, y2, ev2, c2, k2, l2, i2⟩ := m'.del
      have ej : j1 = j2 := cntOn_inj' (onOf_some c1) (onOf_some c2) (by rw [k1, k2])
      subst ej
      have eh : h1' = h2' := pow_inj2 (by omega)
      subst eh
      rw [c1] at c2
      cases c2
      obtain ⟨q1, q2, _⟩ := i1.uniq l1 i2
      exact ⟨by omega, q1, by omega, q2, by rw [k'.len, m'.len, hl]⟩
    | stale hd' hl' _ _ _ _ _ => rw [h2.2 (hmem hk)] at hl'; cases hl'
    | full hd' _ _ _ _ _ _ =>
      rcases hd' with a | ⟨a, _⟩
      · omega
      · omega
  | stale hd hl1 hx hS he hσ hτ =>
    cases B with
    | put m hT' hd' hx' he' m' =>
      rcases hd' with ⟨a, _⟩ | ⟨a, r, hr, _⟩ | ⟨a, hr⟩
      · exact absurd a hd
      · rw [h1.2 (hmem hr)] at hl1; cases hl1
      · rw [h1.2 (hmem hr)] at hl1; cases hl1
    | del m hd' hk' hx' he' m' => rw [h1.2 (hmem hk')] at hl1; cases hl1
    | stale hd' hl' hx' hS' he' hσ' hτ' => exact ⟨by omega, by rw [hS, hS'], by omega, by rw [hσ, hσ'], by rw [hτ, hτ', hl]⟩
    | full hd' _ _ _ _ _ _ =>
      rcases hd' with a | ⟨_, a⟩
      · exact absurd a hd
      · rw [h1.2 (h2.1 a)] at hl1; cases hl1
  | full hd hT hx hS he hσ hτ =>
    cases B with
    | put m hT' hd' hx' he' m' => omega
    | del m hd' hk' hx' he' m' =>
      rcases hd with a | ⟨a, _⟩
      · omega
      · omega
    | stale hd' hl' _ _ _ _ _ =>
      rcases hd with a | ⟨_, a⟩
      · exact absurd a hd'
      · rw [h2.2 (h1.1 a)] at hl'; cases hl'
    | full hd' hT' hx' hS' he' hσ' hτ' => exact ⟨by omega, by rw [hS, hS'], by omega, by rw [hσ, hσ'], by rw [hτ, hτ', hl]⟩
end Go.Proofs.YtogjfaiidciedaaGreatDoor
