/- order.List: who is told of its row; its state, in plain words. -/
import Derived.Test.YtogjfaiidciedaaGreatDoorOC
set_option linter.unusedVariables false
set_option linter.unusedSimpArgs false
namespace Go.Proofs.YtogjfaiidciedaaGreatDoor
open Go.RowKit Go.Maps

/-- A table behind what it was told. -/
def tabS (τ : List (Option Int)) (e : Ev) : List (Option Int) := if 0 ≤ e.2.2 then mvT τ e.1 e.2.2 else τ
def tabEv (τ : List (Option Int)) (evs : List Ev) : List (Option Int) := evs.foldl tabS τ
theorem tabEv_snoc (τ : List (Option Int)) (evs : List Ev) (e : Ev) : tabEv τ (evs ++ [e]) = tabS (tabEv τ evs) e := by unfold tabEv; rw [List.foldl_append]; rfl
theorem tabS_length (τ : List (Option Int)) (e : Ev) : (tabS τ e).length = τ.length := by unfold tabS; split; exact mvT_length _ _ _; rfl
theorem tabEv_length : ∀ (evs : List Ev) (τ : List (Option Int)), (tabEv τ evs).length = τ.length
  | [], _ => rfl
  | e :: r, τ => by
    show (tabEv (tabS τ e) r).length = _
    rw [tabEv_length r, tabS_length]
structure OrJ (bl L p : Nat) (tf : TF) (τ0 : List (Option Int)) (evs : List Ev) (w : World) : Prop where
  b : Has w bl [.pointer (some ⟨L, 0, none⟩)] 24
  l : Has w L [.pointer (some ⟨p, 0, none⟩), .pointer (some ⟨tf.t, 0, none⟩)] 62
  t : TabR w tf (tabEv τ0 evs)
  n : τ0.length < 1000000000
def OrB (bl L : Nat) (tf : TF) (k : Nat) : Prop := k = bl ∨ k = L ∨ tf.mem k
theorem OrJ.fr {bl L p : Nat} {tf : TF} {τ0 : List (Option Int)} {evs : List Ev} {w w' : World} {S : Nat → Prop} (H : OrJ bl L p tf τ0 evs w) (hf : Fr S w w') (hS : ∀ k, S k → ¬ OrB bl L tf k) : OrJ bl L p tf τ0 evs w' :=
  ⟨H.b.fr' hf (fun h => hS _ h (.inl rfl)), H.l.fr' hf (fun h => hS _ h (.inr (.inl rfl))), H.t.fr hf (fun k hk h => hS k h (.inr (.inr hk))), H.n⟩
theorem OrJ.apart {bl L p : Nat} {tf : TF} {τ0 : List (Option Int)} {evs : List Ev} {w : World} (H : OrJ bl L p tf τ0 evs w) : ¬ tf.mem bl ∧ ¬ tf.mem L := by
  have key : ∀ {b : Nat} {cs : List Value} {T : TypeId}, Has w b cs T → T ≠ 68 → ¬ tf.mem b := by
    intro b cs T hb hT hm
    rcases hm with e | e
    · subst e
      exact hb.ne H.t.row hT rfl
    · subst e
      obtain ⟨D, ⟨es, clock, h1, _⟩, _⟩ := H.t.map
      unfold Has at hb
      rw [h1] at hb
      cases hb
  exact ⟨key H.b (by decide), key H.l (by decide)⟩

set_option maxHeartbeats 1000000 in
theorem follow1_ok {bl L p : Nat} {tf : TF} {τ0 : List (Option Int)} (evs : List Ev) (x i j : Int) (w : World) (H : OrJ bl L p tf τ0 evs w) :
    Calls Tryz.prog 62 #[.int .i64 x, .int .i64 i, .int .i64 j, .pointer (some ⟨bl, 0, none⟩)] w fun e w' => (∃ v, e = .returned v) ∧ OrJ bl L p tf τ0 (evs ++ [(x, i, j)]) w' ∧ Fr (OrB bl L tf) w w' := by
  obtain ⟨b0, bf⟩ := H.b.one
  obtain ⟨l0, l1, lf⟩ := H.l.two
  have hs := tabEv_snoc τ0 evs (x, i, j)
  have HH := hid H
  have ha := H.apart
  by_cases hj : 0 ≤ j
  · have he : tabEv τ0 (evs ++ [(x, i, j)]) = mvT (tabEv τ0 evs) x j := hs.trans (if_pos hj)
    have HM := hid (tabMove_all H.t x j (by rw [tabEv_length]; exact H.n))
    have HE := hid he
    have HA := hid ha
    have d1 : decide (0 ≤ j) = true := decide_eq_true hj
    clear H hs he ha
    go_enter Tryz.func62, Tryz.ntmps62
    go_wp2_with (go_at_call 63; refine HM.out.mono ?_; rintro e w2 ⟨⟨v, rfl⟩, h1, h2⟩; have H2 := hid (And.intro h1 h2); clear h1 h2)
    first | refine bodyPost_ret (results_none rfl _ _ _) rfl ?_ | refine bodyPost_end (results_none rfl _ _ _) rfl ?_
    exact ⟨⟨_, rfl⟩, ⟨HH.out.b.fr' H2.out.2 HA.out.1, HH.out.l.fr' H2.out.2 HA.out.2, by rw [HE.out]; exact H2.out.1, HH.out.n⟩, H2.out.2.mono (fun _ _ h => .inr (.inr h))⟩
  · have he : tabEv τ0 (evs ++ [(x, i, j)]) = tabEv τ0 evs := hs.trans (if_neg hj)
    have HE := hid he
    have d1 : decide (0 ≤ j) = false := decide_eq_false hj
    clear H hs he ha
    go_enter Tryz.func62, Tryz.ntmps62
    go_wp2_with fail
    first | refine bodyPost_ret (results_none rfl _ _ _) rfl ?_ | refine bodyPost_end (results_none rfl _ _ _) rfl ?_
    exact ⟨⟨_, rfl⟩, ⟨HH.out.b, HH.out.l, by rw [HE.out]; exact HH.out.t, HH.out.n⟩, Fr.refl _ _⟩
def folO (bl : Nat) : Value := .func (.func 62) #[] #[.pointer (some ⟨bl, 0, none⟩)]
theorem order_hear {bl L p : Nat} {tf : TF} {τ0 : List (Option Int)} : Hear (folO bl) (OrB bl L tf) (OrJ bl L p tf τ0) where
  fn := .inr ⟨62, #[], _, rfl, ⟨enters_of Tryz.func62 (by kernel_rfl) rfl, fun evs x i j w H => follow1_ok evs x i j w H, fun evs w w' S H hf hS => H.fr hf hS⟩⟩
  keep := fun evs w w' S H hf hS => H.fr hf hS

/-- Where a handle is; -1: nowhere. -/
def posOf (τ : List (Option Int)) (x : Int) : Int := (slotAt τ x).getD (-1)
theorem liveB_mvT (τ : List (Option Int)) (x s y : Int) : liveB (mvT τ x s) y = liveB τ y := by
  unfold mvT
  split
  · rename_i c
    have hb := TabR.live_bound x c.1
    rw [liveB, slotAt_set τ x (some s) hb.1 hb.2]
    by_cases e : y = x
    · rw [if_pos e, e, c.1]; rfl
    · rw [if_neg e]; rfl
  · rfl
theorem slotAt_mvT {τ : List (Option Int)} {x s : Int} (h : liveB τ x = true) (h0 : 0 ≤ s) (h4 : s < 4096) (y : Int) : slotAt (mvT τ x s) y = if y = x then some s else slotAt τ y := by
  have hb := TabR.live_bound x h
  unfold mvT
  rw [if_pos ⟨h, h0, h4⟩, slotAt_set τ x (some s) hb.1 hb.2]
theorem liveB_tabEv : ∀ (evs : List Ev) (τ : List (Option Int)) (y : Int), liveB (tabEv τ evs) y = liveB τ y
  | [], _, _ => rfl
  | e :: r, τ, y => by
    show liveB (tabEv (tabS τ e) r) y = _
    rw [liveB_tabEv r]
    unfold tabS
    split
    · exact liveB_mvT _ _ _ _
    · rfl
/-- What the table says of the live ones that are somewhere. -/
def TabI (τ : List (Option Int)) (pos : Int → Int) : Prop := ∀ x, liveB τ x = true → 0 ≤ pos x → slotAt τ x = some (pos x)
theorem TabI.ev : ∀ (evs : List Ev) (τ : List (Option Int)) (pos : Int → Int), TabI τ pos → (∀ e ∈ evs, e.2.2 < 4096) → TabI (tabEv τ evs) (runEv pos evs)
  | [], _, _, h, _ => h
  | e :: r, τ, pos, h, hr => by
    show TabI (tabEv (tabS τ e) r) (runEv (updI pos e.1 e.2.2) r)
    refine TabI.ev r _ _ ?_ (fun e' he => hr e' (List.mem_cons_of_mem _ he))
    have h4 := hr e (List.mem_cons_self ..)
    intro x hl hx
    unfold updI at hx ⊢
    by_cases ex : x = e.1
    · rw [if_pos ex] at hx ⊢
      unfold tabS at hl ⊢
      rw [if_pos hx] at hl ⊢
      rw [liveB_mvT, ex] at hl
      rw [slotAt_mvT hl hx h4, if_pos ex]
    · rw [if_neg ex] at hx ⊢
      unfold tabS at hl ⊢
      split
      · rename_i c
        rw [if_pos c, liveB_mvT] at hl
        unfold mvT
        split
        · rename_i d
          have hb := TabR.live_bound e.1 d.1
          rw [slotAt_set τ e.1 _ hb.1 hb.2, if_neg ex]
          exact h x hl hx
        · exact h x hl hx
      · rename_i c
        rw [if_neg c] at hl
        exact h x hl hx
theorem ord_ev {τ1 : List (Option Int)} {pos : Int → Int} {ev : List Ev} {σ' : List (Option Int)} (hI : TabI τ1 pos) (hr : ∀ e ∈ ev, e.2.2 < 4096) (hk : Knows (runEv pos ev) σ') (hl : ∀ x, liveB τ1 x = true ↔ x ∈ its σ') : Knows (posOf (tabEv τ1 ev)) σ' := by
  have h2 := TabI.ev ev τ1 pos hI hr
  intro x
  refine ⟨fun i hi => ?_, fun hn => ?_⟩
  · have hp := (hk x).1 i hi
    have := h2 x (by rw [liveB_tabEv]; exact (hl x).2 (mem_its.2 ⟨i, hi⟩)) (by omega)
    unfold posOf
    rw [this, hp]
    rfl
  · have : liveB (tabEv τ1 ev) x = false := by
      rw [liveB_tabEv]
      cases e : liveB τ1 x with
      | false => rfl
      | true =>
        obtain ⟨i, hi⟩ := mem_its.1 ((hl x).1 e)
        exact absurd hi (hn i)
    unfold posOf
    unfold liveB at this
    cases e : slotAt (tabEv τ1 ev) x with
    | none => rfl
    | some s => rw [e] at this; cases this
theorem its_nodup' {pos : Int → Int} {σ : List (Option Int)} (hk : Knows pos σ) : (its σ).Nodup := by
  have key : ∀ m, (itsTo σ m).Nodup := by
    intro m
    induction m with
    | zero => exact List.nodup_nil
    | succ m ih =>
      cases e : σ.getD m none with
      | none => rw [itsTo_none _ _ e]; exact ih
      | some x =>
        rw [itsTo_some _ _ x e]
        refine List.nodup_append.2 ⟨ih, by simp, fun a ha b hb => ?_⟩
        have := List.mem_singleton.1 hb
        subst this
        rintro rfl
        obtain ⟨⟨p, y⟩, h1, h2⟩ := List.mem_map.1 ha
        obtain ⟨h3, h4⟩ := occTo_mem m p y h1
        simp at h2
        subst h2
        have := hk.uniq h4 e
        omega
  exact key _
theorem Knows.at' {pos : Int → Int} {σ : List (Option Int)} (hk : Knows pos σ) (x : Int) (h : 0 ≤ pos x) : ∃ p : Nat, pos x = p ∧ σ.getD p none = some x := by
  by_cases e : ∃ i, σ.getD i none = some x
  · obtain ⟨i, hi⟩ := e
    exact ⟨i, (hk x).1 i hi, hi⟩
  · have := (hk x).2 (fun i hi => e ⟨i, hi⟩)
    omega
end Go.Proofs.YtogjfaiidciedaaGreatDoor
