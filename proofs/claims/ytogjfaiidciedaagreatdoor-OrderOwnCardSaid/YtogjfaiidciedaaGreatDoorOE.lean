/- order.List: its state; put. -/
import Derived.Test.YtogjfaiidciedaaGreatDoorOD
set_option linter.unusedVariables false
set_option linter.unusedSimpArgs false
namespace Go.Proofs.YtogjfaiidciedaaGreatDoor
open Go.RowKit Go.Maps

theorem RowG.frS {w0 wr w' : World} {p : Nat} {tv : Value} {B : Nat → Prop} {J : List Ev → World → Prop} {F : PF} {σ : List (Option Int)} {h : Nat} {evs : List Ev} (H : RowG w0 p tv B J F σ h evs wr) (T : Hear tv B J) {S : Nat → Prop} (hf : Fr S wr w') (hS : ∀ k, S k → ¬ F.mem k ∧ ¬ B k ∧ w0.heap.size ≤ k) : RowG w0 p tv B J F σ h evs w' :=
  ⟨H.p, H.r.fr hf (fun k hk hs => (hS k hs).1 hk), H.d, T.keep _ _ _ _ H.jj hf (fun k hk => (hS k hk).2.1), H.fr.trans' hf (fun j _ hj hs => by have := (hS j hs).2.2; omega), H.mem, fun k hk => ⟨(H.bb k hk).1, by have := (H.bb k hk).2.1; have := hf.size; omega, (H.bb k hk).2.2⟩⟩
/-- A list of handles. -/
structure OrdR (w0 : World) (L bl p : Nat) (tf : TF) (F : PF) (σ : List (Option Int)) (h : Nat) (τ : List (Option Int)) (w : World) : Prop where
  row : RowG w0 p (folO bl) (OrB bl L tf) (OrJ bl L p tf τ) F σ h [] w
  k : Knows (posOf τ) σ
def OrS (F : PF) (bl L : Nat) (tf : TF) (k : Nat) : Prop := F.mem k ∨ OrB bl L tf k
namespace OrdR
variable {w0 w w' : World} {L bl p : Nat} {tf : TF} {F : PF} {σ : List (Option Int)} {h : Nat} {τ : List (Option Int)}
theorem frS (H : OrdR w0 L bl p tf F σ h τ w) {S : Nat → Prop} (hf : Fr S w w') (hS : ∀ k, S k → ¬ OrS F bl L tf k ∧ w0.heap.size ≤ k) : OrdR w0 L bl p tf F σ h τ w' :=
  ⟨H.row.frS order_hear hf (fun k hk => ⟨fun h => (hS k hk).1 (.inl h), fun h => (hS k hk).1 (.inr h), (hS k hk).2⟩), H.k⟩
theorem new (H : OrdR w0 L bl p tf F σ h τ w) (hf : Fr Nil1 w w') : OrdR w0 L bl p tf F σ h τ w' := ⟨H.row.new order_hear hf, H.k⟩
theorem tab (H : OrdR w0 L bl p tf F σ h τ w) : TabR w tf τ := H.row.jj.t
theorem lst (H : OrdR w0 L bl p tf F σ h τ w) : Has w L [.pointer (some ⟨p, 0, none⟩), .pointer (some ⟨tf.t, 0, none⟩)] 62 := H.row.jj.l
theorem live (H : OrdR w0 L bl p tf F σ h τ w) (x : Int) : liveB τ x = true ↔ x ∈ its σ := by
  have hk := H.k x
  constructor
  · intro hl
    rw [mem_its]
    cases e : slotAt τ x with
    | none => unfold liveB at hl; rw [e] at hl; cases hl
    | some s =>
      have h0 := H.tab.wf x s e
      have hp : posOf τ x = s := by unfold posOf; rw [e]; rfl
      obtain ⟨q, _, hq⟩ := Knows.at' H.k x (by rw [hp]; exact h0.1)
      exact ⟨q, hq⟩
  · intro hx
    obtain ⟨i, hi⟩ := mem_its.1 hx
    have := hk.1 i hi
    unfold posOf at this
    unfold liveB
    cases e : slotAt τ x with
    | none => rw [e] at this; simp at this
    | some s => rfl
theorem slot (H : OrdR w0 L bl p tf F σ h τ w) {x : Int} (hl : liveB τ x = true) : ∃ q : Nat, slotV τ x = q ∧ σ.getD q none = some x := by
  obtain ⟨i, hi⟩ := mem_its.1 ((H.live x).1 hl)
  have := (H.k x).1 i hi
  refine ⟨i, ?_, hi⟩
  unfold posOf at this
  unfold slotV
  cases e : slotAt τ x with
  | none => unfold liveB at hl; rw [e] at hl; cases hl
  | some s => rw [e] at this; exact this
/-- Its table has been turned by itself. -/
theorem turn (H : OrdR w0 L bl p tf F σ h τ w) {τ1 : List (Option Int)} (ht : TabR w' tf τ1) (hf : Fr tf.mem w w') (hn : τ1.length < 1000000000) : RowG w0 p (folO bl) (OrB bl L tf) (OrJ bl L p tf τ1) F σ h [] w' := by
  have ha := H.row.jj.apart
  exact ⟨H.row.p, H.row.r.fr hf (fun k hk hs => (H.row.bb k (.inr (.inr hs))).1 hk), H.row.d, ⟨H.row.jj.b.fr' hf ha.1, H.row.jj.l.fr' hf ha.2, ht, hn⟩, H.row.fr.trans' hf (fun j _ hj hs => by have := (H.row.bb j (.inr (.inr hs))).2.2.2; omega), H.row.mem, fun k hk => ⟨(H.row.bb k hk).1, by have := (H.row.bb k hk).2.1; have := hf.size; omega, (H.row.bb k hk).2.2⟩⟩
end OrdR
/-- What was told becomes the table's own. -/
theorem RowG.rebase {w0 w : World} {L bl p : Nat} {tf : TF} {F : PF} {σ : List (Option Int)} {h : Nat} {τ1 : List (Option Int)} {ev : List Ev} (H : RowG w0 p (folO bl) (OrB bl L tf) (OrJ bl L p tf τ1) F σ h ev w) : RowG w0 p (folO bl) (OrB bl L tf) (OrJ bl L p tf (tabEv τ1 ev)) F σ h [] w :=
  ⟨H.p, H.r, H.d, ⟨H.jj.b, H.jj.l, H.jj.t, by rw [tabEv_length]; exact H.jj.n⟩, H.fr, H.mem, H.bb⟩
theorem slotAt_snoc' (τ : List (Option Int)) (x : Int) (hx : x ≠ τ.length + 1) : slotAt (τ ++ [some 0]) x = slotAt τ x := by rw [slotAt_snoc, if_neg hx]
/-- The plain law of a handle that comes. -/
theorem OrdR.come {w0 w w2 : World} {L bl p : Nat} {tf : TF} {F F' : PF} {σ σ' : List (Option Int)} {h h' seg next : Nat} {τ : List (Option Int)} {v : Int} {S : St} {ev : List Ev} (H : OrdR w0 L bl p tf F σ h τ w)
    (hR : RowG w0 p (folO bl) (OrB bl L tf) (OrJ bl L p tf (τ ++ [some 0])) F' σ' h' ([] ++ ev) w2) (k : InsP σ h seg next ((τ.length : Int) + 1) v S σ' h' ev) : OrdR w0 L bl p tf F' σ' h' (tabEv (τ ++ [some 0]) ev) w2 := by
  have hno : posOf τ ((τ.length : Int) + 1) = -1 := by unfold posOf; rw [slotAt_out τ _ (.inr (by omega))]; rfl
  obtain ⟨_, h2⟩ := k.knows (posOf τ) H.k hno
  refine ⟨(show RowG w0 p (folO bl) (OrB bl L tf) (OrJ bl L p tf (τ ++ [some 0])) F' σ' h' ev w2 from hR).rebase, ord_ev (fun x hl hx => ?_) k.rng h2 (fun x => ?_)⟩
  · by_cases e : x = τ.length + 1
    · rw [e] at hx; omega
    · rw [slotAt_snoc' τ x e]
      unfold posOf at hx ⊢
      cases e' : slotAt τ x with
      | none => rw [e'] at hx; simp at hx
      | some s => rfl
  · rw [k.items, List.mem_append, List.mem_cons, liveB, slotAt_snoc]
    by_cases e : x = τ.length + 1
    · rw [if_pos e]
      exact ⟨fun _ => .inr (.inl e), fun _ => rfl⟩
    · rw [if_neg e]
      refine (H.live x).trans ⟨fun hx => ?_, fun hx => ?_⟩
      · rw [← List.take_append_drop (cntOn (onOf σ) next) (its σ), List.mem_append] at hx
        rcases hx with hx | hx
        · exact .inl hx
        · exact .inr (.inr hx)
      · rcases hx with hx | hx | hx
        · exact List.mem_of_mem_take hx
        · exact absurd hx e
        · exact List.mem_of_mem_drop hx
/-- The plain law of a handle that goes. -/
theorem OrdR.go {w0 w w2 : World} {L bl p : Nat} {tf : TF} {F F' : PF} {σ σ' : List (Option Int)} {h h' j : Nat} {τ : List (Option Int)} {x : Int} {S : St} {ev : List Ev} (H : OrdR w0 L bl p tf F σ h τ w) (hx : σ.getD j none = some x)
    (hR : RowG w0 p (folO bl) (OrB bl L tf) (OrJ bl L p tf (τ.set (x.toNat - 1) none)) F' σ' h' ([] ++ ev) w2) (k : DelP σ h j x S σ' h' ev) : OrdR w0 L bl p tf F' σ' h' (tabEv (τ.set (x.toNat - 1) none) ev) w2 := by
  have hl := (H.live x).2 (mem_its.2 ⟨j, hx⟩)
  have hb := TabR.live_bound x hl
  obtain ⟨_, h2⟩ := k.knows (posOf τ) H.k
  have hsl : ∀ y, slotAt (τ.set (x.toNat - 1) none) y = if y = x then none else slotAt τ y := fun y => slotAt_set τ x none hb.1 hb.2 y
  have hnd := its_nodup' H.k
  refine ⟨(show RowG w0 p (folO bl) (OrB bl L tf) (OrJ bl L p tf (τ.set (x.toNat - 1) none)) F' σ' h' ev w2 from hR).rebase, ord_ev (fun y hly hy => ?_) k.rng h2 (fun y => ?_)⟩
  · rw [hsl]
    by_cases e : y = x
    · unfold liveB at hly
      rw [hsl, if_pos e] at hly
      cases hly
    · rw [if_neg e]
      unfold posOf at hy ⊢
      cases e' : slotAt τ y with
      | none => rw [e'] at hy; simp at hy
      | some s => rfl
  · have hsp : its σ = (its σ).take (cntOn (onOf σ) j) ++ x :: (its σ).drop (cntOn (onOf σ) j + 1) := by
      have h1 := its_get σ j x hx
      obtain ⟨h2, h3⟩ := List.getElem?_eq_some_iff.1 h1
      conv => lhs; rw [← List.take_append_drop (cntOn (onOf σ) j) (its σ)]
      rw [List.drop_eq_getElem_cons h2, h3]
    rw [k.items, List.mem_append, liveB, hsl]
    rw [hsp] at hnd
    have hnd2 := List.nodup_append.1 hnd
    have hnd3 := List.nodup_cons.1 hnd2.2.1
    by_cases e : y = x
    · rw [if_pos e]
      refine ⟨fun h => (by cases h), fun hy => ?_⟩
      exfalso
      rcases hy with hy | hy
      · exact hnd2.2.2 y hy x (List.mem_cons_self ..) e
      · exact hnd3.1 (e ▸ hy)
    · rw [if_neg e]
      have hm : (y ∈ its σ) = (y ∈ (its σ).take (cntOn (onOf σ) j) ++ x :: (its σ).drop (cntOn (onOf σ) j + 1)) := congrArg (y ∈ ·) hsp
      refine (H.live y).trans ?_
      rw [hm, List.mem_append, List.mem_cons]
      exact ⟨fun hy => hy.elim .inl (fun hy => hy.elim (fun e' => absurd e' e) .inr), fun hy => hy.elim .inl (fun hy => .inr (.inr hy))⟩
end Go.Proofs.YtogjfaiidciedaaGreatDoor
