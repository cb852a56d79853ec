/- order.List.put. -/
import Derived.Test.YtogjfaiidciedaaGreatDoorOE
import Derived.RegionTactic
import Derived.ChangeAlike
import Derived.Deep.RegionHeld3
set_option linter.unusedVariables false
set_option linter.unusedSimpArgs false
namespace Go.Proofs.YtogjfaiidciedaaGreatDoor
open Go.RowKit Go.Maps

/-- What a handle that comes does. -/
structure PutP (σ : List (Option Int)) (k : Nat) (τ σ' τ' : List (Option Int)) (S : St) : Prop where
  items : its σ' = (its σ).take k ++ ((τ.length : Int) + 1) :: (its σ).drop k
  len : τ'.length = τ.length + 1
  st : S.k ≠ 0
  ins : ∃ (bh v : Int) (seg next h h' : Nat) (ev : List Ev), BehC σ bh seg next ∧ cntOn (onOf σ) next = k ∧ σ.length = 8 * 2 ^ h ∧ InsP σ h seg next ((τ.length : Int) + 1) v S σ' h' ev
theorem StepO.kind {τ τ' : List (Option Int)} {h seg h' : Nat} {S : St} (H : StepO τ h seg S τ' h') : S.k ≠ 0 := by
  cases H with
  | win m hm e hh k => rw [e]; show (1 : Int) ≠ 0; omega
  | anew kd hk e hh k => rw [e]; show kd ≠ 0; omega
theorem OrdR.insTook {w0 w w1 : World} {L bl p : Nat} {tf : TF} {F : PF} {σ : List (Option Int)} {h : Nat} {τ : List (Option Int)} (H : OrdR w0 L bl p tf F σ h τ w) (ht : TabR w1 tf (τ ++ [some 0])) (hf : Fr tf.mem w w1) (hn : τ.length < 100000000) (hT : (its σ).length < 2560) (bh : Int) {seg next : Nat} (hc : BehC σ bh seg next) :
    Calls Tryz.prog 65 #[.pointer (some ⟨p, 0, none⟩), .int .i64 bh, .int .i64 ((τ.length : Int) + 1)] w1 fun e w2 => ∃ (v a b c d : Int) (S : St) (F' : PF) (σ' : List (Option Int)) (h' : Nat) (τ' : List (Option Int)), e = .returned (.tuple #[.int .i64 v, .agg #[.int .i64 S.k, .int .i64 S.f, .int .i64 S.s, .int .i64 S.c], .int .i64 0]) ∧
      Hid (OrdR w0 L bl p tf F' σ' h' τ' w2 ∧ PutP σ (cntOn (onOf σ) next) τ σ' τ' S ∧ (∀ k, F'.mem k → F.mem k ∨ w1.heap.size ≤ k) ∧ Fr (OrS F bl L tf) w1 w2) := by
  have hR := H.turn ht hf (by rw [List.length_append, List.length_singleton]; omega)
  refine (RowG.insAny hR order_hear hT bh ((τ.length : Int) + 1)).mono ?_
  rintro e w2 ⟨v, S, er, rfl, H3⟩
  obtain ⟨⟨F', σ', h', ev, hR', hQ, hm⟩, hf'⟩ := H3.out
  cases hQ with
  | bad he h0 hne _ _ _ _ _ =>
    exfalso
    cases hc with
    | first e _ _ => exact hne e
    | «at» b e ho _ _ => rw [e] at he; exact h0 (he.trans (chk_of ho))
  | ok seg' next' hc' hs he k =>
    subst he
    have hnn : next' = next := by
      cases hc with
      | first e hs hn1 =>
        cases hc' with
        | first _ _ hn2 => rw [hn2, ← hn1]
        | «at» b e' _ _ _ => omega
      | «at» b e ho hs hn1 =>
        cases hc' with
        | first e' _ _ => omega
        | «at» b' e' _ _ hn2 => omega
    subst hnn
    have k' := k
    obtain ⟨_, _, _, _, _, hst, _⟩ := k'.step
    exact ⟨v, 0, 0, 0, 0, S, F', σ', h', _, rfl, hid ⟨H.come hR' k', ⟨k'.items, by rw [tabEv_length, List.length_append]; rfl, hst.kind, bh, v, seg', next', h, h', ev, hc', rfl, H.row.d.len, k'⟩, hm, hf'⟩⟩

set_option maxRecDepth 100000 in
set_option maxHeartbeats 2000000 in
theorem ordPut_ok {w0 w : World} {L bl p : Nat} {tf : TF} {F : PF} {σ : List (Option Int)} {h : Nat} {τ : List (Option Int)} (H : OrdR w0 L bl p tf F σ h τ w) (hn : τ.length < 100000000) (hT : (its σ).length < 2560) (bh : Int) {seg next : Nat} (hc : BehC σ bh seg next) :
    Calls Tryz.prog 43 #[.pointer (some ⟨L, 0, none⟩), .int .i64 bh] w fun e w' => ∃ (S : St) (F' : PF) (σ' : List (Option Int)) (h' : Nat) (τ' : List (Option Int)), e = .returned (.tuple #[.int .i64 ((τ.length : Int) + 1), .agg #[.int .i64 S.k, .int .i64 S.f, .int .i64 S.s, .int .i64 S.c], .int .i64 0]) ∧
      Hid (OrdR w0 L bl p tf F' σ' h' τ' w' ∧ PutP σ (cntOn (onOf σ) next) τ σ' τ' S ∧ (∀ k, F'.mem k → F.mem k ∨ w.heap.size ≤ k) ∧ Fr (OrS F bl L tf) w w') := by
  have fa : Fr Nil1 w (w.alloc (.cells #[.int .i64 0, .int .i64 0, .int .i64 0, .int .i64 0] 36)) := (Fr.refl _ _).alloc _
  have Ha := H.new fa
  have HLn := hid (RowG.len Ha.row)
  have HTk := hid (tabTake_any Ha.tab 0 (by decide) (by omega))
  have HLst := hid Ha.lst
  obtain ⟨l0, l1, lf⟩ := Ha.lst.two
  have HA := hid Ha
  have HH := hid H
  have HAp := hid Ha.row.jj.apart
  have HBx := hid (Has.new w [.int .i64 0, .int .i64 0, .int .i64 0, .int .i64 0] 36)
  have HNb := hid (fun hk : OrS F bl L tf w.heap.size => show False by
    rcases hk with hk | hk
    · have := H.row.r.lt _ hk; omega
    · have := (H.row.bb _ hk).2.1; omega)
  have HFa := hid fa
  have hT2 : ¬ (2560 : Int) ≤ ((its σ).length : Int) := by omega
  have HTT := hid hT
  have HTn := hid hn
  have hNn : ((τ.length + 1 : Nat) : Int) = (τ.length : Int) + 1 := by omega
  obtain ⟨NL, hNL⟩ : ∃ NL, (its σ).length = NL := ⟨_, rfl⟩
  rw [hNL] at HLn hT2
  clear H Ha fa hT hNL
  go_enter Tryz.func43, Tryz.ntmps43
  go_wp2_with (first
    | (go_at_call 65; refine (OrdR.insTook HA.out H1.out.1 H1.out.2 HTn.out HTT.out bh hc).mono ?_; rintro e w2 ⟨v2, x1, x2, x3, x4, S, F2, σ2, h2, τ2, rfl, H2⟩; have hb2 := (HBx.out.fr' H1.out.2 (fun hk => HNb.out (.inr (.inr (.inr hk))))).fr' H2.out.2.2.2 HNb.out; have hb3 := hb2.alloc (.cells #[.int .i64 S.k, .int .i64 S.f, .int .i64 S.s, .int .i64 S.c] 36); have HB2 := hid hb3; have e0 := hb3.cell 0; have e1 := hb3.cell 1; have e2 := hb3.cell 2; have e3 := hb3.cell 3; have ef := hb3.frozen; clear hb2 hb3)
    | (go_at_call 64; refine HTk.out.mono ?_; rintro e w1 ⟨rfl, h1, h2⟩; have H1 := hid (And.intro h1 h2); have hl1 := HLst.out.fr' h2 HAp.out.2; obtain ⟨l0, l1, lf⟩ := hl1.two; clear h1 h2 hl1)
    | (go_at_call 27; refine HLn.out.mono ?_; rintro e w1 ⟨rfl, rfl⟩))
  go_region
  go_wp2_with fail
  have hf := ((((HB2.out.set 0 (.int .i64 S.k)).set 1 (.int .i64 S.f)).set 2 (.int .i64 S.s)).set 3 (.int .i64 S.c)).drew
  have z0 := hf.cell 0
  have z1 := hf.cell 1
  have z2 := hf.cell 2
  have z3 := hf.cell 3
  have hNG : NG ≤ w.heap.size := HH.out.row.r.sl.g.size
  have hw0 := HH.out.row.fr.size
  have hs1 := H1.out.2.size
  rw [World.size_alloc] at hs1
  have fz : Fr (fun k => k = w.heap.size) w2 (((((w2.alloc (.cells #[.int .i64 S.k, .int .i64 S.f, .int .i64 S.s, .int .i64 S.c] 36)).setCell ⟨w.heap.size, 0, none⟩ (.int .i64 S.k)).setCell ⟨w.heap.size, 1, none⟩ (.int .i64 S.f)).setCell ⟨w.heap.size, 2, none⟩ (.int .i64 S.s)).setCell ⟨w.heap.size, 3, none⟩ (.int .i64 S.c)).drew :=
    ((((((Fr.refl (fun k => k = w.heap.size) w2).alloc _).setCell ⟨w.heap.size, 0, none⟩ _ hNG (fun _ => rfl)).setCell ⟨w.heap.size, 1, none⟩ _ hNG (fun _ => rfl)).setCell ⟨w.heap.size, 2, none⟩ _ hNG (fun _ => rfl)).setCell ⟨w.heap.size, 3, none⟩ _ hNG (fun _ => rfl)).drew
  refine bodyPost_ret (v := .tuple #[.int .i64 ((τ.length : Int) + 1), .agg #[.int .i64 S.k, .int .i64 S.f, .int .i64 S.s, .int .i64 S.c], .int .i64 0]) (by simp [results, Tryz.f43, go_sem, z0, z1, z2, z3]) rfl ?_
  refine ⟨S, F2, σ2, h2, τ2, rfl, hid ⟨H2.out.1.frS fz (fun k hk => ?_), H2.out.2.1, fun k hk => ?_, ((HFa.out.mono (fun _ _ h => h.elim)).trans (H1.out.2.mono (fun _ _ h => .inr (.inr (.inr h))))).trans H2.out.2.2.2 |>.trans' fz (fun j _ hj e => by have e' : j = w.heap.size := e; omega)⟩⟩
  · have e : k = w.heap.size := hk
    subst e
    refine ⟨fun hk => ?_, hw0⟩
    rcases hk with hk | hk
    · rcases H2.out.2.2.1 _ hk with h | h
      · exact HNb.out (.inl h)
      · omega
    · exact HNb.out (.inr hk)
  · rcases H2.out.2.2.1 k hk with h | h
    · exact .inl h
    · exact .inr (by omega)
set_option maxRecDepth 100000 in
set_option maxHeartbeats 2000000 in
theorem ordPut_full {w0 w : World} {L bl p : Nat} {tf : TF} {F : PF} {σ : List (Option Int)} {h : Nat} {τ : List (Option Int)} (H : OrdR w0 L bl p tf F σ h τ w) (hT : 2560 ≤ (its σ).length) (bh : Int) :
    Calls Tryz.prog 43 #[.pointer (some ⟨L, 0, none⟩), .int .i64 bh] w fun e w' => e = .returned (.tuple #[.int .i64 0, .agg #[.int .i64 0, .int .i64 0, .int .i64 0, .int .i64 0], .int .i64 16]) ∧ Fr Nil1 w w' := by
  have fa : Fr Nil1 w (w.alloc (.cells #[.int .i64 0, .int .i64 0, .int .i64 0, .int .i64 0] 36)) := (Fr.refl _ _).alloc _
  have Ha := H.new fa
  have HLn := hid (RowG.len Ha.row)
  obtain ⟨l0, l1, lf⟩ := Ha.lst.two
  have HFa := hid fa
  have hT2 : (2560 : Int) ≤ ((its σ).length : Int) := by omega
  obtain ⟨NL, hNL⟩ : ∃ NL, (its σ).length = NL := ⟨_, rfl⟩
  rw [hNL] at HLn hT2
  clear H Ha fa hT hNL
  go_enter Tryz.func43, Tryz.ntmps43
  go_wp2_with (go_at_call 27; refine HLn.out.mono ?_; rintro e w1 ⟨rfl, rfl⟩)
  refine bodyPost_ret (v := .tuple #[.int .i64 0, .agg #[.int .i64 0, .int .i64 0, .int .i64 0, .int .i64 0], .int .i64 16]) (by simp [results, Tryz.f43, go_sem]) rfl ?_
  exact ⟨rfl, HFa.out⟩
end Go.Proofs.YtogjfaiidciedaaGreatDoor
