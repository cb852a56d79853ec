/- order.List: Delete, Before, New. -/
import Derived.Test.YtogjfaiidciedaaGreatDoorOI
set_option linter.unusedVariables false
set_option linter.unusedSimpArgs false
namespace Go.Proofs.YtogjfaiidciedaaGreatDoor
open Go.RowKit Go.Maps
variable {w0 w : World} {L bl p : Nat} {tf : TF} {F : PF} {σ : List (Option Int)} {h : Nat} {τ : List (Option Int)}

/-- What a handle that goes does. -/
structure TakP (σ : List (Option Int)) (k : Nat) (τ σ' τ' : List (Option Int)) (S : St) : Prop where
  items : its σ' = (its σ).take k ++ (its σ).drop (k + 1)
  len : τ'.length = τ.length
  st : S.k ≠ 0
  del : ∃ (j h h' : Nat) (x : Int) (ev : List Ev), σ.getD j none = some x ∧ cntOn (onOf σ) j = k ∧ σ.length = 8 * 2 ^ h ∧ DelP σ h j x S σ' h' ev
theorem OrdR.delTook (H : OrdR w0 L bl p tf F σ h τ w) {w1 : World} {x : Int} {q k : Nat} (hq : σ.getD q none = some x) (hk : cntOn (onOf σ) q = k) (ht : TabR w1 tf (τ.set (x.toNat - 1) none)) (hf : Fr tf.mem w w1) (hn : τ.length < 100000000) (hT : (its σ).length ≤ 2560) :
    Calls Tryz.prog 34 #[.pointer (some ⟨p, 0, none⟩), .int .i64 q] w1 fun e w2 => ∃ (S : St) (F' : PF) (σ' : List (Option Int)) (h' : Nat) (τ' : List (Option Int)), e = .returned (.tuple #[.int .i64 x, .agg #[.int .i64 S.k, .int .i64 S.f, .int .i64 S.s, .int .i64 S.c], .int .i64 0]) ∧
      Hid (OrdR w0 L bl p tf F' σ' h' τ' w2 ∧ TakP σ k τ σ' τ' S ∧ (∀ k, F'.mem k → F.mem k ∨ w1.heap.size ≤ k) ∧ Fr (OrS F bl L tf) w1 w2) := by
  have hR := H.turn ht hf (by rw [List.length_set]; omega)
  refine (RowG.delAny hR order_hear hT q).mono ?_
  rintro e w2 ⟨v, S, er, rfl, H3⟩
  obtain ⟨⟨F', σ', h', ev, hR', hQ, hm⟩, hf'⟩ := H3.out
  cases hQ with
  | bad he h0 _ _ _ _ _ => exact absurd (he.trans (chk_of (onOf_some hq))) h0
  | ok j hj hx he k =>
    obtain rfl : j = q := by omega
    rw [hq] at hx
    cases hx
    subst he
    obtain ⟨_, _, _, _, _, hst, _⟩ := k.step
    exact ⟨S, F', σ', h', _, rfl, hid ⟨H.go hq hR' k, ⟨by rw [k.items, hk], by rw [tabEv_length, List.length_set], hst.kind, j, h, h', _, ev, hq, hk, H.row.d.len, k⟩, hm, hf'⟩⟩
set_option maxRecDepth 100000 in
set_option maxHeartbeats 2000000 in
theorem ordDelete_ok (H : OrdR w0 L bl p tf F σ h τ w) (x : Int) (h1 : -9223372036854775808 ≤ x) (h2 : x ≤ 9223372036854775807) (hl : liveB τ x = true) (hn : τ.length < 100000000) (hT : (its σ).length ≤ 2560) {k : Nat} (hk : (its σ)[k]? = some x) :
    Calls Tryz.prog 14 #[.pointer (some ⟨L, 0, none⟩), .int .i64 x] w fun e w' => ∃ (S : St) (F' : PF) (σ' : List (Option Int)) (h' : Nat) (τ' : List (Option Int)), e = .returned (.tuple #[.agg #[.int .i64 S.k, .int .i64 S.f, .int .i64 S.s, .int .i64 S.c], .int .i64 0]) ∧ Hid (OrdW w0 w L bl p tf F F' σ' h' τ' w' ∧ TakP σ k τ σ' τ' S) := by
  have fa : Fr Nil1 w (w.alloc (.cells #[.int .i64 0, .int .i64 0, .int .i64 0, .int .i64 0] 36)) := (Fr.refl _ _).alloc _
  obtain ⟨q, hq1, hq2, hq3⟩ := H.rank hl hk
  have hs : staleE τ x = 0 := by unfold staleE; rw [if_pos hl]
  have Ha := H.new fa
  have HLb := hid (hs ▸ ordLabel_any Ha x h1 h2)
  rw [hq1] at HLb
  have HFe := hid (tabFree_any Ha.tab x h1 h2 hl)
  have HLst := hid Ha.lst
  obtain ⟨l0, l1, lf⟩ := Ha.lst.two
  have HA := hid Ha
  have HH := hid H
  have HAp := hid Ha.row.jj.apart
  have HQ := hid (And.intro hq2 hq3)
  have HNG := hid (show NG ≤ w.heap.size from H.row.r.sl.g.size)
  have HTT := hid hT
  have HTn := hid hn
  have hql := onOf_lt (onOf_some hq2)
  have hq4 : q ≤ 4096 := by have := H.row.d.len; have := p2_le H.row.r.h9; omega
  clear H Ha fa hT hs hl hk hn hq1 hq2 hq3 hql
  go_enter Tryz.func14, Tryz.ntmps14
  go_wp2_with (first
    | (go_at_call 34; refine (OrdR.delTook HA.out HQ.out.1 HQ.out.2 H1.out.1 H1.out.2 HTn.out HTT.out).mono ?_; rintro e w2 ⟨S, F2, σ2, h2', τ2, rfl, H2⟩; have hb2 := ((zer4 w).fr' H1.out.2 (fun hk => HH.out.noBlk (.inr (.inr (.inr hk))))).fr' H2.out.2.2.2 HH.out.noBlk; have hb3 := hb2.alloc (.cells #[.int .i64 S.k, .int .i64 S.f, .int .i64 S.s, .int .i64 S.c] 36); have HB2 := hid hb3; have e0 := hb3.cell 0; have e1 := hb3.cell 1; have e2 := hb3.cell 2; have e3 := hb3.cell 3; have ef := hb3.frozen; clear hb2 hb3)
    | (go_at_call 36; refine HFe.out.mono ?_; rintro e w1 ⟨rfl, h1', h2'⟩; have H1 := hid (And.intro h1' h2'); have hl1 := HLst.out.fr' h2' HAp.out.2; obtain ⟨l0, l1, lf⟩ := hl1.two; clear h1' h2' hl1)
    | (go_at_call 13; refine HLb.out.mono ?_; rintro e w1 ⟨rfl, rfl⟩))
  have hf := (((HB2.out.set 0 (.int .i64 S.k)).set 1 (.int .i64 S.f)).set 2 (.int .i64 S.s)).set 3 (.int .i64 S.c)
  have z0 := hf.cell 0
  have z1 := hf.cell 1
  have z2 := hf.cell 2
  have z3 := hf.cell 3
  refine bodyPost_ret (v := .tuple #[.agg #[.int .i64 S.k, .int .i64 S.f, .int .i64 S.s, .int .i64 S.c], .int .i64 0]) (by simp [results, Tryz.f14, go_sem, z0, z1, z2, z3]) rfl ?_
  refine ⟨S, F2, σ2, h2', τ2, rfl, hid ⟨OrdW.out HH.out (⟨H2.out.1, fun k hk => ?_, (H1.out.2.mono (fun _ _ h => .inr (.inr (.inr h)))).trans H2.out.2.2.2⟩ : OrdW w0 (w.alloc (.cells #[.int .i64 0, .int .i64 0, .int .i64 0, .int .i64 0] 36)) L bl p tf F F2 σ2 h2' τ2 w2) (((Fr.refl _ w2).alloc _).trans (st4_fr _ _ S HNG.out)), H2.out.2.1⟩⟩
  rcases H2.out.2.2.1 k hk with h | h
  · exact .inl h
  · have := H1.out.2.size; exact .inr (by omega)
set_option maxRecDepth 100000 in
set_option maxHeartbeats 1000000 in
theorem ordDelete_stale (H : OrdR w0 L bl p tf F σ h τ w) (x : Int) (h1 : -9223372036854775808 ≤ x) (h2 : x ≤ 9223372036854775807) (hl : liveB τ x = false) :
    Calls Tryz.prog 14 #[.pointer (some ⟨L, 0, none⟩), .int .i64 x] w fun e w' => e = .returned (.tuple #[.agg #[.int .i64 0, .int .i64 0, .int .i64 0, .int .i64 0], .int .i64 17]) ∧ Fr Nil1 w w' := by
  have fa : Fr Nil1 w (w.alloc (.cells #[.int .i64 0, .int .i64 0, .int .i64 0, .int .i64 0] 36)) := (Fr.refl _ _).alloc _
  have hs : staleE τ x = 17 := by unfold staleE; rw [if_neg (by rw [hl]; simp)]
  have HLb := hid (hs ▸ ordLabel_any (H.new fa) x h1 h2)
  have HFa := hid fa
  generalize slotV τ x = sv at *
  clear H hs hl fa
  go_enter Tryz.func14, Tryz.ntmps14
  go_wp2_with (go_at_call 13; refine HLb.out.mono ?_; rintro e w1 ⟨rfl, rfl⟩)
  refine bodyPost_ret (v := .tuple #[.agg #[.int .i64 0, .int .i64 0, .int .i64 0, .int .i64 0], .int .i64 17]) (by simp [results, Tryz.f14, go_sem]) rfl ?_
  exact ⟨rfl, HFa.out⟩
end Go.Proofs.YtogjfaiidciedaaGreatDoor
