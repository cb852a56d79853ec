/- order.List: at, After, Ahead. -/
import Derived.Test.YtogjfaiidciedaaGreatDoorOG
set_option linter.unusedVariables false
set_option linter.unusedSimpArgs false
namespace Go.Proofs.YtogjfaiidciedaaGreatDoor
open Go.RowKit Go.Maps
variable {w0 w : World} {L bl p : Nat} {tf : TF} {F : PF} {σ : List (Option Int)} {h : Nat} {τ : List (Option Int)}

theorem zer4 (w : World) : Has (w.alloc (.cells #[.int .i64 0, .int .i64 0, .int .i64 0, .int .i64 0] 36)) w.heap.size [.int .i64 0, .int .i64 0, .int .i64 0, .int .i64 0] 36 := Has.new w _ _
set_option maxRecDepth 100000 in
set_option maxHeartbeats 1000000 in
theorem ordAt_ok (H : OrdR w0 L bl p tf F σ h τ w) (x : Int) (h1 : -9223372036854775808 ≤ x) (h2 : x ≤ 9223372036854775807) (hl : liveB τ x = true) (hn : τ.length < 100000000) (hT : (its σ).length < 2560)
    {g : FuncId} {bnd : Array Value} (hent : Enters Tryz.prog g) {bh : Int} {seg next : Nat} (hc : BehC σ bh seg next) (hcall : ∀ w', Fr Nil1 w w' → Calls Tryz.prog g (bnd ++ (#[.int .i64 (slotV τ x)] ++ #[])) w' fun e w'' => e = .returned (.int .i64 bh) ∧ w' = w'') :
    Calls Tryz.prog 37 #[.pointer (some ⟨L, 0, none⟩), .int .i64 x, .func (.func g) bnd #[]] w fun e w' => ∃ (S : St) (F' : PF) (σ' : List (Option Int)) (h' : Nat) (τ' : List (Option Int)), e = .returned (.tuple #[.int .i64 ((τ.length : Int) + 1), .agg #[.int .i64 S.k, .int .i64 S.f, .int .i64 S.s, .int .i64 S.c], .int .i64 0]) ∧ Hid (OrdW w0 w L bl p tf F F' σ' h' τ' w' ∧ PutP σ (cntOn (onOf σ) next) τ σ' τ' S) := by
  have fa : Fr Nil1 w (w.alloc (.cells #[.int .i64 0, .int .i64 0, .int .i64 0, .int .i64 0] 36)) := (Fr.refl _ _).alloc _
  have hs : staleE τ x = 0 := by unfold staleE; rw [if_pos hl]
  have HLb := hid (hs ▸ ordLabel_any (H.new fa) x h1 h2)
  have HPt := hid (ordPut_ok (H.new fa) hn hT bh hc)
  have HCl := hid (hcall _ fa)
  have hen : ∀ (args : Array Value) (W : World), Sem.run Tryz.prog (callFunc g args) W = .ok (.enter g args) W := hent
  have HH := hid H
  have HNG := hid (show NG ≤ w.heap.size from H.row.r.sl.g.size)
  generalize slotV τ x = sv at *
  clear H hn hT hs hl hcall hent
  go_enter Tryz.func37, Tryz.ntmps37
  go_wp2_with (first
    | (go_at_call 43; refine HPt.out.mono ?_; rintro e w2 ⟨S, F2, σ2, h2, τ2, rfl, H2⟩; have hb2 := (zer4 w).fr' H2.out.2.2.2 HH.out.noBlk; have HB2 := hid hb2; have e0 := hb2.cell 0; have e1 := hb2.cell 1; have e2 := hb2.cell 2; have e3 := hb2.cell 3; have ef := hb2.frozen; clear hb2)
    | (go_at_call 13; refine HLb.out.mono ?_; rintro e w1 ⟨rfl, rfl⟩)
    | (go_at_fn g; refine HCl.out.mono ?_; rintro e w1 ⟨rfl, rfl⟩))
  have hf := (((HB2.out.set 0 (.int .i64 S.k)).set 1 (.int .i64 S.f)).set 2 (.int .i64 S.s)).set 3 (.int .i64 S.c)
  have z0 := hf.cell 0
  have z1 := hf.cell 1
  have z2 := hf.cell 2
  have z3 := hf.cell 3
  refine bodyPost_ret (v := .tuple #[.int .i64 ((τ.length : Int) + 1), .agg #[.int .i64 S.k, .int .i64 S.f, .int .i64 S.s, .int .i64 S.c], .int .i64 0]) (by simp [results, Tryz.f37, go_sem, z0, z1, z2, z3]) rfl ?_
  exact ⟨S, F2, σ2, h2, τ2, rfl, hid ⟨OrdW.out HH.out ⟨H2.out.1, H2.out.2.2.1, H2.out.2.2.2⟩ (st4_fr w2 _ S HNG.out), H2.out.2.1⟩⟩
set_option maxRecDepth 100000 in
set_option maxHeartbeats 1000000 in
theorem ordAt_full (H : OrdR w0 L bl p tf F σ h τ w) (x : Int) (h1 : -9223372036854775808 ≤ x) (h2 : x ≤ 9223372036854775807) (hl : liveB τ x = true) (hT : 2560 ≤ (its σ).length)
    {g : FuncId} {bnd : Array Value} (hent : Enters Tryz.prog g) {bh : Int} (hcall : ∀ w', Fr Nil1 w w' → Calls Tryz.prog g (bnd ++ (#[.int .i64 (slotV τ x)] ++ #[])) w' fun e w'' => e = .returned (.int .i64 bh) ∧ w' = w'') :
    Calls Tryz.prog 37 #[.pointer (some ⟨L, 0, none⟩), .int .i64 x, .func (.func g) bnd #[]] w fun e w' => e = .returned (.tuple #[.int .i64 0, .agg #[.int .i64 0, .int .i64 0, .int .i64 0, .int .i64 0], .int .i64 16]) ∧ Fr Nil1 w w' := by
  have fa : Fr Nil1 w (w.alloc (.cells #[.int .i64 0, .int .i64 0, .int .i64 0, .int .i64 0] 36)) := (Fr.refl _ _).alloc _
  have hs : staleE τ x = 0 := by unfold staleE; rw [if_pos hl]
  have HLb := hid (hs ▸ ordLabel_any (H.new fa) x h1 h2)
  have HPt := hid (ordPut_full (H.new fa) hT bh)
  have HCl := hid (hcall _ fa)
  have hen : ∀ (args : Array Value) (W : World), Sem.run Tryz.prog (callFunc g args) W = .ok (.enter g args) W := hent
  have HNG := hid (show NG ≤ w.heap.size from H.row.r.sl.g.size)
  have HFa := hid fa
  generalize slotV τ x = sv at *
  clear H hT hs hl hcall hent fa
  go_enter Tryz.func37, Tryz.ntmps37
  go_wp2_with (first
    | (go_at_call 43; refine HPt.out.mono ?_; rintro e w2 ⟨rfl, H2⟩; have hb2 := (zer4 w).fr' H2 id; have HB2 := hid hb2; have HF2 := hid H2; have e0 := hb2.cell 0; have e1 := hb2.cell 1; have e2 := hb2.cell 2; have e3 := hb2.cell 3; have ef := hb2.frozen; clear hb2 H2)
    | (go_at_call 13; refine HLb.out.mono ?_; rintro e w1 ⟨rfl, rfl⟩)
    | (go_at_fn g; refine HCl.out.mono ?_; rintro e w1 ⟨rfl, rfl⟩))
  have hf := (((HB2.out.set 0 (.int .i64 0)).set 1 (.int .i64 0)).set 2 (.int .i64 0)).set 3 (.int .i64 0)
  have z0 := hf.cell 0
  have z1 := hf.cell 1
  have z2 := hf.cell 2
  have z3 := hf.cell 3
  refine bodyPost_ret (v := .tuple #[.int .i64 0, .agg #[.int .i64 0, .int .i64 0, .int .i64 0, .int .i64 0], .int .i64 16]) (by simp [results, Tryz.f37, go_sem, z0, z1, z2, z3]) rfl ?_
  exact ⟨rfl, ((HFa.out.trans HF2.out).trans' (st4_fr w2 _ ⟨0, 0, 0, 0⟩ HNG.out) (fun j _ hj e => by have e' : j = w.heap.size := e; omega))⟩
set_option maxRecDepth 100000 in
set_option maxHeartbeats 1000000 in
theorem ordAt_stale (H : OrdR w0 L bl p tf F σ h τ w) (x : Int) (h1 : -9223372036854775808 ≤ x) (h2 : x ≤ 9223372036854775807) (hl : liveB τ x = false) (fv : Value) :
    Calls Tryz.prog 37 #[.pointer (some ⟨L, 0, none⟩), .int .i64 x, fv] w fun e w' => e = .returned (.tuple #[.int .i64 0, .agg #[.int .i64 0, .int .i64 0, .int .i64 0, .int .i64 0], .int .i64 17]) ∧ Fr Nil1 w w' := by
  have fa : Fr Nil1 w (w.alloc (.cells #[.int .i64 0, .int .i64 0, .int .i64 0, .int .i64 0] 36)) := (Fr.refl _ _).alloc _
  have hs : staleE τ x = 17 := by unfold staleE; rw [if_neg (by rw [hl]; simp)]
  have HLb := hid (hs ▸ ordLabel_any (H.new fa) x h1 h2)
  have HFa := hid fa
  generalize slotV τ x = sv at *
  clear H hs hl fa
  go_enter Tryz.func37, Tryz.ntmps37
  go_wp2_with (go_at_call 13; refine HLb.out.mono ?_; rintro e w1 ⟨rfl, rfl⟩)
  refine bodyPost_ret (v := .tuple #[.int .i64 0, .agg #[.int .i64 0, .int .i64 0, .int .i64 0, .int .i64 0], .int .i64 17]) (by simp [results, Tryz.f37, go_sem]) rfl ?_
  exact ⟨rfl, HFa.out⟩
theorem after1_any (x : Int) (w : World) : Calls Tryz.prog 38 #[.int .i64 x] w fun e w' => e = .returned (.int .i64 x) ∧ w = w' := by
  go_enter Tryz.func38, Tryz.ntmps38
  go_wp2_with fail
  go_ret
  exact ⟨rfl, rfl⟩
/-- Behind which slot: the one of the handle ahead. -/
theorem ordAhead1_any (H : OrdR w0 L bl p tf F σ h τ w) (q : Nat) (hq : onOf σ q = true) : ∃ (bh : Int) (seg next : Nat), BehC σ bh seg next ∧ cntOn (onOf σ) next = cntOn (onOf σ) q ∧ ∀ w', Fr Nil1 w w' → Calls Tryz.prog 39 #[.pointer (some ⟨L, 0, none⟩), .int .i64 q] w' fun e w'' => e = .returned (.int .i64 bh) ∧ w' = w'' := by
  have hql := onOf_lt hq
  by_cases h0 : cntOn (onOf σ) q = 0
  · refine ⟨-1, 0, 0, .first rfl rfl rfl, h0.symm, fun w' hf => ?_⟩
    have H' := H.new hf
    have HRk := hid (h0 ▸ pmaRank_ok H'.row.r q hql)
    rw [H'.row.p] at HRk
    obtain ⟨l0, l1, lf⟩ := H'.lst.two
    clear H H' h0 hq hql
    go_enter Tryz.func39, Tryz.ntmps39
    go_wp2_with (go_at_call 58; refine HRk.out.mono ?_; rintro e w1 ⟨rfl, rfl⟩)
    go_ret
    exact ⟨rfl, rfl⟩
  · obtain ⟨n, hn⟩ : ∃ n, cntOn (onOf σ) q = n + 1 := ⟨cntOn (onOf σ) q - 1, by omega⟩
    have hle := cntOn_le (onOf σ) q
    have hlen := (its_length σ)
    have hmono := cntOn_le_of (onOf σ) (show q ≤ σ.length by omega)
    have hl4 : σ.length ≤ 4096 := by have := H.row.d.len; have := p2_le H.row.r.h9; omega
    have hidx := idxs_get (σ := σ) (k := n) (by rw [H.row.small.2]; omega)
    obtain ⟨q', _, h1, h2⟩ := hidx
    refine ⟨q', q' / 8, q' + 1, .at q' rfl h1 rfl rfl, by have := cntOn_on (onOf σ) q' h1; omega, fun w' hf => ?_⟩
    have H' := H.new hf
    have HRk := hid (hn ▸ pmaRank_ok H'.row.r q hql)
    rw [H'.row.p] at HRk
    have HNt := hid (RowG.nth H'.row n (by omega))
    have HU := hid (fun r (hr : onOf σ r = true) (hc : cntOn (onOf σ) r = n) => show r = q' by
      rcases Nat.lt_trichotomy r q' with g | g | g
      · have a := cntOn_on (onOf σ) r hr
        have b := cntOn_le_of (onOf σ) (show r + 1 ≤ q' by omega)
        omega
      · exact g
      · have a := cntOn_on (onOf σ) q' h1
        have b := cntOn_le_of (onOf σ) (show q' + 1 ≤ r by omega)
        omega)
    obtain ⟨l0, l1, lf⟩ := H'.lst.two
    have hn4 : n ≤ 4096 := by omega
    have en : ((n + 1 : Nat) : Int) - 1 = n := by omega
    have hb0 : (((n + 1 : Nat) : Int) == 0) = false := beq_eq_false_iff_ne.2 (by omega)
    have hb1 : ((n : Int) + 1 == 0) = false := beq_eq_false_iff_ne.2 (by omega)
    clear H H' h0 hq hql hn hle hlen hmono hl4 h1 h2
    go_enter Tryz.func39, Tryz.ntmps39
    go_wp2_with (first
      | (go_at_call 58; refine HRk.out.mono ?_; rintro e w1 ⟨rfl, rfl⟩)
      | (go_at_call 30; (try rw [en]); refine HNt.out.mono ?_; rintro e w1 ⟨r, rfl, rfl, hr⟩; have HR := hid (HU.out r hr.1 hr.2); clear hr))
    go_ret
    rw [HR.out]
    exact ⟨rfl, rfl⟩
end Go.Proofs.YtogjfaiidciedaaGreatDoor
