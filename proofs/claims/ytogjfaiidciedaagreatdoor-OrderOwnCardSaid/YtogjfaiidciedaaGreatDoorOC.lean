/- handle.Table.Move of any number; order.List: who is told, its plain law. -/
import Derived.Test.YtogjfaiidciedaaGreatDoorOA
import Derived.Test.YtogjfaiidciedaaGreatDoorOB
import Derived.WideShapes
import Derived.OpenShut
set_option linter.unusedVariables false
set_option linter.unusedSimpArgs false
namespace Go.Proofs.YtogjfaiidciedaaGreatDoor
open Go.RowKit Go.Maps

theorem isKey_int {v : Value} {l : Lit} (h : keyOf Tryz.prog 3 v = some l) : MapKept.IsKey (.int .i64) v ∧ ∀ x, v = .int .i64 x → (Lit.int .i64 x).wf = true := by
  have hp : keyOf Tryz.prog 3 v = mapKey Tryz.prog 3 v := by simp [keyOf, Tryz.underlying3]
  rw [hp] at h
  obtain ⟨d', hd', h1, h2⟩ := WideShapes.mapKey_isKey h
  rw [Tryz.underlying3] at hd'
  cases hd'
  refine ⟨h1, fun x e => ?_⟩
  subst e
  simp [mapKey, Tryz.underlying3] at h
  exact h.1
/-- A number that is none of Go's is no key. -/
theorem run_lookup_wild {w : World} {R : Value → Option (DataW Unit × List MemPlace)} {b n : Nat} {D : DataW Unit} (h : w.ownsMap Tryz.prog 3 R b n D) (x : Int) (hx : (Lit.int .i64 x).wf = false) :
    (Instr.lookup 66 (.map (some b)) (.int .i64 x) true).run Tryz.prog w = .ok (.tuple #[.int .i64 0, .bool false]) w := by
  obtain ⟨es, clock, hb, F, _, rfl⟩ := h
  have hks : ∀ y ∈ es.toList, MapKept.IsKey (.int .i64) y.key := fun y hy => by
    obtain ⟨l, hl⟩ := F.keys y hy
    exact (isKey_int hl).1
  have hk : MapKept.IsKey (.int .i64) (.int .i64 x) := rfl
  rcases MapKept.findNow_spec hk es.toList 0 hks with ⟨h1, h2⟩ | ⟨j, e0, h1, h2, h3⟩
  · have hc : (Instr.checkKey es.isEmpty 10000 3 (.int .i64 x)).run Tryz.prog w = .ok () w := MapKept.run_checkKey (w := w) Tryz.underlying3 hk es.isEmpty 9999
    have hf := MapKept.run_findKey (w := w) Tryz.underlying3 h1
    simp [Instr.lookup, run_underlying Tryz.underlying66, MapKept.run_getObj_map hb, hc, hf, zeroInt, Result.andThen]
  · obtain ⟨l, hl⟩ := F.keys e0 (List.mem_of_getElem? h2)
    have := (isKey_int hl).2 x h3
    rw [hx] at this
    cases this
theorem wpList_lookup_wild {ops : Array Oper} {rest : List Oper} {o : Oper} {a : Act} {Q : Exit → Act → World → Prop} {w : World} (hg : o.guard = none) (m x : Operand) (hop : o.op = Op.lookup 66 m x true) {R : Value → Option (DataW Unit × List MemPlace)} {b n : Nat} {D : DataW Unit}
    (hm : a.eval m = .map (some b)) (hown : w.ownsMap Tryz.prog 3 R b n D) (y : Int) (hx : a.eval x = .int .i64 y) (hy : (Lit.int .i64 y).wf = false)
    (hK : wpList Tryz.prog ops Q rest (a.put o.dst (.tuple #[.int .i64 0, .bool false])) w) : wpList Tryz.prog ops Q (o :: rest) a w := by
  refine wpList_plain hg fun K' hK' => ?_
  have hrun := run_lookup_wild hown y hy
  unfold Oper.wp
  simp [execOp, hop, hm, hx, hrun, Result.andThen]
  exact hK' _ _ hK
theorem tabLive_wild {f : TF} {τ : List (Option Int)} {w : World} (h : TabR w f τ) (x : Int) (hx : (Lit.int .i64 x).wf = false) :
    Calls Tryz.prog 31 #[.pointer (some ⟨f.t, 0, none⟩), .int .i64 x] w fun e w' => e = .returned (.bool false) ∧ w = w' := by
  obtain ⟨c0, c1, _⟩ := h.row.two
  obtain ⟨D, hown, hD⟩ := h.map
  have HO := hid hown
  have HX := hid hx
  clear hown hD h hx
  go_enter Tryz.func31, Tryz.ntmps31
  go_wp2_with (first | (at_lookup; refine wpList_lookup_wild rfl _ _ rfl rfl HO.out x rfl HX.out ?_))
  go_ret
  exact ⟨rfl, rfl⟩
theorem tabMove_wild {f : TF} {τ : List (Option Int)} {w : World} (h : TabR w f τ) (x s : Int) (hx : (Lit.int .i64 x).wf = false) :
    Calls Tryz.prog 63 #[.pointer (some ⟨f.t, 0, none⟩), .int .i64 x, .int .i64 s] w fun e w' => e = .returned (.int .i64 17) ∧ w = w' := by
  have HL := hid (tabLive_wild h x hx)
  have HK := hid (show Calls Tryz.prog 47 #[.pointer (some ⟨f.t, 0, none⟩), .int .i64 x] w fun e w' => e = .returned (.int .i64 17) ∧ w = w' from by
    clear h hx
    go_enter Tryz.func47, Tryz.ntmps47
    go_wp2_with (first | (go_at_call 31; refine HL.out.mono ?_; rintro e w1 ⟨rfl, rfl⟩))
    go_ret
    exact ⟨rfl, rfl⟩)
  clear h hx HL
  go_enter Tryz.func63, Tryz.ntmps63
  go_wp2_with (first | (go_at_call 47; refine HK.out.mono ?_; rintro e w1 ⟨rfl, rfl⟩))
  go_ret
  exact ⟨rfl, rfl⟩
theorem tabMove_range {f : TF} {τ : List (Option Int)} {w : World} (h : TabR w f τ) (x s : Int) (h1 : -9223372036854775808 ≤ x) (h2 : x ≤ 9223372036854775807) (hx : liveB τ x = true) (hs : mayS s = false) :
    Calls Tryz.prog 63 #[.pointer (some ⟨f.t, 0, none⟩), .int .i64 x, .int .i64 s] w fun e w' => e = .returned (.int .i64 10) ∧ w = w' := by
  have hse : staleE τ x = 0 := by unfold staleE; rw [if_pos hx]
  have HL := hid (hse ▸ tabLook_any h x h1 h2)
  have HM := hid (hs ▸ handleMay_any s w)
  clear h hx hs hse
  go_enter Tryz.func63, Tryz.ntmps63
  go_wp2_with (first | (go_at_call 47; refine HL.out.mono ?_; rintro e w1 ⟨rfl, rfl⟩) | (go_at_call 89; refine HM.out.mono ?_; rintro e w1 ⟨rfl, rfl⟩))
  go_ret
  exact ⟨rfl, rfl⟩
/-- A table behind a Move. -/
def mvT (τ : List (Option Int)) (x s : Int) : List (Option Int) := if liveB τ x = true ∧ 0 ≤ s ∧ s < 4096 then τ.set (x.toNat - 1) (some s) else τ
theorem mvT_length (τ : List (Option Int)) (x s : Int) : (mvT τ x s).length = τ.length := by unfold mvT; split <;> simp
theorem tabMove_all {f : TF} {τ : List (Option Int)} {w : World} (h : TabR w f τ) (x s : Int) (hn : τ.length < 1000000000) :
    Calls Tryz.prog 63 #[.pointer (some ⟨f.t, 0, none⟩), .int .i64 x, .int .i64 s] w fun e w' => (∃ v, e = .returned v) ∧ TabR w' f (mvT τ x s) ∧ Fr f.mem w w' := by
  cases hl : liveB τ x with
  | true =>
    have hb := TabR.live_bound x hl
    by_cases hs : 0 ≤ s ∧ s < 4096
    · refine (tabMove_any h x s (by omega) (by omega) hl (by unfold mayS; rw [decide_eq_true hs.1, decide_eq_true hs.2]; rfl) hn).mono ?_
      rintro e w' ⟨rfl, h1, h2⟩
      exact ⟨⟨_, rfl⟩, by unfold mvT; rw [if_pos ⟨hl, hs⟩]; exact h1, h2⟩
    · refine (tabMove_range h x s (by omega) (by omega) hl (by
        unfold mayS
        by_cases h0 : 0 ≤ s
        · rw [decide_eq_false (show ¬ s < 4096 by omega), Bool.and_false]
        · rw [decide_eq_false h0, Bool.false_and])).mono ?_
      rintro e w' ⟨rfl, rfl⟩
      exact ⟨⟨_, rfl⟩, by unfold mvT; rw [if_neg (fun h => hs h.2)]; exact h, Fr.refl _ _⟩
  | false =>
    have hm : mvT τ x s = τ := by unfold mvT; rw [if_neg (fun h => by rw [hl] at h; cases h.1)]
    rw [hm]
    cases hw : (Lit.int .i64 x).wf with
    | true =>
      have hb := bounds_i64 hw
      refine (tabMove_bad h x s hb.1 hb.2 hl).mono ?_
      rintro e w' ⟨rfl, rfl⟩
      exact ⟨⟨_, rfl⟩, h, Fr.refl _ _⟩
    | false =>
      refine (tabMove_wild h x s hw).mono ?_
      rintro e w' ⟨rfl, rfl⟩
      exact ⟨⟨_, rfl⟩, h, Fr.refl _ _⟩
end Go.Proofs.YtogjfaiidciedaaGreatDoor
