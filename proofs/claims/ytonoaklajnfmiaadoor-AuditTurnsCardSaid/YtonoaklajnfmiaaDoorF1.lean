/- The law AuditTurns holds of every input: which slots of two arrays differ. (The row's condition: the library's table reads as the program's text lays it; the card ties it.) -/
import Derived.Test.YtonoaklajnfmiaaDoorRows
import Derived.Test.YtonoaklajnfmiaaDoorTie
import Derived.Test.YtonoaklajnfmiaaDoorCards
import Derived.Test.YtonoaklajnfmiaaDoorR0
import Derived.Test.YtonoaklajnfmiaaDoorE1
import Derived.SevenTiedAt
set_option linter.unusedVariables false
set_option linter.unusedSimpArgs false
namespace Go.Proofs.YtonoaklajnfmiaaDoor
open Go.ChangeShapes Go.WideShapes Go.ChangeAt Go.RowKit Go.Deep
open Go.Joins

theorem cellsAt : Tryd.prog.cellsOf 61 = 2 := by kernel_rfl
theorem cellsArray : Tryd.prog.cellsOf 24 = 2 := by kernel_rfl
/-- A slice of slots and numbers, opened. -/
theorem open_at {H : Type} {enc : TypeId × Value → H} {w : World} {held : Bool} {fuel : Nat} {v : Value} {y : DataW H × List MemPlace} (h : DataW.trod enc Tryd.prog w 0 (fun _ => true) held fuel 22 [v] = some y) : ∃ l, RdAt w v l := by
  rcases open_slice_fields Tryd.underlying22 Tryd.underlying61 (by kernel_rfl) (by rw [cellsAt]; rfl) h with ⟨hcs, _⟩ | ⟨a, len, cap, m, D, Pl, hcs, _, hl, _, hm, _, hi⟩
  · injection hcs with hcs
    subst hcs
    exact ⟨[], none, 0, rfl, fun h => by simp at h⟩
  · injection hcs with hcs
    subst hcs
    simp only [if_true] at hm
    subst hm
    have hp : ∀ i : Nat, ∃ p : Int × Int, i < m → w.cell? (a.add (i * 2 + 0)) = some (.int .i64 p.1) ∧ w.cell? (a.add (i * 2 + 1)) = some (.int .i64 p.2) := by
      intro i
      by_cases h : i < m
      · obtain ⟨ys, n, _, _, _, hf⟩ := hi i h
        obtain ⟨v0, y0, hc0, _, ht0⟩ := hf 0 _ rfl
        obtain ⟨v1, y1, hc1, _, ht1⟩ := hf 1 _ rfl
        obtain ⟨n0, rfl, _⟩ := trod_i64 Tryd.underlying3 ht0
        obtain ⟨n1, rfl, _⟩ := trod_i64 Tryd.underlying3 ht1
        exact ⟨(n0, n1), fun _ => ⟨hc0, hc1⟩⟩
      · exact ⟨(0, 0), fun h' => (h h').elim⟩
    obtain ⟨f, hf⟩ := Classical.axiomOfChoice hp
    refine ⟨(List.range len).map f, some a, m, by simp, fun hp => ?_⟩
    rw [List.length_map, List.length_range] at hp
    have hflat := flat_of_cell (hf 0 (by omega)).1
    refine ⟨a.block, a.off, by rw [← hflat], fun j p hj => ?_⟩
    rw [List.getElem?_map] at hj
    obtain ⟨k, hk, rfl⟩ := Option.map_eq_some_iff.1 hj
    obtain ⟨hk1, hk2⟩ := List.getElem?_eq_some_iff.1 hk
    simp at hk1 hk2
    subst hk2
    have h2 := hf j (by omega)
    rw [hflat, add_flat, add_flat] at h2
    exact h2

set_option maxRecDepth 100000 in
theorem auditTurns_lifted (os : Os) (started : os.Started) (H : Type) (enc : TypeId × Value → H) :
    ReturnsInHanded {} Tryd.checked os 3 .any (fun w args => (Rows.auditTurnsSpec.pre enc Tryd.prog Tryd.f3 [] false w args ∧ laidMetH Tryd.prog laidL w) ∧ sizedMet enc Tryd.prog Tryd.f3 (OpenSpec.ofChange Rows.auditTurnsSpec) false w args)
      (Rows.auditTurnsSpec.post enc Tryd.prog Tryd.f3 false true false false) := by
  refine returnsInHanded_of_change_and (C := Tryd.checked) (X := fun w _ => laidMetH Tryd.prog laidL w) (fun _ _ _ hh h => h.of_heap hh) own started (by kernel_rfl) Tryd.func3
    (ChangeSpec.witness_at (enc := enc) (C := Tryd.checked) (os := os) (X := fun w _ => laidMetH Tryd.prog laidL w) false (laidWorld os) #[.agg #[.int .i64 0, .slice none 0 0], .agg #[.int .i64 0, .slice none 0 0]] 8 rfl (by kernel_rfl) (by kernel_rfl) (by kernel_rfl) (by kernel_rfl) (by kernel_rfl) (laidWorld_met os _)) ?_
  intro W base args ds gs before hval0 hW _ _ hL _
  have hval : ∀ (j : Nat) t v, Tryd.f3.params[j]? = some t → args[j]? = some v → Value.okWide Tryd.prog W .any base t v := hval0
  have hW' := hW
  obtain ⟨p, q, hA0, hV0, rfl, hfz, hnd⟩ := hW
  have hA : DataW.TrodAll enc Tryd.prog W 0 (fun _ => true) true Tryd.f3.params.toList args.toList ds p := hA0
  have hV : DataW.TrodVars enc Tryd.prog W (fun _ => true) [] gs q := hV0
  rw [Tryd.params3] at hA hval
  obtain ⟨v0, v1, d0, d1, p0, p1, rfl, rfl, rfl, h0, h1⟩ := trodAll_two hA
  have k0 := h0
  have k1 := h1
  have lt0 : ∀ x ∈ p0, x.block < W.heap.size := by obtain ⟨m, hm⟩ := k0; exact DataW.trod_lt m _ _ _ hm
  have lt1 : ∀ x ∈ p1, x.block < W.heap.size := by obtain ⟨m, hm⟩ := k1; exact DataW.trod_lt m _ _ _ hm
  obtain ⟨a0, b0, y0, z0, n0, rfl, rfl, rfl, ha0, hb0⟩ := open_agg2 Tryd.underlying24 (by kernel_rfl) cellsArray (hval 0 24 v0 rfl rfl) h0
  obtain ⟨a1, b1, y1, z1, n1, rfl, rfl, rfl, ha1, hb1⟩ := open_agg2 Tryd.underlying24 (by kernel_rfl) cellsArray (hval 1 24 v1 rfl rfl) h1
  obtain ⟨s, rfl, hs1, hs2⟩ := trod_i64 Tryd.underlying3 ha0
  obtain ⟨t, rfl, ht1, ht2⟩ := trod_i64 Tryd.underlying3 ha1
  obtain ⟨l, hl⟩ := open_at hb0
  obtain ⟨m, hm⟩ := open_at hb1
  have hg := tab_of_laid hL
  obtain ⟨rfl, rfl⟩ : gs = [] ∧ q = [] := by
    cases gs with
    | nil => exact ⟨rfl, hV⟩
    | cons g r => exact absurd hV (by intro h; cases h)
  clear hA0 hV0 hval0
  refine (auditTurns_any s t b0 b1 l m W hs1 hs2 ht1 ht2 hl hm hg).mono fun e W' ⟨he, hf⟩ => ?_
  subst he
  have bel := hf.below
  exact ⟨_, rfl, _, _, _, [], _, [], hW', trodAll_mk1 (shut_bool Tryd.underlying4 _), (trodAll_cons_mk (Below.trod laidOut (by kernel_rfl) (of_decide_eq_true (by kernel_rfl)) k0 bel lt0) (trodAll_cons_mk (Below.trod laidOut (by kernel_rfl) (of_decide_eq_true (by kernel_rfl)) k1 bel lt1) trodAll_mk0)), rfl, bel.frame _, fun h => by cases h⟩

theorem auditTurns_row : Rows.AuditTurnsSaid :=
  OpenClaim.holds_of_wide 3 Tryd.f3 rfl rfl rfl rfl rfl rfl rfl ⟨rfl, rfl, rfl, rfl, rfl⟩ rfl rfl rfl rfl rfl (by kernel_rfl) Tryd.func3 (by kernel_rfl)
    (of_decide_eq_true (by kernel_rfl)) (by unfold Func.isWrapper; rw [if_neg (of_decide_eq_false (by kernel_rfl))]; exact ⟨rfl, rfl⟩)
    (fun os started H enc _ => auditTurns_lifted os started H enc)

theorem auditTurns_holds : Rows.AuditTurnsCardSaid :=
  Claim7.holds_tied_plain_at .later [] [.data] true Rows.auditTurnsCard.stood.harness false auditTurns_row (fun _ h => by cases h) (by kernel_rfl) (fun _ h => by cases h) auditTurns_row_tie rfl ⟨rfl, rfl⟩ (by kernel_rfl) (by kernel_rfl)
    (fun f fn hf hfn => by
      obtain rfl : f = 3 := Option.some.inj ((show Tryd.prog.funcNamed "punnet/punnetlaw22.AuditTurns" = some 3 by kernel_rfl).symm.trans hf) |>.symm
      obtain rfl : fn = Tryd.f3 := (Option.some.inj (Tryd.func3.symm.trans hfn)).symm
      exact ⟨by kernel_rfl, fun j t ht => by
        rw [Tryd.params3] at ht
        have h3 : t = 24 := by
          rcases j with _ | _ | j
          · simpa using ht.symm
          · simpa using ht.symm
          · simp at ht
        subst h3
        exact (show Tryd.prog.wantsStandIn 24 = false by kernel_rfl)⟩)
    (by kernel_rfl)
#print axioms auditTurns_holds
end Go.Proofs.YtonoaklajnfmiaaDoor
