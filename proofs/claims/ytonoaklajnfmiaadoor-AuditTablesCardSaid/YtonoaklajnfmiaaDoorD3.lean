/- The document's answer: which slots of two rows differ. -/
import Derived.Test.YtonoaklajnfmiaaDoorD2
import Derived.Test.YtonoaklajnfmiaaDoorK3
set_option linter.unusedVariables false
set_option linter.unusedSimpArgs false
namespace Go.Proofs.YtonoaklajnfmiaaDoor
open Go.RowKit

set_option maxHeartbeats 2000000 in
theorem refTurned_any {σ τ : List (Option Int)} {w : World} (g h : Nat) (h1 : Has w g (slotCells σ) 38) (h2 : Has w h (slotCells τ) 38) (hl : σ.length = τ.length) (hn : σ.length ≤ 65536) (hG : NG ≤ w.heap.size) :
    Calls Tryd.prog 11 #[.slice (some ⟨g, 0, none⟩) σ.length σ.length, .slice (some ⟨h, 0, none⟩) τ.length τ.length] w fun e w' => ∃ v, e = .returned v ∧ RowI w' w.heap.size v (turnedL σ τ) ∧ Fr Nil1 w w' := by
  obtain ⟨i0, hi, hz0, hz1, hz2⟩ := info_parts info_int
  have H1 := hid h1
  have H2 := hid h2
  have HL := hid hl
  have HG := hid hG
  clear h1 h2 hl hG
  go_enter Tryd.func11, Tryd.ntmps11
  go_wp2_with fail
  go_loopw [5, 6] (fun v i wr => ∃ k : Nat, k ≤ σ.length ∧ i = .int .i64 k ∧ Hid (RowI wr w.heap.size v (trnTo σ τ k) ∧ Fr Nil1 w wr)) (fun _ i _ => σ.length - (intOf i).toNat)
  case atStart => exact ⟨0, by omega, rfl, hid ⟨RowI.nil _ _, Fr.refl _ _⟩⟩
  case round =>
    obtain ⟨k, hk, rfl, HR⟩ := hrel
    by_cases hlt : k < σ.length
    · have hlen := trnTo_length σ τ k
      have hlt2 : k < τ.length := by have := HL.out; omega
      have a0 := (H1.out.fr' HR.out.2 id).cell (k * 2)
      have a1 := (H1.out.fr' HR.out.2 id).cell (k * 2 + 1)
      have b0 := (H2.out.fr' HR.out.2 id).cell (k * 2)
      have b1 := (H2.out.fr' HR.out.2 id).cell (k * 2 + 1)
      rw [slotCells_get0 _ _ hlt] at a0
      rw [slotCells_get1 _ _ hlt] at a1
      rw [slotCells_get0 _ _ hlt2] at b0
      rw [slotCells_get1 _ _ hlt2] at b1
      have hst : trnTo σ τ (k + 1) = trnTo σ τ k ++ if σ.getD k none ≠ τ.getD k none then [(k : Int)] else [] := rfl
      have HST := hid hst
      clear hst
      have hws : w.heap.size ≤ wr.heap.size := HR.out.2.size
      by_cases he : σ.getD k none = τ.getD k none
      · have HE := hid he
        rw [he] at a0 a1
        generalize (τ.getD k none).isSome = p at a0 b0
        generalize (τ.getD k none).getD 0 = q at a1 b1
        clear he
        go_wp2_with fail
        go_quiet (fail)
        go_wp2_with fail
        refine ⟨⟨k + 1, by omega, by go_num, ?_⟩, by simp [intOf]; omega⟩
        rw [HST.out, if_neg (fun h => h HE.out), List.append_nil]
        exact hid ⟨HR.out.1.new ((Fr.refl Nil1 _).drewN _), HR.out.2.drewN _⟩
      · have HE := hid he
        have hb : wr.heap.size ≤ wr.heap.size := Nat.le_refl _
        have fin : ∀ (W : World) (v' : Value) (m : Nat), W.ownsRow w.heap.size 3 1 v' ((trnTo σ τ k).length + 1) ((trnTo σ τ k).map (Value.int .i64) ++ [.int .i64 (k : Int)]) → Fr Nil1 w W → Hid (RowI W w.heap.size v' (trnTo σ τ (k + 1)) ∧ Fr Nil1 w W) := by
          intro W v' m ho hf
          rw [HST.out, if_pos HE.out]
          refine hid ⟨?_, hf⟩
          unfold RowI
          rw [List.length_append, List.map_append]
          exact ho
        have FIN := hid fin
        clear fin hb
        have hcase : (∃ p p' : Bool, (σ.getD k none).isSome = p ∧ (τ.getD k none).isSome = p' ∧ p ≠ p') ∨ ((σ.getD k none).isSome = (τ.getD k none).isSome ∧ (σ.getD k none).getD 0 ≠ (τ.getD k none).getD 0) := by
          cases h1 : σ.getD k none <;> cases h2 : τ.getD k none
          · exact (he (by rw [h1, h2])).elim
          · exact .inl ⟨false, true, by simp⟩
          · exact .inl ⟨true, false, by simp⟩
          · refine .inr ⟨rfl, fun e => he ?_⟩
            rw [h1, h2]
            congr 1
        rcases hcase with ⟨p, p', e1, e2, hpp⟩ | ⟨e1, hqq⟩
        · rw [e1] at a0
          rw [e2] at b0
          generalize (σ.getD k none).getD 0 = q at a1
          generalize (τ.getD k none).getD 0 = q' at b1
          clear he e1 e2
          cases p <;> cases p' <;> first | (exact (hpp rfl).elim) | skip
          all_goals
            clear hpp
            go_wp2_with fail
            go_quiet (fail)
            go_wp2_with (first | (at_builtin; refine wpList_append_own _ rfl _ _ 30 rfl w.heap.size 3 i0 (.int .i64 0) 1 8 Tryd.underlying30 hi hz0 hz1 hz2 rfl (by decide) _ _ _ rfl ((HR.out.1.new ((Fr.refl Nil1 _).drewN nq)).alloc _) ⟨wr.heap.size, 0, none⟩ 1 1 [.int .i64 (k : Int)] rfl rfl (cell_one_new _ _ _) (by simp [Value.oneCell']) (by unfold maxLen; omega) (by omega) (by simp; omega) ?_; intro v' w1 hown' hgrow _; have HO := hid hown'; have HGr := hid hgrow; clear hown' hgrow))
            refine ⟨⟨k + 1, by omega, by go_num, ?_⟩, by simp [intOf]; omega⟩
            exact FIN.out _ _ 0 HO.out (((HR.out.2.drewN nq).alloc _).grown HGr.out (fun j e => by have := own_block HR.out.1 j e; have := HG.out; omega) (fun j e h => by have := own_block HR.out.1 j e; omega))
        · rw [e1] at a0
          generalize (τ.getD k none).isSome = p at a0 b0
          have hq1 : ((σ.getD k none).getD 0 == (τ.getD k none).getD 0) = false := by rw [beq_eq_false_iff_ne]; exact hqq
          have hq2 : ((σ.getD k none).getD 0 != (τ.getD k none).getD 0) = true := by rw [bne_iff_ne]; exact hqq
          generalize (σ.getD k none).getD 0 = q at a1 hq1 hq2
          generalize (τ.getD k none).getD 0 = q' at b1 hq1 hq2
          clear he e1 hqq
          go_wp2_with fail
          go_quiet (fail)
          go_wp2_with (first | (at_builtin; refine wpList_append_own _ rfl _ _ 30 rfl w.heap.size 3 i0 (.int .i64 0) 1 8 Tryd.underlying30 hi hz0 hz1 hz2 rfl (by decide) _ _ _ rfl ((HR.out.1.new ((Fr.refl Nil1 _).drewN nq)).alloc _) ⟨wr.heap.size, 0, none⟩ 1 1 [.int .i64 (k : Int)] rfl rfl (cell_one_new _ _ _) (by simp [Value.oneCell']) (by unfold maxLen; omega) (by omega) (by simp; omega) ?_; intro v' w1 hown' hgrow _; have HO := hid hown'; have HGr := hid hgrow; clear hown' hgrow))
          refine ⟨⟨k + 1, by omega, by go_num, ?_⟩, by simp [intOf]; omega⟩
          exact FIN.out _ _ 0 HO.out (((HR.out.2.drewN nq).alloc _).grown HGr.out (fun j e => by have := own_block HR.out.1 j e; have := HG.out; omega) (fun j e h => by have := own_block HR.out.1 j e; omega))
    · have hkk := hid (show k = σ.length by omega)
      go_wp2_with fail
      go_ret
      have h := HR.out
      rw [hkk.out] at h
      exact ⟨_, rfl, h.1, h.2⟩
end Go.Proofs.YtonoaklajnfmiaaDoor
