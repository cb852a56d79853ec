/- rank: Median, Of. -/
import Derived.Test.YtmbkmojekpkfhaaGreatDoorHB
import Derived.Test.YtmbkmojekpkfhaaGreatDoorMS
set_option linter.unusedVariables false
set_option linter.unusedSimpArgs false
namespace Go.Proofs.YtmbkmojekpkfhaaGreatDoor
open Go.RowKit

section
variable {w w' : World} {X : IxF} {σ : List (Option Int)} {h : Nat}
theorem half_ok : ¬ quanBad 1 2 := by unfold quanBad; omega
theorem rankMedian_ok (H : IxR w X σ h) (he : 0 < (its σ).length) : Calls Tryz.prog 34 #[.pointer (some ⟨X.x, 0, none⟩)] w fun e w' => e = .returned (.tuple #[.int .i64 ((its σ).getD (((its σ).length - 1) / 2) 0), .int .i64 0]) ∧ w = w' := by
  have HQ := hid (rankQuantile_ok H 1 2 half_ok he)
  rw [show quanI (its σ).length 1 2 = ((its σ).length - 1) / 2 by unfold quanI; omega] at HQ
  clear H he
  generalize (its σ).getD (((its σ).length - 1) / 2) 0 = z at *
  go_enter Tryz.func34, Tryz.ntmps34
  go_wp2_with (go_at_call 35; refine HQ.out.mono ?_; rintro e w1 ⟨rfl, rfl⟩)
  go_ret2
  exact ⟨rfl, rfl⟩
theorem rankMedian_none (H : IxR w X σ h) (he : its σ = []) : Calls Tryz.prog 34 #[.pointer (some ⟨X.x, 0, none⟩)] w fun e w' => e = .returned (.tuple #[.int .i64 0, .int .i64 14]) ∧ w = w' := by
  have HQ := hid (rankQuantile_none H 1 2 half_ok he)
  clear H he
  go_enter Tryz.func34, Tryz.ntmps34
  go_wp2_with (go_at_call 35; refine HQ.out.mono ?_; rintro e w1 ⟨rfl, rfl⟩)
  go_ret2
  exact ⟨rfl, rfl⟩
theorem rankMedian_nil (w : World) : Calls Tryz.prog 34 #[.pointer none] w fun e w' => e = .returned (.tuple #[.int .i64 0, .int .i64 2]) ∧ w = w' := by
  have HQ := hid (rankQuantile_nil 1 2)
  go_enter Tryz.func34, Tryz.ntmps34
  go_wp2_with (go_at_call 35; refine (HQ.out _).mono ?_; rintro e w1 ⟨rfl, rfl⟩)
  go_ret2
  exact ⟨rfl, rfl⟩
theorem rankOf_nil (w : World) : Calls Tryz.prog 28 #[.pointer none] w fun e w' => e = .returned (.pointer none) ∧ w = w' := by
  go_enter Tryz.func28, Tryz.ntmps28
  go_wp2_with fail
  go_ret
  exact ⟨rfl, rfl⟩
end
/-- What holds behind some rounds of counting. -/
structure OfI (w3 : World) (D Q : Nat) (Z k : Nat) (σ : List (Option Int)) (wr : World) : Prop where
  row : Has wr D (ints' ((cntsW σ 0 Z).take k ++ List.replicate (Z - k) 0)) 3
  fr : Fr Nil1 w3 wr
set_option maxRecDepth 100000 in
set_option maxHeartbeats 4000000 in
theorem rankOf_any {w0 w : World} {s : Nat} {ks : List Int} (H : SS w0 s ks w) : Calls Tryz.prog 28 #[.pointer (some ⟨s, 0, none⟩)] w fun e w' => ∃ (X : IxF), e = .returned (.pointer (some ⟨X.x, 0, none⟩)) ∧ ∃ (σ : List (Option Int)) (h : Nat), Hid (IxR w' X σ h ∧ its σ = ks ∧ Fr Nil1 w w' ∧ ∀ k, X.mem k → w.heap.size ≤ k) := by
  obtain ⟨p, F, σ, h, evs, a, rfl⟩ := H.ex
  have HRow := hid (setRow_any a)
  have HD := hid a.row.d
  have HUp := hid a.up
  have HG := hid a.size
  have h9 := a.row.d.h9
  have h2 := a.row.d.h2
  have hlen := a.row.d.len
  have hz := p2_le h9
  have hz0 : 0 < 2 ^ h := Nat.pow_pos (by omega)
  have HSg := hid (fun w => levelSegs_ok h h2 h9 w)
  clear H a
  obtain ⟨Z, hZ⟩ : ∃ Z, 2 ^ h = Z := ⟨_, rfl⟩
  have HZ := hid hZ
  rw [hZ] at HSg hlen hz hz0
  have HLen := hid hlen
  have hmk := mk_row (P := Tryz.prog) 30 3 (.int .i64 0) 8 Tryz.underlying30 info_int rfl (by decide) (Z : Int) (by omega) (by omega)
  obtain ⟨y, hy⟩ : ∃ y : Int, ((8 * Z : Nat) : Int) = y := ⟨_, rfl⟩
  rw [hy] at HSg
  have HY := hid (show ((σ.length : Nat) : Int) = y by rw [hlen]; exact hy)
  clear hZ hy hlen h2 h9
  go_enter Tryz.func28, Tryz.ntmps28
  go_wp2_with (first
    | (go_at_call 72; (with_reducible refine (HSg.out _).mono ?_); rintro e w4 ⟨rfl, rfl⟩)
    | (go_at_call 66; (with_reducible refine HCp.out.mono ?_); rintro e w5 ⟨rfl, rfl⟩)
    | (go_at_call 14; (with_reducible refine (pmaSlots_any H1.out.1.r).mono ?_); rintro e w2 ⟨f, rfl, g1, g2, g3⟩; have H2 := hid (And.intro g1 (And.intro g3 g2)); clear g1 g2 g3; have hcp := gapsCap_any (H2.out.1.new ((Fr.refl Nil1 w2).alloc (.cells #[.pointer (some ⟨f.s, 0, none⟩), .pointer none] 107))); rw [HY.out] at hcp; have HCp := hid hcp; clear hcp)
    | (go_at_call 71; (with_reducible refine HRow.out.mono ?_); rintro e w1 ⟨F', rfl, H1⟩))
  have hs1 := H1.out.2.size
  have hs2 := H2.out.2.2.size
  obtain ⟨Q, hQ⟩ : ∃ Q, w2.heap.size = Q := ⟨_, rfl⟩
  have hb0 : Has (w2.alloc (.cells #[.pointer (some ⟨f.s, 0, none⟩), .pointer none] 107)) Q [.pointer (some ⟨f.s, 0, none⟩), .pointer none] 107 := hQ ▸ Has.new w2 _ _
  have HS3 := hid (H2.out.1.new ((Fr.refl Nil1 w2).alloc (.cells #[.pointer (some ⟨f.s, 0, none⟩), .pointer none] 107)))
  have HF3 := hid (show Fr Nil1 w (w2.alloc (.cells #[.pointer (some ⟨f.s, 0, none⟩), .pointer none] 107)) from (H1.out.2.trans H2.out.2.2).alloc _)
  have hsz3 : (w2.alloc (.cells #[.pointer (some ⟨f.s, 0, none⟩), .pointer none] 107)).heap.size = Q + 1 := by simp [hQ]
  obtain ⟨W3, hW3⟩ : ∃ W3, w2.alloc (.cells #[.pointer (some ⟨f.s, 0, none⟩), .pointer none] 107) = W3 := ⟨_, rfl⟩
  have HMem := hid (show Q = w2.heap.size ∧ w.heap.size ≤ Q ∧ NG ≤ w.heap.size ∧ ∀ k, f.mem k → k < Q ∧ w.heap.size ≤ k from ⟨hQ.symm, by omega, HG.out, fun k hk => ⟨hQ ▸ H2.out.1.lt k hk, by have := H2.out.2.1 k hk; omega⟩⟩)
  have hm := Has.made W3 (.int .i64 0) Z 3
  rw [hW3] at hb0 HS3 HF3 hsz3 ⊢
  rw [hQ]
  rw [hsz3] at hm
  have e0 : ints' ((cntsW σ 0 Z).take 0 ++ List.replicate (Z - 0) 0) = List.replicate Z (.int .i64 0) := by simp [ints']
  rw [← e0] at hm
  have HM := hid (show OfI W3 (Q + 1) Q Z 0 σ (W3.alloc (.cells (madeCells #[.int .i64 0] Z) 3)) from ⟨hm, (Fr.refl _ _).alloc _⟩)
  have HB0 := hid hb0
  clear hs1 hs2 hQ hb0 hW3 hm e0
  go_loopw [7, 27] (fun _ i wr => ∃ k : Nat, k ≤ Z ∧ i = .int .i64 k ∧ Hid (OfI W3 (Q + 1) Q Z k σ wr)) (fun _ i _ => Z - (intOf i).toNat)
  case atStart => exact ⟨0, by omega, rfl, HM⟩
  case round =>
    obtain ⟨k, hk, rfl, HR⟩ := hrel
    have hbx := HB0.out.fr' HR.out.fr id
    have k0 := hbx.cell 0
    have k1 := hbx.cell 1
    have kf := hbx.frozen
    have HBx := hid hbx
    clear hbx
    by_cases hlt : k < Z
    · have hltI : (k : Int) < Z := by omega
      have hk0 : (0 : Int) ≤ (k : Int) := by omega
      have hll : k < ((cntsW σ 0 Z).take k ++ List.replicate (Z - k) 0).length := by rw [List.length_append, List.length_take, cntsW_length, List.length_replicate]; omega
      have c0 := HR.out.row.cell k
      rw [ints'_get _ _ hll] at c0
      have cf := HR.out.row.frozen
      have hcn := gapsCount_any (HS3.out.new HR.out.fr) ((k : Int) * 8) (((k : Int) + 1) * 8) (by omega) (by omega) (by have := HLen.out; omega)
      rw [show (((k : Int) + 1) * 8).toNat = 8 * (0 + k + 1) by omega, show ((k : Int) * 8).toNat = 8 * (0 + k) by omega] at hcn
      have HCn := hid (show Calls Tryz.prog 73 #[.pointer (some ⟨f.s, 0, none⟩), .int .i64 ((k : Int) * 8), .int .i64 (((k : Int) + 1) * 8)] wr fun e w' => e = .returned (.tuple #[.int .i64 (segC σ (0 + k) : Nat), .int .i64 0]) ∧ wr = w' from hcn)
      have hst := HR.out.row.set k (.int .i64 (segC σ (0 + k) : Nat))
      have e1 := ints'_set ((cntsW σ 0 Z).take k ++ List.replicate (Z - k) 0) [] k (segC σ (0 + k) : Int) hll
      rw [List.append_nil, List.append_nil, cnts_step σ 0 Z k hlt] at e1
      rw [e1] at hst
      have HSt := hid hst
      have hs8 := segC_le σ (0 + k)
      have HK := hid (And.intro hk hlt)
      have v1 : IntKind.i64.wrap ((k : Int) * 8) = (k : Int) * 8 := IntWalk.i64_in _ (by omega)
      have v2 : IntKind.i64.wrap ((k : Int) + 1) = (k : Int) + 1 := IntWalk.i64_in _ (by omega)
      have v3 : IntKind.i64.wrap (((k : Int) + 1) * 8) = ((k : Int) + 1) * 8 := IntWalk.i64_in _ (by omega)
      clear hst e1 hll hcn hk hlt
      generalize ((cntsW σ 0 Z).take k ++ List.replicate (Z - k) 0).getD k 0 = z at *
      generalize segC σ (0 + k) = sg at *
      go_wp2_with (go_at_call 73; refine HCn.out.mono ?_; rintro e w6 ⟨rfl, rfl⟩)
      exact ⟨⟨k + 1, by have := HK.out; omega, by go_num, hid ⟨HSt.out, HR.out.fr.setNew _ _ (by have := HMem.out; rw [hsz3]; omega) (by rw [hsz3]; exact Nat.le_refl _)⟩⟩, by have := HK.out; simp [intOf]; omega⟩
    · have hltI : ¬ (k : Int) < Z := by omega
      have hks : k = Z := by omega
      subst hks
      have hrow := HR.out.row
      have hcl : (cntsL σ).length = k := by rw [cntsL_length, HLen.out]; omega
      have ecl : cntsW σ 0 k = cntsL σ := by rw [cntsL_eq, HLen.out]; congr 1; omega
      rw [Nat.sub_self, List.replicate_zero, List.append_nil, List.take_of_length_le (by rw [cntsW_length]; omega), ecl] at hrow
      have hsz := HR.out.fr.size
      have htn := treeNew_ok (cntsL σ) h (by have := HD.out.h2; omega) HD.out.h9 (by rw [hcl]; exact HZ.out.symm) (by rw [cntsL_eq]; exact cntsW_mem _ _ _) ⟨Q + 1, 0, none⟩ k wr ⟨by rw [hcl]; exact Nat.le_refl _, by omega, fun j u hu => by rw [add_flat, Nat.zero_add]; exact (hrow.cell j).trans hu⟩ (by have := HMem.out; rw [hsz3] at hsz; omega)
      rw [hcl] at htn
      have HTn := hid htn
      have HSz := hid hsz
      clear hrow hcl ecl hsz htn hk hlt
      go_wp2_with (go_at_call 74; refine HTn.out.mono ?_; rintro e w7 ⟨t, d, rfl, hT, hF, ht, hd⟩; have H7 := hid (And.intro hT (And.intro hF (And.intro ht hd))); have hk7 := HBx.out.fr' hF id; have HK7 := hid hk7; have q0 := hk7.cell 0; have q1 := hk7.cell 1; have qf := hk7.frozen; clear hT hF ht hd hk7)
      go_ret
      have hM := HMem.out
      have hz := HSz.out
      rw [hsz3] at hz
      have hst : Fr (fun j => j = Q) w7 (w7.setCell ⟨Q, 1, none⟩ (.pointer (some ⟨t, 0, none⟩))) := (Fr.refl _ _).setCell _ _ (by show NG ≤ Q; omega) (fun _ => rfl)
      have hfa : Fr Nil1 w w7 := (HF3.out.trans HR.out.fr).trans H7.out.2.1
      refine ⟨⟨Q, f, t, d⟩, rfl, σ, h, hid ⟨⟨HK7.out.set 1 _, ((HS3.out.new HR.out.fr).new H7.out.2.1).fr hst (fun j hj e => by have := (hM.2.2.2 j hj).1; omega), H7.out.1.fr hst (by have := H7.out.2.2.1; omega) (by have := H7.out.2.2.2; omega), HD.out.h2, HD.out.h9, HD.out.len, HUp.out⟩, rfl, hfa.setNew _ _ hM.2.2.1 hM.2.1, ?_⟩⟩
      rintro j (e | hj | e | e)
      · have e' : j = Q := e; omega
      · exact (hM.2.2.2 j hj).2
      · have e' : j = t := e; have := H7.out.2.2.1; omega
      · have e' : j = d := e; have := H7.out.2.2.2; omega
end Go.Proofs.YtmbkmojekpkfhaaGreatDoor
