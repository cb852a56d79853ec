/- In one: U4, U5. -/
import Derived.OwnWalk
import Derived.Test.YtechphliifginaaGreatDoorGI
import Derived.Test.YtechphliifginaaGreatDoorGE
/- tree: Find, Set, Counts, Clone. -/
set_option linter.unusedVariables false
set_option linter.unusedSimpArgs false
namespace Go.Proofs.YtechphliifginaaGreatDoor
open Go.RowKit

/-- The segment of the n-th element. -/
structure FindI (ns cs : List Int) (h : Nat) (N : Int) (i : Nat) (n : Int) (d : Nat) : Prop where
  ex : ∃ e j, e + d = h ∧ j < 2 ^ e ∧ i = 2 ^ e + j ∧ preI cs (j * 2 ^ d) ≤ N ∧ N < preI cs ((j + 1) * 2 ^ d) ∧ n = N - preI cs (j * 2 ^ d)
theorem FindI.stop {ns cs : List Int} {h : Nat} {N n : Int} {i : Nat} (H : FindI ns cs h N i n 0) : ∃ s, s < 2 ^ h ∧ i = 2 ^ h + s ∧ preI cs s ≤ N ∧ N < preI cs (s + 1) ∧ n = N - preI cs s := by
  obtain ⟨e, j, rfl, hj, rfl, h1, h2, h3⟩ := H.ex
  rw [Nat.pow_zero, Nat.mul_one] at h1 h2 h3
  exact ⟨j, hj, rfl, h1, h2, h3⟩
theorem FindI.lt {ns cs : List Int} {h : Nat} {N n : Int} {i d : Nat} (H : FindI ns cs h N i n (d + 1)) : 1 ≤ i ∧ i < 2 ^ h := by
  obtain ⟨e, j, rfl, hj, rfl, h1, h2, h3⟩ := H.ex
  have hp : 0 < 2 ^ e := Nat.pow_pos (by omega)
  have : 2 ^ (e + 1) ≤ 2 ^ (e + (d + 1)) := Nat.pow_le_pow_right (by omega) (by omega)
  rw [Nat.pow_succ] at this
  omega
theorem FindI.step {ns cs : List Int} {h : Nat} {N n : Int} {i d : Nat} (K : HeapOK ns h cs) (H : FindI ns cs h N i n (d + 1)) :
    (ns.getD (2 * i) 0 ≤ n → FindI ns cs h N (2 * i + 1) (n - ns.getD (2 * i) 0) d) ∧ (n < ns.getD (2 * i) 0 → FindI ns cs h N (2 * i) n d) := by
  obtain ⟨e, j, he, hj, rfl, h1, h2, h3⟩ := H.ex
  have hl := K.at d (e + 1) (2 * j) (by omega) (by rw [Nat.pow_succ]; omega)
  have e1 : 2 ^ (e + 1) + 2 * j = 2 * (2 ^ e + j) := by rw [Nat.pow_succ]; omega
  have e2 : 2 * j * 2 ^ d = j * 2 ^ (d + 1) := by rw [Nat.pow_succ, Nat.mul_comm (2 ^ d) 2, ← Nat.mul_assoc]; congr 1; omega
  have e3 : (2 * j + 1 + 1) * 2 ^ d = (j + 1) * 2 ^ (d + 1) := by rw [Nat.pow_succ, Nat.mul_comm (2 ^ d) 2, ← Nat.mul_assoc]; congr 1; omega
  rw [e1, e2] at hl
  refine ⟨fun hh => ⟨e + 1, 2 * j + 1, by omega, by rw [Nat.pow_succ]; omega, by rw [← e1]; omega, by omega, by rw [e3]; exact h2, by omega⟩, fun hh => ⟨e + 1, 2 * j, by omega, by rw [Nat.pow_succ]; omega, e1.symm, by rw [e2]; exact h1, by omega, by rw [e2]; exact h3⟩⟩
theorem FindI.start {ns cs : List Int} {h : Nat} {N : Int} (h0 : 0 ≤ N) (h1 : N < preI cs (2 ^ h)) : FindI ns cs h N 1 N h :=
  ⟨0, 0, by omega, by simp, by simp, by rw [Nat.zero_mul, preI_zero]; exact h0, by rw [Nat.zero_add, Nat.one_mul]; exact h1, by rw [Nat.zero_mul, preI_zero]; omega⟩

set_option maxRecDepth 100000 in
set_option maxHeartbeats 2000000 in
theorem treeFind_ok {t d h : Nat} {cs : List Int} {w : World} (H : TreeR w t d h cs) (N : Int) (h0 : 0 ≤ N) (hN : N < preI cs (2 ^ h)) :
    Calls Tryz.prog 165 #[.pointer (some ⟨t, 0, none⟩), .int .i64 N] w fun e w' => ∃ s : Nat, e = .returned (.tuple #[.int .i64 s, .int .i64 (N - preI cs s), .int .i64 0]) ∧ w = w' ∧ s < 2 ^ h ∧ preI cs s ≤ N ∧ N < preI cs (s + 1) := by
  obtain ⟨ns, ex, r1, r2, r3⟩ := H.row
  have hz := p2_le H.h9
  have hh1 := H.h1
  have hz2 : 2 ≤ 2 ^ h := by have := Nat.pow_le_pow_right (n := 2) (by omega) hh1; simpa using this
  have hb : ∀ k, 1 ≤ k → k < 2 * 2 ^ h → 0 ≤ ns.getD k 0 ∧ ns.getD k 0 ≤ 4096 := fun k k1 k2 => by
    have := r3.bound H.c8 k k1 k2
    have h4 : ((2 ^ h : Nat) : Int) = 2 ^ h := by rw [Int.natCast_pow]; rfl
    rw [← h4] at this
    omega
  have HS := hid (fun i n d => FindI.step (N := N) (i := i) (n := n) (d := d) r3)
  have HT := hid (FindI.start (ns := ns) h0 hN)
  have hroot := r3.root
  have hN9 : N < 4096 + 1 := by
    have := hb 1 (by omega) (by omega)
    rw [hroot] at this
    omega
  have HP := hid (fun (i : Nat) n => FindI.stop (ns := ns) (cs := cs) (h := h) (N := N) (i := i) (n := n))
  have HLt := hid (fun (i : Nat) n d => FindI.lt (ns := ns) (cs := cs) (h := h) (N := N) (i := i) (n := n) (d := d))
  have HB := hid hb
  have HCell := hid (fun k (hk : k < 2 * 2 ^ h) => (r2.cell k).trans (ints'_append ns ex k (by rw [r3.len]; exact hk)))
  have c0 := r1.cell 0
  have c1 := r1.cell 1
  have c2 := HCell.out 1 (by omega)
  rw [hroot] at c2
  generalize preI cs (2 ^ h) = tot at *
  obtain ⟨C, hC⟩ : ∃ C, 2 * 2 ^ h + ex.length = C := ⟨_, rfl⟩
  rw [hC] at c1
  generalize hZ : 2 ^ h = Z at *
  have HZ := hid hZ
  clear H r1 r2 r3 hb hZ hC hroot
  have i3 : 1 < 2 * Z := by omega
  have d1 : decide (N < 0) = false := decide_eq_false (by omega)
  have d2 : decide (tot ≤ N) = false := decide_eq_false (by omega)
  go_enter Tryz.func165, Tryz.ntmps165
  go_wp2_with fail
  go_loop [1, 7] (fun n i => ∃ (k dd : Nat) (m : Int), i = .int .i64 k ∧ n = .int .i64 m ∧ Hid (FindI ns cs h N k m dd) ∧ (0 ≤ m ∧ m ≤ 4096)) (fun _ i => 2 * Z - (intOf i).toNat)
  case atStart => exact ⟨1, h, N, rfl, rfl, HT, by omega⟩
  case round =>
    obtain ⟨k, dd, m, rfl, rfl, HF, hm0, hm1⟩ := hrel
    cases dd with
    | zero =>
      obtain ⟨s, s1, s2, s3, s4, s5⟩ := HP.out k m HF.out
      have hk : ¬ (k : Int) < Z := by omega
      have hk2 : (k : Int) ≤ 2 * Z := by omega
      have HF2 := hid (And.intro s1 (And.intro s3 (And.intro s4 s5)))
      have HS2 := hid (show (s : Int) = (k : Int) - (Z : Int) by omega)
      clear s1 s2 s3 s4 s5
      go_wp2_with fail
      go_ret3
      refine ⟨s, ?_, rfl, HF2.out.1, HF2.out.2.1, HF2.out.2.2.1⟩
      rw [← HF2.out.2.2.2, HS2.out]
      rfl
    | succ dd =>
      obtain ⟨k1, k2⟩ := HLt.out k m dd HF.out
      have hk : (k : Int) < Z := by omega
      have hc := HCell.out (2 * k) (by omega)
      obtain ⟨b1, b2⟩ := HB.out (2 * k) (by omega) (by omega)
      obtain ⟨f1, f2⟩ := HS.out k m dd HF.out
      have HA := hid f1
      have HA' := hid f2
      have v1 : IntKind.i64.wrap (2 * (k : Int)) = 2 * (k : Int) := IntWalk.i64_in _ (by omega)
      have v1' : wrap64 ((k : Int) * 2) = (k : Int) * 2 := IntWalk.wrap64_in _ (by omega)
      have i4 : ((k : Int) * 2).toNat = 2 * k := by omega
      have i5 : (0 : Int) ≤ (k : Int) * 2 := by omega
      have i6 : (k : Int) * 2 < 2 * (Z : Int) := by omega
      clear f1 f2
      generalize ns.getD (2 * k) 0 = x at *
      by_cases hx : x ≤ m
      · have HF2 := hid (HA.out hx)
        go_wp2_with fail
        go_round
        case rel => exact ⟨2 * k + 1, dd, m - x, by go_num, rfl, HF2, by omega⟩
        case measure => simp [intOf]; omega
      · have HF2 := hid (HA'.out (by omega))
        go_wp2_with fail
        go_round
        case rel => exact ⟨2 * k, dd, m, by go_num, rfl, HF2, by omega⟩
        case measure => simp [intOf]; omega
set_option maxRecDepth 100000 in
theorem treeFind_none {t d h : Nat} {cs : List Int} {w : World} (H : TreeR w t d h cs) (N : Int) (h0 : N < 0 ∨ preI cs (2 ^ h) ≤ N) :
    Calls Tryz.prog 165 #[.pointer (some ⟨t, 0, none⟩), .int .i64 N] w fun e w' => e = .returned (.tuple #[.int .i64 0, .int .i64 0, .int .i64 14]) ∧ w = w' := by
  obtain ⟨ns, ex, r1, r2, r3⟩ := H.row
  have hz := p2_le H.h9
  have hz2 : 2 ≤ 2 ^ h := by have := Nat.pow_le_pow_right (n := 2) (by omega) H.h1; simpa using this
  have c1 := r1.cell 1
  have c2 := (r2.cell 1).trans (ints'_append ns ex 1 (by rw [r3.len]; omega))
  rw [r3.root] at c2
  generalize preI cs (2 ^ h) = tot at *
  obtain ⟨C, hC⟩ : ∃ C, 2 * 2 ^ h + ex.length = C := ⟨_, rfl⟩
  rw [hC] at c1
  generalize hZ : 2 ^ h = Z at *
  have i3 : 1 < 2 * Z := by omega
  clear H r1 r2 r3 hZ hC
  by_cases hn : N < 0
  · go_enter Tryz.func165, Tryz.ntmps165
    go_wp2_with fail
    go_ret3
    exact ⟨rfl, rfl⟩
  · have d1 : decide (N < 0) = false := decide_eq_false hn
    have d2 : tot ≤ N := by omega
    clear h0
    go_enter Tryz.func165, Tryz.ntmps165
    go_wp2_with fail
    go_ret3
    exact ⟨rfl, rfl⟩
end Go.Proofs.YtechphliifginaaGreatDoor

/- tree: Set, Counts, Clone. -/
set_option linter.unusedVariables false
set_option linter.unusedSimpArgs false
namespace Go.Proofs.YtechphliifginaaGreatDoor
open Go.RowKit

set_option maxRecDepth 100000 in
set_option maxHeartbeats 2000000 in
theorem treeSet_ok {t d h : Nat} {cs : List Int} {w : World} (H : TreeR w t d h cs) (s : Nat) (m : Int) (hs : s < 2 ^ h) (h0 : 0 ≤ m) (h8 : m ≤ 8) :
    Calls Tryz.prog 139 #[.pointer (some ⟨t, 0, none⟩), .int .i64 s, .int .i64 m] w fun e w' => e = .returned (.int .i64 0) ∧ TreeR w' t d h (cs.set s m) ∧ Fr (fun k => k = d) w w' := by
  obtain ⟨ns, ex, r1, r2, r3⟩ := H.row
  have hz := p2_le H.h9
  have hcs := H.c8 _ (getD_mem (show s < cs.length by rw [r3.clen]; exact hs))
  have HAdd := hid (fun w' (hf : Fr Nil1 w w') => treeAdd_ok (H.new hf) s (m - cs.getD s 0) hs (by omega) (by omega))
  have e : cs.getD s 0 + (m - cs.getD s 0) = m := by omega
  rw [e] at HAdd
  have c0 := r1.cell 0
  have q0 : ∀ u : FrW w, u.u.cell? ⟨t, 0, none⟩ = some (.int .i64 (2 ^ h : Nat)) := fun u => (r1.fr' u.h id).cell 0
  have q1 : ∀ u : FrW w, u.u.cell? ⟨t, 1, none⟩ = some (.slice (some ⟨d, 0, none⟩) (2 * 2 ^ h) (2 * 2 ^ h + ex.length)) := fun u => (r1.fr' u.h id).cell 1
  have q2 : ∀ u : FrW w, u.u.cell? ⟨d, 2 ^ h + s, none⟩ = some (.int .i64 (cs.getD s 0)) := fun u => by
    rw [(r2.fr' u.h id).cell (2 ^ h + s), ints'_append _ _ _ (by rw [r3.len]; omega), r3.leaf s hs]
  have HM := hid (fun w => treeMay_any m w)
  rw [show decide (0 ≤ m ∧ m ≤ 8) = true from decide_eq_true ⟨h0, h8⟩] at HM
  generalize cs.set s m = cs' at *
  generalize cs.getD s 0 = x at *
  obtain ⟨C, hC⟩ : ∃ C, 2 * 2 ^ h + ex.length = C := ⟨_, rfl⟩
  rw [hC] at q1
  generalize hZ : 2 ^ h = Z at *
  clear H r1 r2 r3 hZ hC e
  obtain ⟨hcs1, hcs2⟩ := hcs
  have d1 : decide ((s : Int) < 0) = false := decide_eq_false (by omega)
  have d2 : decide ((Z : Int) ≤ (s : Int)) = false := decide_eq_false (by omega)
  have d2' : decide (Z ≤ s) = false := decide_eq_false (by omega)
  have v1 : IntKind.i64.wrap ((Z : Int) + s) = (Z : Int) + s := IntWalk.i64_in _ (by omega)
  have v2 : IntKind.i64.wrap (m - x) = m - x := IntWalk.i64_in _ (by omega)
  have i0 : (0 : Int) ≤ (Z : Int) + s := by omega
  have i1 : (Z : Int) + s < 2 * (Z : Int) := by omega
  have i2 : ((Z : Int) + s).toNat = Z + s := by omega
  have i3 : Z + s < 2 * Z := by omega
  have S0 := hid (show w.drew.cell? ⟨t, 0, none⟩ = some (.int .i64 (Z : Int)) ∧ w.drew.cell? ⟨t, 1, none⟩ = some (.slice (some ⟨d, 0, none⟩) (2 * Z) C) ∧ w.drew.cell? ⟨d, Z + s, none⟩ = some (.int .i64 x) from ⟨q0 ⟨w.drew, (Fr.refl _ _).drew⟩, q1 ⟨w.drew, (Fr.refl _ _).drew⟩, q2 ⟨w.drew, (Fr.refl _ _).drew⟩⟩)
  clear q0 q1 q2
  go_enter Tryz.func139, Tryz.ntmps139
  go_wp2_with (go_at_call 136; refine (HM.out _).mono ?_; rintro e wB ⟨rfl, rfl⟩)
  have F0 := hid (show Fr Nil1 w w.drew from (Fr.refl _ _).drew)
  obtain ⟨s0, s1, s2⟩ := S0.out
  go_region_with (go_at_call 76; refine (HAdd.out _ F0.out).mono ?_; rintro e w1 ⟨rfl, hT, hf⟩; have HT := hid hT; have HF := hid hf; clear hT hf)
  all_goals (
    go_wp2_with fail
    go_ret
    exact ⟨rfl, HT.out, (F0.out.mono (fun _ _ h => h.elim)).trans HF.out⟩)

set_option maxRecDepth 100000 in
set_option maxHeartbeats 2000000 in
theorem treeCounts_ok {t d h : Nat} {cs : List Int} {w : World} (H : TreeR w t d h cs) (hG : NG ≤ w.heap.size) :
    Calls Tryz.prog 82 #[.pointer (some ⟨t, 0, none⟩)] w fun e w' => ∃ v, e = .returned v ∧ RowI w' w.heap.size v cs ∧ v.ownBlock ≠ none ∧ Fr Nil1 w w' := by
  obtain ⟨ns, ex, r1, r2, r3⟩ := H.row
  have hz := p2_le H.h9
  have hz2 : 2 ≤ 2 ^ h := by have := Nat.pow_le_pow_right (n := 2) (by omega) H.h1; simpa using this
  have hrd : Rd w.drew (.slice (some ⟨d, 2 ^ h, none⟩) cs.length (2 * 2 ^ h + ex.length - 2 ^ h)) (ints' cs) := by
    refine ⟨some ⟨d, 2 ^ h, none⟩, _, by rw [ints'_length], by rw [ints'_length, r3.clen]; omega, fun _ => ⟨_, rfl, fun j u hj => ?_⟩⟩
    have hj' := (List.getElem?_eq_some_iff.1 hj).1
    rw [ints'_length, r3.clen] at hj'
    rw [ints'_get _ _ (by rw [r3.clen]; exact hj')] at hj
    rw [add_flat]
    have := (r2.cell (2 ^ h + j)).trans (ints'_append _ _ _ (by rw [r3.len]; omega))
    rw [r3.leaf j hj'] at this
    exact this.trans hj
  have HCl := hid (slicesClone_int cs ⟨d, 2 ^ h, none⟩ _ w.drew hrd (by rw [r3.clen]; omega) hG)
  rw [r3.clen] at HCl
  have c0 : w.drew.cell? ⟨t, 0, none⟩ = some (.int .i64 (2 ^ h : Nat)) := r1.cell 0
  have c1 : w.drew.cell? ⟨t, 1, none⟩ = some (.slice (some ⟨d, 0, none⟩) (2 * 2 ^ h) (2 * 2 ^ h + ex.length)) := r1.cell 1
  have HR := hid r1
  clear H hrd r1 r2 r3
  obtain ⟨C, hC⟩ : ∃ C, 2 * 2 ^ h + ex.length = C := ⟨_, rfl⟩
  have hC2 : 2 * 2 ^ h ≤ C := by omega
  rw [hC] at HCl c1 HR
  generalize hZ : 2 ^ h = Z at *
  clear hZ hC
  have i0 : (Z : Int) ≤ 2 * (Z : Int) := by omega
  have i1 : Z < C := by omega
  have i4 : ¬ (C = Z) := by omega
  have i2 : 2 * Z - Z = Z := by omega
  go_enter Tryz.func82, Tryz.ntmps82
  go_wp2_with fail
  go_region_with (go_at_call 87; refine HCl.out.mono ?_; rintro e w1 ⟨v, rfl, hv, hvb, hF⟩; have HV := hid (And.intro hv (And.intro hvb hF)); clear hv hvb hF)
  all_goals (
    go_wp2_with fail
    go_ret
    exact ⟨v, rfl, HV.out.1, HV.out.2.1, (Fr.refl _ _).drew.trans HV.out.2.2⟩)

theorem tree_close {w w1 : World} {t d h g cap : Nat} {cs ns : List Int} (H : TreeR w t d h cs) (K : HeapOK ns h cs) (hG : NG ≤ w.heap.size) (hv : w1.ownsRow w.heap.size 3 1 (.slice (some ⟨g, 0, none⟩) (2 * 2 ^ h) cap) (2 * 2 ^ h) (ints' ns)) (hf : Fr Nil1 w w1) :
    TreeR (w1.alloc (.cells #[.int .i64 (2 ^ h : Nat), .slice (some ⟨g, 0, none⟩) (2 * 2 ^ h) cap] 151)) w1.heap.size g h cs ∧ w.heap.size ≤ g := by
  rcases hv.2 with ⟨h1, _⟩ | ⟨g', cap', cur, h1, hg, hbl, q1, q2, q3, q4⟩
  · cases h1
  · injection h1 with e1 e2 e3
    injection e1 with e1
    injection e1 with e1
    subst e1
    subst e3
    have hs := hf.size
    have hcur : cur.toList = ints' ns ++ cur.toList.drop (2 * 2 ^ h) := by
      have := List.take_append_drop (2 * 2 ^ h) cur.toList
      rw [Nat.mul_one] at q4
      rw [q4] at this
      exact this.symm
    have hcl : cap = 2 * 2 ^ h + (cur.toList.drop (2 * 2 ^ h)).length := by rw [List.length_drop]; simp; omega
    refine ⟨⟨by omega, by omega, H.h9, H.h1, H.c8, ns, cur.toList.drop (2 * 2 ^ h), ?_, ?_, K⟩, hg⟩
    · rw [← hcl]
      exact Has.new w1 _ _
    · have : Has w1 g (ints' ns ++ cur.toList.drop (2 * 2 ^ h)) 3 := by
        unfold Has
        rw [← hcur, hbl]
      exact this.alloc _
set_option maxRecDepth 100000 in
set_option maxHeartbeats 2000000 in
theorem treeClone_ok {t d h : Nat} {cs : List Int} {w : World} (H : TreeR w t d h cs) (hG : NG ≤ w.heap.size) :
    Calls Tryz.prog 81 #[.pointer (some ⟨t, 0, none⟩)] w fun e w' => ∃ t' d', e = .returned (.pointer (some ⟨t', 0, none⟩)) ∧ TreeR w' t' d' h cs ∧ Fr Nil1 w w' ∧ w.heap.size ≤ t' ∧ w.heap.size ≤ d' := by
  obtain ⟨ns, ex, r1, r2, r3⟩ := H.row
  have hz := p2_le H.h9
  have HH := hid H
  have HK := hid r3
  have hrd : Rd w.drew (.slice (some ⟨d, 0, none⟩) ns.length (2 * 2 ^ h + ex.length)) (ints' ns) := by
    refine ⟨some ⟨d, 0, none⟩, _, by rw [ints'_length], by rw [ints'_length, r3.len]; omega, fun _ => ⟨_, rfl, fun j u hj => ?_⟩⟩
    have hj' := (List.getElem?_eq_some_iff.1 hj).1
    rw [ints'_length] at hj'
    rw [add_flat, Nat.zero_add]
    rw [ints'_get _ _ hj'] at hj
    exact ((r2.cell j).trans (ints'_append _ _ _ hj')).trans hj
  have HCs := hid ((slicesClone_int ns ⟨d, 0, none⟩ _ w.drew hrd (by rw [r3.len]; omega) hG).mono (fun e w1 hh => show ∃ g cap, e = .returned (.slice (some ⟨g, 0, none⟩) (2 * 2 ^ h) cap) ∧ Hid (w1.ownsRow w.heap.size 3 1 (.slice (some ⟨g, 0, none⟩) (2 * 2 ^ h) cap) (2 * 2 ^ h) (ints' ns) ∧ Fr Nil1 w.drew w1) from by
    obtain ⟨v, he, hv, hvb, hf⟩ := hh
    unfold RowI at hv
    rw [r3.len] at hv
    rcases hv.2 with ⟨h1, _⟩ | ⟨g, cap, cur, h1, r⟩
    · subst h1; exact (hvb rfl).elim
    · subst h1
      exact ⟨g, cap, he, hid ⟨hv, hf⟩⟩))
  rw [r3.len] at HCs
  have c0 : w.drew.cell? ⟨t, 0, none⟩ = some (.int .i64 (2 ^ h : Nat)) := r1.cell 0
  have c1 : w.drew.cell? ⟨t, 1, none⟩ = some (.slice (some ⟨d, 0, none⟩) (2 * 2 ^ h) (2 * 2 ^ h + ex.length)) := r1.cell 1
  have HR := hid r1
  clear H hrd r1 r2 r3
  obtain ⟨C, hC⟩ : ∃ C, 2 * 2 ^ h + ex.length = C := ⟨_, rfl⟩
  rw [hC] at HCs c1 HR
  have HZ : Hid (((2 ^ h : Nat) : Int) = 2 ^ h) := hid (by rw [Int.natCast_pow]; rfl)
  clear hC
  obtain ⟨Z, hZ⟩ : ∃ Z, 2 ^ h = Z := ⟨_, rfl⟩
  have HZZ := hid hZ
  rw [hZ] at HCs c1 HR c0
  clear hZ hz
  go_enter Tryz.func81, Tryz.ntmps81
  go_wp2_with fail
  go_region_with (go_at_call 87; refine HCs.out.mono ?_; rintro e w1 ⟨g, cap, rfl, HV⟩; have e0 : w1.cell? ⟨t, 0, none⟩ = some (.int .i64 (Z : Int)) := (show Has w1 t _ _ from (HR.out.drew).fr' HV.out.2 id).cell 0)
  all_goals (
    go_wp2_with fail
    go_ret
    have hf := (Fr.refl Nil1 w).drew.trans HV.out.2
    have hv := HV.out.1
    rw [← HZZ.out] at hv ⊢
    have hc := tree_close HH.out HK.out hG hv hf
    exact ⟨_, g, rfl, hc.1, hf.alloc _, hf.size, hc.2⟩)

/-- The way up from a segment. -/
structure AheadI (cs : List Int) (h s i : Nat) (n : Int) : Prop where
  ex : ∃ d e j, e + d = h ∧ j < 2 ^ e ∧ i = 2 ^ e + j ∧ n = preI cs s - preI cs (j * 2 ^ d)
theorem AheadI.start {cs : List Int} {h s : Nat} (hs : s < 2 ^ h) : AheadI cs h s (2 ^ h + s) 0 := ⟨0, h, s, by omega, hs, rfl, by rw [Nat.pow_zero, Nat.mul_one]; omega⟩
theorem AheadI.step {ns cs : List Int} {h s i : Nat} {n : Int} (K : HeapOK ns h cs) (H : AheadI cs h s i n) (hi : 1 < i) : (i % 2 = 1 → AheadI cs h s (i / 2) (n + ns.getD (i - 1) 0)) ∧ (i % 2 = 0 → AheadI cs h s (i / 2) n) ∧ i < 2 * 2 ^ h := by
  obtain ⟨d, e, j, he, hj, rfl, hn⟩ := H.ex
  cases e with
  | zero => simp at hj; subst hj; simp at hi
  | succ e =>
    have hp : 2 ^ (e + 1) = 2 * 2 ^ e := by rw [Nat.pow_succ]; omega
    have hle : 2 ^ (e + 1) ≤ 2 ^ h := Nat.pow_le_pow_right (by omega) (by omega)
    refine ⟨fun ho => ⟨d + 1, e, j / 2, by omega, by omega, by omega, ?_⟩, fun ho => ⟨d + 1, e, j / 2, by omega, by omega, by omega, ?_⟩, by omega⟩
    · have hl := K.at d (e + 1) (j - 1) he (by omega)
      rw [show 2 ^ (e + 1) + j - 1 = 2 ^ (e + 1) + (j - 1) by omega, hl, hn, show j - 1 + 1 = j by omega, show j / 2 * 2 ^ (d + 1) = (j - 1) * 2 ^ d by rw [Nat.pow_succ, Nat.mul_comm (2 ^ d) 2, ← Nat.mul_assoc]; congr 1; omega]
      omega
    · rw [hn, show j / 2 * 2 ^ (d + 1) = j * 2 ^ d by rw [Nat.pow_succ, Nat.mul_comm (2 ^ d) 2, ← Nat.mul_assoc]; congr 1; omega]
theorem AheadI.stop {cs : List Int} {h s i : Nat} {n : Int} (H : AheadI cs h s i n) (hi : ¬ 1 < i) : n = preI cs s := by
  obtain ⟨d, e, j, he, hj, rfl, hn⟩ := H.ex
  have hp : 0 < 2 ^ e := Nat.pow_pos (by omega)
  have hj0 : j = 0 := by omega
  subst hj0
  rw [hn, Nat.zero_mul, preI_zero]
  omega
theorem AheadI.bound {cs : List Int} {h s i : Nat} {n : Int} (hl : cs.length = 2 ^ h) (h8 : ∀ x ∈ cs, 0 ≤ x ∧ x ≤ 8) (hs : s ≤ 2 ^ h) (h9 : h ≤ 9) (H : AheadI cs h s i n) : -4096 ≤ n ∧ n ≤ 4096 := by
  obtain ⟨d, e, j, he, hj, rfl, hn⟩ := H.ex
  have hz := p2_le h9
  have a := preI_mono cs h8 0 s (by omega)
  have hle : j * 2 ^ d ≤ 2 ^ h := by
    have : j * 2 ^ d ≤ 2 ^ e * 2 ^ d := Nat.mul_le_mul_right _ (by omega)
    rwa [← Nat.pow_add, he] at this
  have b := preI_mono cs h8 0 (j * 2 ^ d) (by omega)
  rw [preI_zero] at a b
  rw [Nat.zero_add] at a b
  omega
end Go.Proofs.YtechphliifginaaGreatDoor
