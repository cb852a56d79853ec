/- bulk.Sorted, bulk.Make. -/
import Derived.Test.YtechphliifginaaGreatDoorBM
import Derived.Test.YtechphliifginaaGreatDoorSg
import Derived.Test.YtechphliifginaaGreatDoorGW
import Derived.Sort.OwnSortedInts
set_option linter.unusedVariables false
set_option linter.unusedSimpArgs false
namespace Go.Proofs.YtechphliifginaaGreatDoor
open Go.RowKit

section
open Go.Lib
theorem compactTo_up {d : Array Int} (hs : ∀ i j, i ≤ j → j < d.size → d[i]! ≤ d[j]!) : ∀ m, m ≤ d.size → Up (compactUpTo d m) ∧ (∀ y, y ∈ compactUpTo d m ↔ ∃ i, i < m ∧ d[i]! = y)
  | 0, _ => ⟨by unfold compactUpTo; simp [Up], fun y => by unfold compactUpTo; simp⟩
  | m + 1, hm => by
    obtain ⟨h1, h2⟩ := compactTo_up hs m (by omega)
    rw [compactUpTo_succ]
    by_cases hk : keeps d m = true
    · rw [if_pos hk]
      constructor
      · refine List.pairwise_append.2 ⟨h1, List.pairwise_singleton _ _, fun a ha b hb => ?_⟩
        rw [List.mem_singleton.1 hb]
        obtain ⟨i, hi, rfl⟩ := (h2 a).1 ha
        have l1 := hs i (m - 1) (by omega) (by omega)
        have l2 := hs (m - 1) m (by omega) (by omega)
        rcases Int.lt_or_eq_of_le l2 with g | g
        · omega
        · rw [keeps_neg (by omega) g.symm] at hk
          cases hk
      · intro y
        rw [List.mem_append, h2 y, List.mem_singleton]
        constructor
        · rintro (⟨i, hi, e⟩ | e)
          · exact ⟨i, by omega, e⟩
          · exact ⟨m, by omega, e.symm⟩
        · rintro ⟨i, hi, e⟩
          rcases Nat.lt_or_ge i m with g | g
          · exact .inl ⟨i, g, e⟩
          · obtain rfl : i = m := by omega
            exact .inr e.symm
    · rw [if_neg hk, List.append_nil]
      refine ⟨h1, fun y => ?_⟩
      rw [h2 y]
      constructor
      · rintro ⟨i, hi, e⟩
        exact ⟨i, by omega, e⟩
      · rintro ⟨i, hi, e⟩
        rcases Nat.lt_or_ge i m with g | g
        · exact ⟨i, g, e⟩
        · obtain rfl : i = m := by omega
          have hm0 : 0 < i := by
            rcases Nat.eq_zero_or_pos i with h0 | h0
            · rw [h0, keeps_lt_one d 0 (by omega)] at hk; exact absurd rfl hk
            · exact h0
          have : d[i]! = d[i - 1]! := by
            cases hd : decide (d[i]! = d[i - 1]!) with
            | true => exact of_decide_eq_true hd
            | false => exact absurd (keeps_pos (of_decide_eq_false hd)) hk
          exact ⟨i - 1, by omega, by rw [← this]; exact e⟩
/-- Keys, rising, each once. -/
def srtL (l : List Int) : List Int := compact (l.mergeSort fun x y => decide (x ≤ y))
theorem srt_spec (l : List Int) : Up (srtL l) ∧ (∀ y, y ∈ srtL l ↔ y ∈ l) ∧ (srtL l).length ≤ l.length := by
  obtain ⟨zs, hz⟩ : ∃ zs, (l.mergeSort fun x y => decide (x ≤ y)) = zs := ⟨_, rfl⟩
  have hp : zs.Perm l := hz ▸ List.mergeSort_perm l _
  have hsd : zs.Pairwise (fun a b => decide (a ≤ b) = true) := hz ▸ List.pairwise_mergeSort (fun a b c h1 h2 => decide_eq_true (by have := of_decide_eq_true h1; have := of_decide_eq_true h2; omega)) (fun a b => by simp; omega) l
  have hs : ∀ i j, i ≤ j → j < zs.toArray.size → zs.toArray[i]! ≤ zs.toArray[j]! := by
    intro i j hij hj
    rw [List.size_toArray] at hj
    rw [getElem!_pos zs.toArray i (by simp; omega), getElem!_pos zs.toArray j (by simp; omega)]
    simp only [List.getElem_toArray]
    rcases Nat.eq_or_lt_of_le hij with e | e
    · subst e; exact Int.le_refl _
    · exact of_decide_eq_true (List.pairwise_iff_getElem.1 hsd i j (by omega) hj e)
  obtain ⟨h1, h2⟩ := compactTo_up hs zs.length (by simp)
  unfold srtL
  rw [hz]
  refine ⟨h1, fun y => ?_, ?_⟩
  · rw [← hp.mem_iff]
    show y ∈ compactUpTo zs.toArray zs.length ↔ _
    rw [h2 y]
    constructor
    · rintro ⟨i, hi, rfl⟩
      rw [getElem!_pos zs.toArray i (by simp; omega)]
      simp only [List.getElem_toArray]
      exact List.getElem_mem hi
    · intro h
      obtain ⟨i, hi, e⟩ := List.getElem_of_mem h
      exact ⟨i, hi, by rw [getElem!_pos zs.toArray i (by simp; omega)]; simpa using e⟩
  · rw [← hp.length_eq]
    show (compactUpTo zs.toArray zs.length).length ≤ _
    unfold compactUpTo
    rw [List.length_map]
    exact Nat.le_trans (List.length_filter_le _ _) (by simp)
end
theorem row_addr {w : World} {base : Nat} {v : Value} {xs : List Int} (h : RowI w base v xs) (hn : v.ownBlock ≠ none) : ∃ g cap, v = .slice (some ⟨g, 0, none⟩) xs.length cap := by
  rcases h.2 with ⟨h1, h2⟩ | ⟨g, cap, cur, h1, _⟩
  · rw [h1] at hn; exact absurd rfl hn
  · exact ⟨g, cap, h1⟩
set_option maxRecDepth 100000 in
theorem slicesClone_nil (c : Nat) (w : World) : Calls Tryz.prog 87 #[.slice none 0 c] w fun e w' => e = .returned (.slice none 0 0) ∧ w = w' := by
  have he : (binOp .eql 30 (.slice none 0 c) (.slice none 0 0)).run Tryz.prog w = .ok (.bool true) w := rfl
  go_enter Tryz.func87, Tryz.ntmps87
  go_wp2_with fail
  go_ret
  exact ⟨rfl, rfl⟩
theorem bulkSorted_nil (c : Nat) (w : World) : Calls Tryz.prog 67 #[.slice none 0 c] w fun e w' => e = .returned (.slice none 0 0) ∧ w = w' := by
  go_enter Tryz.func67, Tryz.ntmps67
  go_wp2_with (first
    | (go_at_call 127; (with_reducible refine (Tryz.slices_Compact_int_empty none 0 _).mono ?_); rintro e w2 ⟨rfl, rfl⟩)
    | (go_at_call 126; (with_reducible refine (Tryz.slices_Sort_int_none none 0 _).mono ?_); rintro e w2 ⟨rfl, rfl⟩)
    | (go_at_call 87; (with_reducible refine (slicesClone_nil c _).mono ?_); rintro e w1 ⟨rfl, rfl⟩))
  go_ret
  exact ⟨rfl, rfl⟩
/-- A row that one owns is sorted. -/
theorem sorted_own {w : World} {base g cap : Nat} {l : List Int} (h : RowI w base (.slice (some ⟨g, 0, none⟩) l.length cap) l) (hl : l.length ≤ 5000) : Calls Tryz.prog 126 #[.slice (some ⟨g, 0, none⟩) l.length cap] w fun e w' => e = .returned (.tuple #[]) ∧ Hid (w.grownBy w' (some g) ∧ RowI w' base (.slice (some ⟨g, 0, none⟩) l.length cap) (l.mergeSort fun x y => decide (x ≤ y))) := by
  obtain ⟨cur, hb, hbase, h1, h2, h3, h4⟩ : ∃ cur, w.heap[g]? = some (.cells cur 3 (0, 0)) ∧ base ≤ g ∧ l.length ≤ cap ∧ cap ≤ maxLen ∧ cur.size = cap * 1 ∧ cur.toList.take (l.length * 1) = l.map (Value.int .i64) := by
    rcases h.2 with ⟨h0, _⟩ | ⟨g', cap', cur, hv', hg, hb, r1, r2, r3, r4⟩
    · cases h0
    · injection hv' with e1 e2 e3
      injection e1 with e1
      injection e1 with e1
      subst e1
      subst e3
      exact ⟨cur, hb, hg, r1, r2, r3, r4⟩
  have hp := (List.mergeSort_perm l fun x y => decide (x ≤ y)).length_eq
  refine (Tryz.slices_Sort_int g 0 cap l w (holds_of_blockI hb (by rw [Nat.mul_one] at h4; exact h4)) (Array.getElem?_eq_some_iff.1 hb).1 (by omega)).mono ?_
  rintro e w' ⟨rfl, n, os, rfl⟩
  refine ⟨rfl, hid ⟨grownBy_sortedI _, ?_⟩⟩
  have := ownsRow_sortedI (n := n) (os := os) (ss := l) hp hbase hb h1 h2 h3
  unfold RowI
  rw [hp]
  exact this
theorem compact_own {w : World} {base g cap : Nat} {l : List Int} (h : RowI w base (.slice (some ⟨g, 0, none⟩) l.length cap) l) (hl : l.length ≤ 5000) : Calls Tryz.prog 127 #[.slice (some ⟨g, 0, none⟩) l.length cap] w fun e w' => ∃ m, e = .returned (.slice (some ⟨g, 0, none⟩) m cap) ∧ Hid (w.grownBy w' (some g) ∧ Rd w' (.slice (some ⟨g, 0, none⟩) m cap) (ints' (Lib.compact l))) := by
  obtain ⟨cur, hb, hbase, h1, h2, h3, h4⟩ : ∃ cur, w.heap[g]? = some (.cells cur 3 (0, 0)) ∧ base ≤ g ∧ l.length ≤ cap ∧ cap ≤ maxLen ∧ cur.size = cap * 1 ∧ cur.toList.take (l.length * 1) = l.map (Value.int .i64) := by
    rcases h.2 with ⟨h0, _⟩ | ⟨g', cap', cur, hv', hg, hb, r1, r2, r3, r4⟩
    · cases h0
    · injection hv' with e1 e2 e3
      injection e1 with e1
      injection e1 with e1
      subst e1
      subst e3
      exact ⟨cur, hb, hg, r1, r2, r3, r4⟩
  have hcl : (Lib.compact l).length ≤ l.length := by
    show (Lib.compactUpTo l.toArray l.length).length ≤ _
    unfold Lib.compactUpTo
    rw [List.length_map]
    exact Nat.le_trans (List.length_filter_le _ _) (by simp)
  obtain ⟨cs, hcs⟩ : ∃ cs, Lib.compact l = cs := ⟨_, rfl⟩
  have hC := Tryz.slices_Compact_int g 0 cap l w (holds_of_blockI hb (by rw [Nat.mul_one] at h4; exact h4)) (by omega) h1
  rw [hcs] at hC hcl ⊢
  refine hC.mono ?_
  rintro e w' ⟨rfl, q, hw⟩
  have hp : (cs ++ List.replicate (l.length - cs.length) 0).length = l.length := by simp; omega
  have hg0 : ∀ W : World, Go.Sort.grow W #[] = W := fun W => by unfold Go.Sort.grow; simp
  have g1 := grownBy_sortedI (w := w) (g := g) (n := q) (os := #[]) (cs ++ List.replicate (l.length - cs.length) 0).toArray
  have g2 := ownsRow_sortedI (n := q) (os := #[]) (ss := l) hp hbase hb h1 h2 h3
  rw [hg0] at g1 g2
  erw [← hw] at g1 g2
  refine ⟨cs.length, rfl, hid ⟨g1, ?_⟩⟩
  have hR : RowI w' base (.slice (some ⟨g, 0, none⟩) l.length cap) (cs ++ List.replicate (l.length - cs.length) 0) := by
    unfold RowI
    rw [hp]
    exact g2
  obtain ⟨A', c', e, _, hA⟩ := hR.rd (by omega)
  rw [ints'_length, hp] at e hA
  injection e with e1 e2 e3
  subst e1
  refine ⟨some ⟨g, 0, none⟩, cap, by rw [ints'_length], by rw [ints'_length]; omega, fun hpos => ?_⟩
  rw [ints'_length] at hpos
  obtain ⟨ad, ea, hc⟩ := hA (by omega)
  refine ⟨ad, ea, fun j u hj => hc j u ?_⟩
  have hjl : j < cs.length := by have := (List.getElem?_eq_some_iff.1 hj).1; rwa [ints'_length] at this
  rw [← hj]
  unfold ints'
  rw [List.map_append, List.getElem?_append_left (by rw [List.length_map]; exact hjl)]
set_option maxRecDepth 100000 in
theorem bulkSorted_any (l : List Int) (hl : l.length ≤ 5000) {u : Value} {w : World} (hu : Rd w u (ints' l)) (hG : NG ≤ w.heap.size) : Calls Tryz.prog 67 #[u] w fun e w' => ∃ v, e = .returned v ∧ Hid (Rd w' v (ints' (srtL l)) ∧ Fr Nil1 w w') := by
  have hu0 := hu
  obtain ⟨A, c, rfl, hb, hA⟩ := hu
  rw [ints'_length] at hb hA hu0 ⊢
  cases A with
  | none =>
    have hl0 : l.length = 0 := by
      rcases Nat.eq_zero_or_pos l.length with h | h
      · exact h
      · obtain ⟨ad, e, _⟩ := hA h; cases e
    have hln := List.eq_nil_of_length_eq_zero hl0
    subst hln
    refine (bulkSorted_nil c w).mono ?_
    rintro e w' ⟨rfl, rfl⟩
    have hs0 : srtL [] = [] := List.eq_nil_of_length_eq_zero (by have := (srt_spec []).2.2; simpa using this)
    rw [hs0]
    exact ⟨_, rfl, hid ⟨⟨none, 0, rfl, by simp [ints'], fun h => by simp [ints'] at h⟩, Fr.refl _ _⟩⟩
  | some ad =>
    have HCl := hid (slicesClone_int l ad c w hu0 (by omega) hG)
    have HL := hid hl
    clear hA hu0 hb hl
    go_enter Tryz.func67, Tryz.ntmps67
    go_wp2_with (first
      | (go_at_call 127; (with_reducible refine HCo.out.mono ?_); rintro e w3 ⟨m, rfl, H3⟩)
      | (go_at_call 126; (with_reducible refine HSo.out.mono ?_); rintro e w2 ⟨rfl, H2⟩; have HCo := hid (show Calls Tryz.prog 127 #[.slice (some ⟨g, 0, none⟩) l.length cap] w2 _ from by have := compact_own (l := l.mergeSort fun x y => decide (x ≤ y)) (by rw [(List.mergeSort_perm l fun x y => decide (x ≤ y)).length_eq]; exact H2.out.2) (by rw [(List.mergeSort_perm l fun x y => decide (x ≤ y)).length_eq]; exact HL.out); rw [(List.mergeSort_perm l fun x y => decide (x ≤ y)).length_eq] at this; exact this))
      | (go_at_call 87; (with_reducible refine HCl.out.mono ?_); rintro e w1 ⟨v1, rfl, hr1, hn1, hf1⟩; obtain ⟨g, cap, rfl⟩ := row_addr hr1 hn1; have H1 := hid (And.intro hr1 hf1); have HSo := hid (sorted_own hr1 HL.out); clear hr1 hn1 hf1))
    go_ret
    have hgb := own_block H1.out.1
    exact ⟨_, rfl, hid ⟨H3.out.2, (H1.out.2.grown H2.out.1 (fun k e => by cases e; have := hgb g rfl; omega) (fun k e h => by cases e; have := hgb g rfl; omega)).grown H3.out.1 (fun k e => by cases e; have := hgb g rfl; omega) (fun k e h => by cases e; have := hgb g rfl; omega)⟩⟩
end Go.Proofs.YtechphliifginaaGreatDoor
