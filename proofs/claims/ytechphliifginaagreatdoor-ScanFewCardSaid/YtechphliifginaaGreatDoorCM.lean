/- The document's answer for scan. -/
import Derived.Test.YtechphliifginaaGreatDoorCL
import Derived.Test.YtechphliifginaaGreatDoorCY
import Derived.Test.YtechphliifginaaGreatDoorC4
set_option linter.unusedVariables false
set_option linter.unusedSimpArgs false
namespace Go.Proofs.YtechphliifginaaGreatDoor
open Go.RowKit

theorem filter_btw {l : List Int} (H : Up l) (lo hi : Int) : l.filter (fun x => decide (lo ≤ x) && decide (x < hi)) = btwL l lo hi := by
  refine up_ext (List.Pairwise.filter _ H) (List.Pairwise.sublist ((List.drop_sublist _ _).trans (List.take_sublist _ _)) H) (fun y => ?_)
  rw [List.mem_filter, mem_btwL H]
  simp
set_option maxRecDepth 100000 in
set_option maxHeartbeats 2000000 in
theorem refBetween_any (l : List Int) (hn : l.length ≤ 5000) (lo hi : Int) {u : Value} {w : World} (hu : Rd w u (ints' l)) (hg : GW w) :
    Calls Tryz.prog 47 #[u, .int .i64 lo, .int .i64 hi] w fun e w' => ∃ v : Value, e = .returned v ∧ Hid (ApJ w (l.filter fun x => decide (lo ≤ x) && decide (x < hi)) v w') := by
  obtain ⟨A, c, rfl, hb, hA⟩ := hu
  rw [ints'_length] at hb hA ⊢
  have HA := hid hA
  have HG := hid hg.size
  have HS := hid (ApJ.start w)
  have HB := hid hb
  have HN := hid hn
  clear hA hb hg hn
  go_enter Tryz.func47, Tryz.ntmps47
  go_wp2_with fail
  obtain ⟨W0, hW0⟩ : ∃ W0, w.alloc (.cells #[] 3) = W0 := ⟨_, rfl⟩
  have HS0 : Hid (ApJ w [] (.slice (some ⟨w.heap.size, 0, none⟩) 0 0) W0) := hW0 ▸ HS
  rw [hW0]
  clear hW0 HS
  go_loopw [7, 8] (fun v i wr => ∃ k : Nat, k ≤ l.length ∧ i = .int .i64 k ∧ Hid (ApJ w ((l.take k).filter fun x => decide (lo ≤ x) && decide (x < hi)) v wr)) (fun _ i _ => (l.length - intOf i).toNat)
  case atStart => exact ⟨0, by omega, rfl, HS0⟩
  case round =>
    obtain ⟨k, hk, rfl, HW⟩ := hrel
    by_cases hlt : k < l.length
    · have hltI : (k : Int) < l.length := by omega
      have hkb : (k : Int) < 5000 := by have := HN.out; omega
      obtain ⟨ad, rfl, hc⟩ := HA.out (by omega)
      have c1 : wr.cell? (ad.add k) = some (.int .i64 (l.getD k 0)) := HW.out.fr.cell (hc k _ (ints'_get l k (by omega))) id
      have HT := hid (take_get hlt)
      have hll : ((l.take k).filter fun x => decide (lo ≤ x) && decide (x < hi)).length ≤ k := Nat.le_trans (List.length_filter_le _ _) (by rw [List.length_take]; omega)
      have HLl := hid hll
      clear hc hll
      generalize l.getD k 0 = x at *
      by_cases h1 : lo ≤ x
      · by_cases h2 : x < hi
        · have HX := hid (show (decide (lo ≤ x) && decide (x < hi)) = true by simp [h1, h2])
          go_wp2_with (at_builtin; refine append_rd rfl (.tmp 30) (.tmp 35) rfl rfl (HW.out.row.new ((Fr.refl _ _).alloc _)) rfl (rd_one wr _) (by rw [List.length_singleton]; have := HLl.out; omega) (by have := HW.out.fr.size; simp; omega) ?_; intro v' w' h1 h2 h3; have H2 := hid (And.intro h1 h2); clear h1 h2 h3)
          exact ⟨⟨k + 1, by omega, by go_num, hid (by rw [HT.out, List.filter_append, List.filter_cons, HX.out]; exact (HW.out.new ((Fr.refl _ _).alloc _)).step HG.out H2.out.1 H2.out.2)⟩, by simp [intOf]; omega⟩
        · have HX := hid (show (decide (lo ≤ x) && decide (x < hi)) = false by simp [h2])
          go_wp2_with fail
          exact ⟨⟨k + 1, by omega, by go_num, hid (by rw [HT.out, List.filter_append, List.filter_cons, HX.out]; simpa using HW.out)⟩, by simp [intOf]; omega⟩
      · have HX := hid (show (decide (lo ≤ x) && decide (x < hi)) = false by simp [h1])
        go_wp2_with fail
        exact ⟨⟨k + 1, by omega, by go_num, hid (by rw [HT.out, List.filter_append, List.filter_cons, HX.out]; simpa using HW.out)⟩, by simp [intOf]; omega⟩
    · have HK := hid (show k = l.length by omega)
      have hltI : ¬ (k : Int) < l.length := by omega
      clear hk hlt
      go_wp2_with fail
      go_ret
      exact ⟨_, rfl, hid (by have := HW.out; rwa [HK.out, List.take_of_length_le (Nat.le_refl _)] at this)⟩
theorem filter_from {l : List Int} (H : Up l) (lo : Int) : l.filter (fun x => decide (lo ≤ x)) = l.drop (lessC l lo) := by
  refine up_ext (List.Pairwise.filter _ H) (List.Pairwise.sublist (List.drop_sublist _ _) H) (fun y => ?_)
  rw [List.mem_filter]
  constructor
  · rintro ⟨h1, h2⟩
    obtain ⟨i, hlt, e⟩ := List.getElem_of_mem h1
    have hg : l[i]? = some y := List.getElem?_eq_some_iff.2 ⟨hlt, e⟩
    have := lessC_le_of H hg (of_decide_eq_true h2)
    refine List.mem_of_getElem? (i := i - lessC l lo) ?_
    rw [List.getElem?_drop, show lessC l lo + (i - lessC l lo) = i by omega]
    exact hg
  · intro h
    obtain ⟨i, hi1, hi2⟩ := mem_drop_get h
    exact ⟨List.mem_of_getElem? hi2, decide_eq_true (lessC_ge H hi2 hi1)⟩
set_option maxRecDepth 100000 in
set_option maxHeartbeats 4000000 in
theorem refTake14_any (l : List Int) (hn : l.length ≤ 5000) (lo n : Int) (hn0 : 0 ≤ n) {u : Value} {w : World} (hu : Rd w u (ints' l)) (hg : GW w) :
    Calls Tryz.prog 36 #[u, .int .i64 lo, .int .i64 n] w fun e w' => ∃ v : Value, e = .returned v ∧ Hid (ApJ w ((l.filter fun x => decide (lo ≤ x)).take n.toNat) v w') := by
  obtain ⟨A, c, rfl, hb, hA⟩ := hu
  rw [ints'_length] at hb hA ⊢
  have HA := hid hA
  have HG := hid hg.size
  have HS := hid (ApJ.start w)
  have HB := hid hb
  have HN := hid hn
  clear hA hb hg hn
  go_enter Tryz.func36, Tryz.ntmps36
  go_wp2_with fail
  obtain ⟨W0, hW0⟩ : ∃ W0, w.alloc (.cells #[] 3) = W0 := ⟨_, rfl⟩
  have HS0 : Hid (ApJ w [] (.slice (some ⟨w.heap.size, 0, none⟩) 0 0) W0) := hW0 ▸ HS
  rw [hW0]
  clear hW0 HS
  go_loopw [7, 8] (fun v i wr => ∃ k : Nat, k ≤ l.length ∧ i = .int .i64 k ∧ Hid (ApJ w (((l.take k).filter fun x => decide (lo ≤ x)).take n.toNat) v wr)) (fun _ i _ => (l.length - intOf i).toNat)
  case atStart => exact ⟨0, by omega, rfl, hid (by simpa using HS0.out)⟩
  case round =>
    obtain ⟨k, hk, rfl, HW⟩ := hrel
    by_cases hlt : k < l.length
    · have hltI : (k : Int) < l.length := by omega
      have hkb : (k : Int) < 5000 := by have := HN.out; omega
      obtain ⟨ad, rfl, hc⟩ := HA.out (by omega)
      have c1 : wr.cell? (ad.add k) = some (.int .i64 (l.getD k 0)) := HW.out.fr.cell (hc k _ (ints'_get l k (by omega))) id
      have HT := hid (take_get hlt)
      obtain ⟨fl, hfl⟩ : ∃ fl, ((l.take k).filter fun x => decide (lo ≤ x)) = fl := ⟨_, rfl⟩
      have hll : fl.length ≤ k := by rw [← hfl]; exact Nat.le_trans (List.length_filter_le _ _) (by rw [List.length_take]; omega)
      have HLl := hid hll
      rw [hfl] at HW
      clear hc hll
      have HW0 := hid (show fl = ((l.take k).filter fun x => decide (lo ≤ x)) from hfl.symm)
      clear hfl
      generalize l.getD k 0 = x at *
      have hlen : ((fl.take n.toNat).length : Int) = min n fl.length := by rw [List.length_take]; omega
      obtain ⟨A', c', hv⟩ := HW.out.row.slice
      subst hv
      obtain ⟨m, hm⟩ : ∃ m, (fl.take n.toNat).length = m := ⟨_, rfl⟩
      rw [hm] at hlen HW ⊢
      have HM := hid hm
      by_cases h1 : lo ≤ x
      · by_cases h2 : (m : Int) < n
        · have HX := hid (show decide (lo ≤ x) = true by simp [h1])
          have hfn : fl.length < n.toNat := by omega
          have HT1 := hid (show fl.take n.toNat = fl from List.take_of_length_le (by omega))
          have HT2 := hid (show (fl ++ [x]).take n.toNat = fl ++ [x] from List.take_of_length_le (by rw [List.length_append]; simp; omega))
          have hmk : m ≤ 5000 := by have := HLl.out; omega
          clear hm hlen
          go_wp2_with (at_builtin; refine append_rd rfl (.tmp 28) (.tmp 33) rfl rfl (HW.out.row.new ((Fr.refl _ _).alloc _)) rfl (rd_one wr _) (by rw [List.length_singleton, HM.out]; omega) (by have := HW.out.fr.size; simp; omega) ?_; intro v' w' h1 h2 h3; have H2 := hid (And.intro h1 h2); clear h1 h2 h3)
          exact ⟨⟨k + 1, by omega, by go_num, hid (by rw [HT.out, List.filter_append, List.filter_cons, HX.out, ← HW0.out]; simp only [if_true, List.filter_nil]; rw [HT2.out]; have := (HW.out.new ((Fr.refl _ _).alloc _)).step HG.out H2.out.1 H2.out.2; rwa [HT1.out] at this)⟩, by simp [intOf]; omega⟩
        · have HX := hid (show decide (lo ≤ x) = true by simp [h1])
          have HT2 := hid (show (fl ++ [x]).take n.toNat = fl.take n.toNat from List.take_append_of_le_length (by omega))
          clear hm hlen
          go_wp2_with fail
          exact ⟨⟨k + 1, by omega, by go_num, hid (by rw [HT.out, List.filter_append, List.filter_cons, HX.out, ← HW0.out]; simp only [if_true, List.filter_nil]; rw [HT2.out]; exact HW.out)⟩, by simp [intOf]; omega⟩
      · have HX := hid (show decide (lo ≤ x) = false by simp [h1])
        clear hm hlen
        go_wp2_with fail
        exact ⟨⟨k + 1, by omega, by go_num, hid (by rw [HT.out, List.filter_append, List.filter_cons, HX.out, ← HW0.out]; simpa using HW.out)⟩, by simp [intOf]; omega⟩
    · have HK := hid (show k = l.length by omega)
      have hltI : ¬ (k : Int) < l.length := by omega
      clear hk hlt
      go_wp2_with fail
      go_ret
      exact ⟨_, rfl, hid (by have := HW.out; rwa [HK.out, List.take_of_length_le (Nat.le_refl _)] at this)⟩
end Go.Proofs.YtechphliifginaaGreatDoor
