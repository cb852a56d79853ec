/- The document's Put and Drop of a rising row of keys. -/
import Derived.Test.YtmbkmojekpkfhaaGreatDoorEE
set_option linter.unusedVariables false
set_option linter.unusedSimpArgs false
namespace Go.Proofs.YtmbkmojekpkfhaaGreatDoor
open Go.RowKit

theorem drop_get {l : List Int} {k : Nat} (h : k < l.length) : l.drop k = l.getD k 0 :: l.drop (k + 1) := by
  rw [List.drop_eq_getElem_cons h, List.getD_eq_getElem?_getD, List.getElem?_eq_getElem h]; rfl
theorem take_get {l : List Int} {k : Nat} (h : k < l.length) : l.take (k + 1) = l.take k ++ [l.getD k 0] := by
  rw [List.take_succ_eq_append_getElem h, List.getD_eq_getElem?_getD, List.getElem?_eq_getElem h]; rfl
theorem get_some {l : List Int} {k : Nat} (h : k < l.length) : l[k]? = some (l.getD k 0) := by
  rw [List.getD_eq_getElem?_getD, List.getElem?_eq_getElem h]; rfl
theorem filter_delA {l : List Int} (H : Up l) (key : Int) : l.filter (fun x => x != key) = delA l key := by
  refine up_ext (List.Pairwise.filter _ H) (up_delA H key) (fun y => ?_)
  rw [List.mem_filter, mem_delA H, bne_iff_ne]
/-- Behind some rounds of Put. -/
inductive PutI (l : List Int) (key : Int) (k : Nat) : Bool → List Int → Prop
  | no (hl : ∀ i x, l[i]? = some x → i < k → x < key) : PutI l key k false (l.take k)
  | yes {out : List Int} (h : out ++ l.drop k = putA l key) : PutI l key k true out
section
variable {l : List Int} {key : Int} {k : Nat}
theorem put_at (H : Up l) (hk : k ≤ l.length) (h1 : ∀ i x, l[i]? = some x → i < k → x < key) (h2 : ∀ x, l[k]? = some x → key < x) : putA l key = l.take k ++ key :: l.drop k := by
  have hc : lessC l key = k := lessC_uniq H hk h1 (fun i x hi hki => by
    rcases Nat.lt_or_ge k l.length with g | g
    · have h3 := h2 _ (get_some g)
      rcases Nat.eq_or_lt_of_le hki with e | e
      · subst e; rw [get_some g] at hi; cases hi; omega
      · have := (up_get H (get_some g) hi).2 e; omega
    · have := (List.getElem?_eq_some_iff.1 hi).1; omega)
  have hm : key ∉ l := fun hm => by
    have := (mem_lessC H).1 hm
    rw [hc] at this
    have := h2 _ this
    omega
  unfold putA putK
  rw [if_neg hm, hc]
theorem PutI.start (l : List Int) (key : Int) : PutI l key 0 false [] := .no (fun i x _ h => absurd h (Nat.not_lt_zero _))
theorem PutI.go {out : List Int} (h : PutI l key k true out) (hk : k < l.length) : PutI l key (k + 1) true (out ++ [l.getD k 0]) := by
  cases h with
  | yes h => exact .yes (by rw [List.append_assoc, List.singleton_append, ← drop_get hk]; exact h)
theorem PutI.stay {out : List Int} (h : PutI l key k false out) (hk : k < l.length) (hx : l.getD k 0 < key) : PutI l key (k + 1) false (out ++ [l.getD k 0]) := by
  cases h with
  | no hl =>
    rw [← take_get hk]
    exact .no (fun i x hi hik => by
      rcases Nat.lt_or_ge i k with g | g
      · exact hl i x hi g
      · obtain rfl : i = k := by omega
        rw [get_some hk] at hi; cases hi; exact hx)
theorem PutI.same {out : List Int} (h : PutI l key k false out) (hk : k < l.length) (hx : l.getD k 0 = key) : PutI l key (k + 1) true (out ++ [l.getD k 0]) := by
  cases h with
  | no hl =>
    refine .yes ?_
    rw [List.append_assoc, List.singleton_append, ← drop_get hk, List.take_append_drop]
    unfold putA
    rw [if_pos (hx ▸ List.mem_of_getElem? (get_some hk))]
theorem PutI.here {out : List Int} (h : PutI l key k false out) (H : Up l) (hk : k < l.length) (hx : key < l.getD k 0) : PutI l key (k + 1) true ((out ++ [key]) ++ [l.getD k 0]) := by
  cases h with
  | no hl =>
    refine .yes ?_
    rw [put_at H (Nat.le_of_lt hk) hl (fun x hi => by rw [get_some hk] at hi; cases hi; exact hx), List.append_assoc, List.append_assoc, List.singleton_append, List.singleton_append, ← drop_get hk]
theorem PutI.doneN {out : List Int} (h : PutI l key l.length false out) (H : Up l) : out ++ [key] = putA l key := by
  cases h with
  | no hl =>
    rw [put_at H (Nat.le_refl _) hl (fun x hi => by rw [List.getElem?_eq_none (Nat.le_refl _)] at hi; cases hi), List.drop_length]
theorem PutI.doneY {out : List Int} (h : PutI l key l.length true out) : out = putA l key := by
  cases h with
  | yes h => rwa [List.drop_length, List.append_nil] at h
end
set_option maxRecDepth 100000 in
set_option maxHeartbeats 2000000 in
theorem refDrop_any (l : List Int) (hn : l.length ≤ 5000) (key : Int) {u : Value} {w : World} (hu : Rd w u (ints' l)) (hg : GW w) :
    Calls Tryz.prog 69 #[u, .int .i64 key] w fun e w' => ∃ v : Value, e = .returned v ∧ Hid (ApJ w (l.filter fun x => x != key) v w') := by
  obtain ⟨A, c, rfl, hb, hA⟩ := hu
  rw [ints'_length] at hb hA ⊢
  have HA := hid hA
  have HG := hid hg.size
  have HS := hid (ApJ.start w)
  have HB := hid hb
  have HN := hid hn
  clear hA hb hg hn
  go_enter Tryz.func69, Tryz.ntmps69
  go_wp2_with fail
  obtain ⟨W0, hW0⟩ : ∃ W0, w.alloc (.cells #[] 3) = W0 := ⟨_, rfl⟩
  have HS0 : Hid (ApJ w [] (.slice (some ⟨w.heap.size, 0, none⟩) 0 0) W0) := hW0 ▸ HS
  rw [hW0]
  clear hW0 HS
  go_loopw [5, 6] (fun v i wr => ∃ k : Nat, k ≤ l.length ∧ i = .int .i64 k ∧ Hid (ApJ w ((l.take k).filter fun x => x != key) v wr)) (fun _ i _ => (l.length - intOf i).toNat)
  case atStart => exact ⟨0, by omega, rfl, HS0⟩
  case round =>
    obtain ⟨k, hk, rfl, HW⟩ := hrel
    by_cases hlt : k < l.length
    · have hltI : (k : Int) < l.length := by omega
      have hkb : (k : Int) < 5000 := by have := HN.out; omega
      obtain ⟨ad, rfl, hc⟩ := HA.out (by omega)
      have c1 : wr.cell? (ad.add k) = some (.int .i64 (l.getD k 0)) := HW.out.fr.cell (hc k _ (ints'_get l k (by omega))) id
      have HT := hid (take_get hlt)
      have hll : ((l.take k).filter fun x => x != key).length ≤ k := Nat.le_trans (List.length_filter_le _ _) (by rw [List.length_take]; omega)
      have HLl := hid hll
      clear hc hll
      generalize l.getD k 0 = x at *
      by_cases hx : x = key
      · have hq : (x != key) = false := by rw [bne_eq_false_iff_eq]; exact hx
        have HX := hid hx
        clear hx
        go_wp2_with fail
        exact ⟨⟨k + 1, by omega, by go_num, hid (by rw [HT.out, List.filter_append, List.filter_cons, HX.out]; simpa using HW.out)⟩, by simp [intOf]; omega⟩
      · have hq : (x != key) = true := by rw [bne_iff_ne]; exact hx
        have HX := hid hq
        clear hx
        go_wp2_with (at_builtin; refine append_rd rfl (.tmp 20) (.tmp 25) rfl rfl (HW.out.row.new ((Fr.refl _ _).alloc _)) rfl (rd_one wr _) (by rw [List.length_singleton]; have := HLl.out; omega) (by have := HW.out.fr.size; simp; omega) ?_; intro v' w' h1 h2 h3; have H2 := hid (And.intro h1 h2); clear h1 h2 h3)
        exact ⟨⟨k + 1, by omega, by go_num, hid (by rw [HT.out, List.filter_append, List.filter_cons, HX.out]; exact (HW.out.new ((Fr.refl _ _).alloc _)).step HG.out H2.out.1 H2.out.2)⟩, by simp [intOf]; omega⟩
    · have HK := hid (show k = l.length by omega)
      have hltI : ¬ (k : Int) < l.length := by omega
      clear hk hlt
      go_wp2_with fail
      go_ret
      exact ⟨_, rfl, hid (by have := HW.out; rwa [HK.out, List.take_of_length_le (Nat.le_refl _)] at this)⟩
set_option maxRecDepth 100000 in
set_option maxHeartbeats 4000000 in
theorem refPut_any (l : List Int) (hU : Up l) (hn : l.length ≤ 5000) (key : Int) {u : Value} {w : World} (hu : Rd w u (ints' l)) (hg : GW w) :
    Calls Tryz.prog 70 #[u, .int .i64 key] w fun e w' => ∃ v : Value, e = .returned v ∧ Hid (ApJ w (putA l key) v w') := by
  obtain ⟨A, c, rfl, hb, hA⟩ := hu
  rw [ints'_length] at hb hA ⊢
  have HA := hid hA
  have HG := hid hg.size
  have HS := hid (ApJ.start w)
  have HB := hid hb
  have HN := hid hn
  have HU := hid hU
  clear hA hb hg hn hU
  go_enter Tryz.func70, Tryz.ntmps70
  go_wp2_with fail
  obtain ⟨W0, hW0⟩ : ∃ W0, w.alloc (.cells #[] 3) = W0 := ⟨_, rfl⟩
  have HS0 : Hid (ApJ w [] (.slice (some ⟨w.heap.size, 0, none⟩) 0 0) W0) := hW0 ▸ HS
  rw [hW0]
  clear hW0 HS
  go_loopw [5, 6, 7] (fun v p i wr => ∃ (k : Nat) (b : Bool) (out : List Int), k ≤ l.length ∧ p = .bool b ∧ i = .int .i64 k ∧ Hid (ApJ w out v wr ∧ PutI l key k b out ∧ out.length ≤ k + (if b then 1 else 0))) (fun _ _ i _ => (l.length - intOf i).toNat)
  case atStart => exact ⟨0, false, [], by omega, rfl, rfl, hid ⟨HS0.out, PutI.start l key, by simp⟩⟩
  case round =>
    obtain ⟨k, b, out, hk, rfl, rfl, HW⟩ := hrel
    by_cases hlt : k < l.length
    · have hltI : (k : Int) < l.length := by omega
      have hkb : (k : Int) < 5000 := by have := HN.out; omega
      obtain ⟨ad, rfl, hc⟩ := HA.out (by omega)
      have c0 := hc k _ (ints'_get l k (by omega))
      have HC := hid (fun (wz : World) (hf : Fr Nil1 w wz) => show wz.cell? (ad.add k) = some (.int .i64 (l.getD k 0)) from hf.cell c0 id)
      have c1 := HC.out wr HW.out.1.fr
      have HLt := hid hlt
      have HL := hid (show out.length ≤ k + 1 by have := HW.out.2.2; split at this <;> omega)
      have HLf := hid HW.out.2.2
      clear hc c0 hlt
      cases b with
      | true =>
        have HP := hid (HW.out.2.1.go HLt.out)
        generalize l.getD k 0 = x at *
        go_wp2_with (at_builtin; refine append_rd rfl (.tmp 35) (.tmp 40) rfl rfl (HW.out.1.row.new ((Fr.refl _ _).alloc _)) rfl (rd_one wr _) (by rw [List.length_singleton]; have := HL.out; omega) (by have := HW.out.1.fr.size; simp; omega) ?_; intro v' w' h1 h2 h3; have H2 := hid (And.intro h1 h2); clear h1 h2 h3)
        exact ⟨⟨k + 1, true, _, by have := HLt.out; omega, rfl, by go_num, hid ⟨(HW.out.1.new ((Fr.refl _ _).alloc _)).step HG.out H2.out.1 H2.out.2, HP.out, by rw [List.length_append, List.length_singleton]; have := HLf.out; simp at this; simp; omega⟩⟩, by have := HLt.out; simp [intOf]; omega⟩
      | false =>
        have HPs := hid (HW.out.2.1.stay HLt.out)
        have HPe := hid (HW.out.2.1.same HLt.out)
        have HPh := hid (HW.out.2.1.here HU.out HLt.out)
        generalize l.getD k 0 = x at *
        by_cases h1 : key ≤ x
        · have hd1 : decide (key ≤ x) = true := decide_eq_true h1
          by_cases h2 : key < x
          · have hd2 : decide (key < x) = true := decide_eq_true h2
            have HP := hid (HPh.out h2)
            clear h1 h2
            go_wp2_with (first
              | (at_builtin; refine append_rd rfl (.tmp 35) (.tmp 40) rfl rfl (H2.out.1.new ((Fr.refl _ _).alloc _)) rfl (rd_one _ _) (by rw [List.length_append, List.length_singleton, List.length_singleton]; have := HL.out; omega) (by have := HS2.out.fr.size; simp; omega) ?_; intro v3 w3 h1 h2 h3; have H3 := hid (And.intro h1 h2); clear h1 h2 h3)
              | (at_builtin; refine append_rd rfl (.tmp 31) (.tmp 33) rfl rfl (HW.out.1.row.new ((Fr.refl _ _).alloc _)) rfl (rd_one wr _) (by rw [List.length_singleton]; have := HL.out; omega) (by have := HW.out.1.fr.size; simp; omega) ?_; intro v2 w2 h1 h2 h3; have H2 := hid (And.intro h1 h2); have HS2 := hid ((HW.out.1.new ((Fr.refl _ _).alloc _)).step HG.out h1 h2); have c2 := HC.out w2 HS2.out.fr; clear h1 h2 h3))
            exact ⟨⟨k + 1, true, _, by have := HLt.out; omega, rfl, by go_num, hid ⟨(HS2.out.new ((Fr.refl _ _).alloc _)).step HG.out H3.out.1 H3.out.2, HP.out, by rw [List.length_append, List.length_append, List.length_singleton, List.length_singleton]; have := HLf.out; simp at this; simp; omega⟩⟩, by have := HLt.out; simp [intOf]; omega⟩
          · have hd2 : decide (key < x) = false := decide_eq_false h2
            have HP := hid (HPe.out (by omega))
            clear h1 h2
            go_wp2_with (at_builtin; refine append_rd rfl (.tmp 35) (.tmp 40) rfl rfl (HW.out.1.row.new ((Fr.refl _ _).alloc _)) rfl (rd_one wr _) (by rw [List.length_singleton]; have := HL.out; omega) (by have := HW.out.1.fr.size; simp; omega) ?_; intro v' w' h1 h2 h3; have H2 := hid (And.intro h1 h2); clear h1 h2 h3)
            exact ⟨⟨k + 1, true, _, by have := HLt.out; omega, rfl, by go_num, hid ⟨(HW.out.1.new ((Fr.refl _ _).alloc _)).step HG.out H2.out.1 H2.out.2, HP.out, by rw [List.length_append, List.length_singleton]; have := HLf.out; simp at this; simp; omega⟩⟩, by have := HLt.out; simp [intOf]; omega⟩
        · have hd1 : decide (key ≤ x) = false := decide_eq_false h1
          have HP := hid (HPs.out (by omega))
          clear h1
          go_wp2_with (at_builtin; refine append_rd rfl (.tmp 35) (.tmp 40) rfl rfl (HW.out.1.row.new ((Fr.refl _ _).alloc _)) rfl (rd_one wr _) (by rw [List.length_singleton]; have := HL.out; omega) (by have := HW.out.1.fr.size; simp; omega) ?_; intro v' w' h1 h2 h3; have H2 := hid (And.intro h1 h2); clear h1 h2 h3)
          exact ⟨⟨k + 1, false, _, by have := HLt.out; omega, rfl, by go_num, hid ⟨(HW.out.1.new ((Fr.refl _ _).alloc _)).step HG.out H2.out.1 H2.out.2, HP.out, by rw [List.length_append, List.length_singleton]; have := HLf.out; simp at this; simp; omega⟩⟩, by have := HLt.out; simp [intOf]; omega⟩
    · have HK := hid (show k = l.length by omega)
      have hltI : ¬ (k : Int) < l.length := by omega
      clear hk hlt
      cases b with
      | true =>
        go_wp2_with fail
        go_ret
        exact ⟨_, rfl, hid (by have := HW.out.1; have e := HW.out.2.1; rw [HK.out] at e; rwa [e.doneY] at this)⟩
      | false =>
        have HL := hid (show out.length ≤ k by simpa using HW.out.2.2)
        have HKL := hid (show l.length < 5001 by have := HN.out; omega)
        go_wp2_with (at_builtin; refine append_rd rfl (.tmp 44) (.tmp 46) rfl rfl (HW.out.1.row.new ((Fr.refl _ _).alloc _)) rfl (rd_one wr _) (by rw [List.length_singleton]; have := HL.out; have := HK.out; have := HKL.out; omega) (by have := HW.out.1.fr.size; simp; omega) ?_; intro v' w' h1 h2 h3; have H2 := hid (And.intro h1 h2); clear h1 h2 h3)
        go_ret
        exact ⟨_, rfl, hid (by have := (HW.out.1.new ((Fr.refl Nil1 wr).alloc (.cells #[.int .i64 key] 3))).step HG.out H2.out.1 H2.out.2; have e := HW.out.2.1; rw [HK.out] at e; rwa [e.doneN HU.out] at this)⟩
end Go.Proofs.YtmbkmojekpkfhaaGreatDoor
