/- In one: EE, EF, EG. -/
import Derived.Test.YtechphliifginaaGreatDoorGV
import Derived.Test.YtechphliifginaaGreatDoorGW
/- The laws' own rows of keys: Risen, Put, Drop. -/
set_option linter.unusedVariables false
set_option linter.unusedSimpArgs false
namespace Go.Proofs.YtechphliifginaaGreatDoor
open Go.RowKit

/-- A slice that is built by appends, from an empty one. -/
structure ApJ (W : World) (xs : List Int) (v : Value) (w : World) : Prop where
  row : RowI w W.heap.size v xs
  fr : Fr Nil1 W w
theorem ApJ.new {W w w' : World} {xs : List Int} {v : Value} (H : ApJ W xs v w) (hf : Fr Nil1 w w') : ApJ W xs v w' := ⟨H.row.new hf, H.fr.trans hf⟩
theorem ApJ.step {W w w' : World} {xs ys : List Int} {v v' : Value} (H : ApJ W xs v w) (hG : NG ≤ W.heap.size) (hr : RowI w' W.heap.size v' (xs ++ ys)) (hg : w.grownBy w' v.ownBlock) : ApJ W (xs ++ ys) v' w' :=
  ⟨hr, H.fr.grown hg (fun k e => by have := (own_lt H.row k e).1; omega) (fun k e hk => by have := (own_lt H.row k e).1; omega)⟩
theorem ApJ.start (w : World) : ApJ w [] (.slice (some ⟨w.heap.size, 0, none⟩) 0 0) (w.alloc (.cells #[] 3)) :=
  ⟨World.ownsRow_made (base := w.heap.size) (e := 3) (size := 1) w #[] 0 (Nat.le_refl _) (by unfold maxLen; omega) rfl, (Fr.refl _ _).alloc _⟩
theorem ApJ.rd {W w : World} {xs : List Int} {v : Value} (H : ApJ W xs v w) (h : xs.length ≤ 9223372036854775807) : Rd w v (ints' xs) := H.row.rd h
theorem tmod50 (x : Int) : -49 ≤ Int.tmod x 50 ∧ Int.tmod x 50 ≤ 49 := by
  have h1 := Int.tmod_lt_of_pos x (show (0 : Int) < 50 by omega)
  have h2 := Int.lt_tmod_of_pos x (show (0 : Int) < 50 by omega)
  omega
/-- What keys that are made to rise are. -/
structure RisW (w0 : World) (k : Nat) (ks : List Int) (last : Int) (v : Value) (w : World) : Prop where
  ap : ApJ w0 ks v w
  up : Up ks
  len : ks.length = k
  le : ∀ x ∈ ks, -500 < x ∧ x ≤ last
  lo : -500 ≤ last
  hi : last ≤ -500 + 50 * k
theorem RisW.next {w0 w w1 w' : World} {k : Nat} {ks : List Int} {last : Int} {v v' : Value} (H : RisW w0 k ks last v w) (hG : NG ≤ w0.heap.size) (hf : Fr Nil1 w w1) {x : Int} (h1 : last < x) (h2 : x ≤ last + 50) (hr : RowI w' w0.heap.size v' (ks ++ [x])) (hg : w1.grownBy w' v.ownBlock) : RisW w0 (k + 1) (ks ++ [x]) x v' w' :=
  ⟨(H.ap.new hf).step hG hr hg, List.pairwise_append.2 ⟨H.up, List.pairwise_singleton _ _, fun a ha b hb => by have := (H.le a ha).2; have := List.mem_singleton.1 hb; omega⟩, by rw [List.length_append, List.length_singleton, H.len],
    fun y hy => by
      have := H.lo
      rcases List.mem_append.1 hy with g | g
      · have := H.le y g; omega
      · have := List.mem_singleton.1 g; omega, by have := H.lo; omega, by have := H.hi; omega⟩
set_option maxRecDepth 100000 in
set_option maxHeartbeats 2000000 in
theorem risen_any (l : List Int) {u : Value} {w : World} (hu : Rd w u (ints' l)) (hg : GW w) :
    Calls Tryz.prog 93 #[u] w fun e w' => ∃ v : Value, e = .returned v ∧ ∃ ks : List Int, Hid (ApJ w ks v w' ∧ Up ks ∧ ks.length ≤ 200 ∧ ∀ x ∈ ks, -500 < x ∧ x ≤ 9500) := by
  obtain ⟨A, c, rfl, hb, hA⟩ := hu
  rw [ints'_length] at hb hA ⊢
  have HA := hid hA
  have HG := hid hg.size
  have HS := hid (ApJ.start w)
  have HB := hid hb
  clear hA hb hg
  go_enter Tryz.func93, Tryz.ntmps93
  go_wp2_with fail
  obtain ⟨W0, hW0⟩ : ∃ W0, w.alloc (.cells #[] 3) = W0 := ⟨_, rfl⟩
  have HS0 : Hid (ApJ w [] (.slice (some ⟨w.heap.size, 0, none⟩) 0 0) W0) := hW0 ▸ HS
  rw [hW0]
  clear hW0 HS
  go_loopw [3, 4, 5] (fun v la i wr => ∃ (k : Nat) (ks : List Int) (last : Int), k ≤ l.length ∧ k ≤ 200 ∧ la = .int .i64 last ∧ i = .int .i64 k ∧ Hid (RisW w k ks last v wr)) (fun _ _ i _ => (l.length - intOf i).toNat)
  case atStart => exact ⟨0, [], -500, by omega, by omega, rfl, rfl, hid ⟨HS0.out, List.Pairwise.nil, rfl, (fun x hx => by cases hx), by omega, by omega⟩⟩
  case round =>
    obtain ⟨k, ks, last, hk, hk2, rfl, rfl, HW⟩ := hrel
    by_cases hlt : k < l.length ∧ k < 200
    · have hltI : (k : Int) < l.length := by omega
      have hlt2 : (k : Int) < 200 := by omega
      obtain ⟨ad, rfl, hc⟩ := HA.out (by omega)
      have c1 : wr.cell? (ad.add k) = some (.int .i64 (l.getD k 0)) := HW.out.ap.fr.cell (hc k _ (ints'_get l k (by omega))) id
      have HK := hid hlt
      have hlo := HW.out.lo
      have hhi := HW.out.hi
      have HLn := hid HW.out.len
      clear hc hlt hk hk2
      generalize l.getD k 0 = x at *
      obtain ⟨q, hq⟩ : ∃ q, Int.tmod x 50 = q := ⟨_, rfl⟩
      have hq2 := tmod50 x
      rw [hq] at hq2
      have e1 : IntKind.i64.wrap (q + 50) = q + 50 := IntWalk.i64_in _ (by omega)
      obtain ⟨r, hr⟩ : ∃ r, Int.tmod (q + 50) 50 = r := ⟨_, rfl⟩
      have hr2 : 0 ≤ r ∧ r ≤ 49 := by
        have a := (tmod50 (q + 50)).2
        have b := Int.tmod_nonneg 50 (show 0 ≤ q + 50 by omega)
        rw [hr] at a b
        exact ⟨b, a⟩
      have e2 : IntKind.i64.wrap (last + r) = last + r := IntWalk.i64_in _ (by omega)
      have e3 : IntKind.i64.wrap (last + r + 1) = last + r + 1 := IntWalk.i64_in _ (by omega)
      have HR := hid hr2
      clear hq2 hr2 hlo hhi
      go_wp2_with (at_builtin; refine append_rd rfl (.tmp 27) (.tmp 29) rfl rfl (HW.out.ap.row.new ((Fr.refl _ _).alloc _)) rfl (rd_one wr _) (by rw [HLn.out, List.length_singleton]; have := HK.out; omega) (by have := HW.out.ap.fr.size; simp; omega) ?_; intro v' w' h1 h2 h3; have H2 := hid (And.intro h1 h2); clear h1 h2 h3)
      exact ⟨⟨k + 1, ks ++ [last + r + 1], last + r + 1, by have := HK.out; omega, by have := HK.out; omega, rfl, by go_num, hid (HW.out.next HG.out ((Fr.refl _ _).alloc _) (by have := HR.out; omega) (by have := HR.out; omega) H2.out.1 H2.out.2)⟩, by have := HK.out; simp [intOf]; omega⟩
    · have HK := hid (And.intro hk (And.intro hk2 hlt))
      have hdn : decide ((k : Int) < l.length) = false ∨ (decide ((k : Int) < l.length) = true ∧ decide ((k : Int) < 200) = false) := by
        by_cases h : k < l.length
        · exact .inr ⟨decide_eq_true (by omega), decide_eq_false (by omega)⟩
        · exact .inl (decide_eq_false (by omega))
      clear hk hk2 hlt
      rcases hdn with hd | ⟨hd, hd2⟩
      · have hltI : ¬ (k : Int) < l.length := of_decide_eq_false hd
        clear hd
        go_wp2_with fail
        go_ret
        exact ⟨_, rfl, ks, hid ⟨HW.out.ap, HW.out.up, by have := HW.out.len; have := HK.out; omega, fun x hx => by have := HW.out.le x hx; have := HW.out.hi; have := HK.out; omega⟩⟩
      · have hltI : (k : Int) < l.length := of_decide_eq_true hd
        have hltJ : ¬ (k : Int) < 200 := of_decide_eq_false hd2
        clear hd hd2
        go_wp2_with fail
        go_ret
        exact ⟨_, rfl, ks, hid ⟨HW.out.ap, HW.out.up, by have := HW.out.len; have := HK.out; omega, fun x hx => by have := HW.out.le x hx; have := HW.out.hi; have := HK.out; omega⟩⟩
end Go.Proofs.YtechphliifginaaGreatDoor

/- The document's Put and Drop of a rising row of keys. -/
set_option linter.unusedVariables false
set_option linter.unusedSimpArgs false
namespace Go.Proofs.YtechphliifginaaGreatDoor
open Go.RowKit

theorem drop_get {l : List Int} {k : Nat} (h : k < l.length) : l.drop k = l.getD k 0 :: l.drop (k + 1) := by
  rw [List.drop_eq_getElem_cons h, List.getD_eq_getElem?_getD, List.getElem?_eq_getElem h]; rfl
theorem take_get {l : List Int} {k : Nat} (h : k < l.length) : l.take (k + 1) = l.take k ++ [l.getD k 0] := by
  rw [List.take_succ_eq_append_getElem h, List.getD_eq_getElem?_getD, List.getElem?_eq_getElem h]; rfl
theorem get_some {l : List Int} {k : Nat} (h : k < l.length) : l[k]? = some (l.getD k 0) := by
  rw [List.getD_eq_getElem?_getD, List.getElem?_eq_getElem h]; rfl
theorem filter_delA {l : List Int} (H : Up l) (key : Int) : l.filter (fun x => x != key) = delA l key := by
  refine up_ext (List.Pairwise.filter _ H) (up_delA H key) (fun y => ?_)
  rw [List.mem_filter, mem_delA H, bne_iff_ne]
/-- Behind some rounds of Put. -/
inductive PutI (l : List Int) (key : Int) (k : Nat) : Bool → List Int → Prop
  | no (hl : ∀ i x, l[i]? = some x → i < k → x < key) : PutI l key k false (l.take k)
  | yes {out : List Int} (h : out ++ l.drop k = putA l key) : PutI l key k true out
section
variable {l : List Int} {key : Int} {k : Nat}
theorem put_at (H : Up l) (hk : k ≤ l.length) (h1 : ∀ i x, l[i]? = some x → i < k → x < key) (h2 : ∀ x, l[k]? = some x → key < x) : putA l key = l.take k ++ key :: l.drop k := by
  have hc : lessC l key = k := lessC_uniq H hk h1 (fun i x hi hki => by
    rcases Nat.lt_or_ge k l.length with g | g
    · have h3 := h2 _ (get_some g)
      rcases Nat.eq_or_lt_of_le hki with e | e
      · subst e; rw [get_some g] at hi; cases hi; omega
      · have := (up_get H (get_some g) hi).2 e; omega
    · have := (List.getElem?_eq_some_iff.1 hi).1; omega)
  have hm : key ∉ l := fun hm => by
    have := (mem_lessC H).1 hm
    rw [hc] at this
    have := h2 _ this
    omega
  unfold putA putK
  rw [if_neg hm, hc]
theorem PutI.start (l : List Int) (key : Int) : PutI l key 0 false [] := .no (fun i x _ h => absurd h (Nat.not_lt_zero _))
theorem PutI.go {out : List Int} (h : PutI l key k true out) (hk : k < l.length) : PutI l key (k + 1) true (out ++ [l.getD k 0]) := by
  cases h with
  | yes h => exact .yes (by rw [List.append_assoc, List.singleton_append, ← drop_get hk]; exact h)
theorem PutI.stay {out : List Int} (h : PutI l key k false out) (hk : k < l.length) (hx : l.getD k 0 < key) : PutI l key (k + 1) false (out ++ [l.getD k 0]) := by
  cases h with
  | no hl =>
    rw [← take_get hk]
    exact .no (fun i x hi hik => by
      rcases Nat.lt_or_ge i k with g | g
      · exact hl i x hi g
      · obtain rfl : i = k := by omega
        rw [get_some hk] at hi; cases hi; exact hx)
theorem PutI.same {out : List Int} (h : PutI l key k false out) (hk : k < l.length) (hx : l.getD k 0 = key) : PutI l key (k + 1) true (out ++ [l.getD k 0]) := by
  cases h with
  | no hl =>
    refine .yes ?_
    rw [List.append_assoc, List.singleton_append, ← drop_get hk, List.take_append_drop]
    unfold putA
    rw [if_pos (hx ▸ List.mem_of_getElem? (get_some hk))]
theorem PutI.here {out : List Int} (h : PutI l key k false out) (H : Up l) (hk : k < l.length) (hx : key < l.getD k 0) : PutI l key (k + 1) true ((out ++ [key]) ++ [l.getD k 0]) := by
  cases h with
  | no hl =>
    refine .yes ?_
    rw [put_at H (Nat.le_of_lt hk) hl (fun x hi => by rw [get_some hk] at hi; cases hi; exact hx), List.append_assoc, List.append_assoc, List.singleton_append, List.singleton_append, ← drop_get hk]
theorem PutI.doneN {out : List Int} (h : PutI l key l.length false out) (H : Up l) : out ++ [key] = putA l key := by
  cases h with
  | no hl =>
    rw [put_at H (Nat.le_refl _) hl (fun x hi => by rw [List.getElem?_eq_none (Nat.le_refl _)] at hi; cases hi), List.drop_length]
theorem PutI.doneY {out : List Int} (h : PutI l key l.length true out) : out = putA l key := by
  cases h with
  | yes h => rwa [List.drop_length, List.append_nil] at h
end
set_option maxRecDepth 100000 in
set_option maxHeartbeats 2000000 in
theorem refDrop_any (l : List Int) (hn : l.length ≤ 5000) (key : Int) {u : Value} {w : World} (hu : Rd w u (ints' l)) (hg : GW w) :
    Calls Tryz.prog 95 #[u, .int .i64 key] w fun e w' => ∃ v : Value, e = .returned v ∧ Hid (ApJ w (l.filter fun x => x != key) v w') := by
  obtain ⟨A, c, rfl, hb, hA⟩ := hu
  rw [ints'_length] at hb hA ⊢
  have HA := hid hA
  have HG := hid hg.size
  have HS := hid (ApJ.start w)
  have HB := hid hb
  have HN := hid hn
  clear hA hb hg hn
  go_enter Tryz.func95, Tryz.ntmps95
  go_wp2_with fail
  obtain ⟨W0, hW0⟩ : ∃ W0, w.alloc (.cells #[] 3) = W0 := ⟨_, rfl⟩
  have HS0 : Hid (ApJ w [] (.slice (some ⟨w.heap.size, 0, none⟩) 0 0) W0) := hW0 ▸ HS
  rw [hW0]
  clear hW0 HS
  go_loopw [5, 6] (fun v i wr => ∃ k : Nat, k ≤ l.length ∧ i = .int .i64 k ∧ Hid (ApJ w ((l.take k).filter fun x => x != key) v wr)) (fun _ i _ => (l.length - intOf i).toNat)
  case atStart => exact ⟨0, by omega, rfl, HS0⟩
  case round =>
    obtain ⟨k, hk, rfl, HW⟩ := hrel
    by_cases hlt : k < l.length
    · have hltI : (k : Int) < l.length := by omega
      have hkb : (k : Int) < 5000 := by have := HN.out; omega
      obtain ⟨ad, rfl, hc⟩ := HA.out (by omega)
      have c1 : wr.cell? (ad.add k) = some (.int .i64 (l.getD k 0)) := HW.out.fr.cell (hc k _ (ints'_get l k (by omega))) id
      have HT := hid (take_get hlt)
      have hll : ((l.take k).filter fun x => x != key).length ≤ k := Nat.le_trans (List.length_filter_le _ _) (by rw [List.length_take]; omega)
      have HLl := hid hll
      clear hc hll
      generalize l.getD k 0 = x at *
      by_cases hx : x = key
      · have hq : (x != key) = false := by rw [bne_eq_false_iff_eq]; exact hx
        have HX := hid hx
        clear hx
        go_wp2_with fail
        exact ⟨⟨k + 1, by omega, by go_num, hid (by rw [HT.out, List.filter_append, List.filter_cons, HX.out]; simpa using HW.out)⟩, by simp [intOf]; omega⟩
      · have hq : (x != key) = true := by rw [bne_iff_ne]; exact hx
        have HX := hid hq
        clear hx
        go_wp2_with (at_builtin; refine append_rd rfl (.tmp 20) (.tmp 25) rfl rfl (HW.out.row.new ((Fr.refl _ _).alloc _)) rfl (rd_one wr _) (by rw [List.length_singleton]; have := HLl.out; omega) (by have := HW.out.fr.size; simp; omega) ?_; intro v' w' h1 h2 h3; have H2 := hid (And.intro h1 h2); clear h1 h2 h3)
        exact ⟨⟨k + 1, by omega, by go_num, hid (by rw [HT.out, List.filter_append, List.filter_cons, HX.out]; exact (HW.out.new ((Fr.refl _ _).alloc _)).step HG.out H2.out.1 H2.out.2)⟩, by simp [intOf]; omega⟩
    · have HK := hid (show k = l.length by omega)
      have hltI : ¬ (k : Int) < l.length := by omega
      clear hk hlt
      go_wp2_with fail
      go_ret
      exact ⟨_, rfl, hid (by have := HW.out; rwa [HK.out, List.take_of_length_le (Nat.le_refl _)] at this)⟩
set_option maxRecDepth 100000 in
set_option maxHeartbeats 4000000 in
theorem refPut_any (l : List Int) (hU : Up l) (hn : l.length ≤ 5000) (key : Int) {u : Value} {w : World} (hu : Rd w u (ints' l)) (hg : GW w) :
    Calls Tryz.prog 96 #[u, .int .i64 key] w fun e w' => ∃ v : Value, e = .returned v ∧ Hid (ApJ w (putA l key) v w') := by
  obtain ⟨A, c, rfl, hb, hA⟩ := hu
  rw [ints'_length] at hb hA ⊢
  have HA := hid hA
  have HG := hid hg.size
  have HS := hid (ApJ.start w)
  have HB := hid hb
  have HN := hid hn
  have HU := hid hU
  clear hA hb hg hn hU
  go_enter Tryz.func96, Tryz.ntmps96
  go_wp2_with fail
  obtain ⟨W0, hW0⟩ : ∃ W0, w.alloc (.cells #[] 3) = W0 := ⟨_, rfl⟩
  have HS0 : Hid (ApJ w [] (.slice (some ⟨w.heap.size, 0, none⟩) 0 0) W0) := hW0 ▸ HS
  rw [hW0]
  clear hW0 HS
  go_loopw [5, 6, 7] (fun v p i wr => ∃ (k : Nat) (b : Bool) (out : List Int), k ≤ l.length ∧ p = .bool b ∧ i = .int .i64 k ∧ Hid (ApJ w out v wr ∧ PutI l key k b out ∧ out.length ≤ k + (if b then 1 else 0))) (fun _ _ i _ => (l.length - intOf i).toNat)
  case atStart => exact ⟨0, false, [], by omega, rfl, rfl, hid ⟨HS0.out, PutI.start l key, by simp⟩⟩
  case round =>
    obtain ⟨k, b, out, hk, rfl, rfl, HW⟩ := hrel
    by_cases hlt : k < l.length
    · have hltI : (k : Int) < l.length := by omega
      have hkb : (k : Int) < 5000 := by have := HN.out; omega
      obtain ⟨ad, rfl, hc⟩ := HA.out (by omega)
      have c0 := hc k _ (ints'_get l k (by omega))
      have HC := hid (fun (wz : World) (hf : Fr Nil1 w wz) => show wz.cell? (ad.add k) = some (.int .i64 (l.getD k 0)) from hf.cell c0 id)
      have c1 := HC.out wr HW.out.1.fr
      have HLt := hid hlt
      have HL := hid (show out.length ≤ k + 1 by have := HW.out.2.2; split at this <;> omega)
      have HLf := hid HW.out.2.2
      clear hc c0 hlt
      cases b with
      | true =>
        have HP := hid (HW.out.2.1.go HLt.out)
        generalize l.getD k 0 = x at *
        go_wp2_with (at_builtin; refine append_rd rfl (.tmp 35) (.tmp 40) rfl rfl (HW.out.1.row.new ((Fr.refl _ _).alloc _)) rfl (rd_one wr _) (by rw [List.length_singleton]; have := HL.out; omega) (by have := HW.out.1.fr.size; simp; omega) ?_; intro v' w' h1 h2 h3; have H2 := hid (And.intro h1 h2); clear h1 h2 h3)
        exact ⟨⟨k + 1, true, _, by have := HLt.out; omega, rfl, by go_num, hid ⟨(HW.out.1.new ((Fr.refl _ _).alloc _)).step HG.out H2.out.1 H2.out.2, HP.out, by rw [List.length_append, List.length_singleton]; have := HLf.out; simp at this; simp; omega⟩⟩, by have := HLt.out; simp [intOf]; omega⟩
      | false =>
        have HPs := hid (HW.out.2.1.stay HLt.out)
        have HPe := hid (HW.out.2.1.same HLt.out)
        have HPh := hid (HW.out.2.1.here HU.out HLt.out)
        generalize l.getD k 0 = x at *
        by_cases h1 : key ≤ x
        · have hd1 : decide (key ≤ x) = true := decide_eq_true h1
          by_cases h2 : key < x
          · have hd2 : decide (key < x) = true := decide_eq_true h2
            have HP := hid (HPh.out h2)
            clear h1 h2
            go_wp2_with (first
              | (at_builtin; refine append_rd rfl (.tmp 35) (.tmp 40) rfl rfl (H2.out.1.new ((Fr.refl _ _).alloc _)) rfl (rd_one _ _) (by rw [List.length_append, List.length_singleton, List.length_singleton]; have := HL.out; omega) (by have := HS2.out.fr.size; simp; omega) ?_; intro v3 w3 h1 h2 h3; have H3 := hid (And.intro h1 h2); clear h1 h2 h3)
              | (at_builtin; refine append_rd rfl (.tmp 31) (.tmp 33) rfl rfl (HW.out.1.row.new ((Fr.refl _ _).alloc _)) rfl (rd_one wr _) (by rw [List.length_singleton]; have := HL.out; omega) (by have := HW.out.1.fr.size; simp; omega) ?_; intro v2 w2 h1 h2 h3; have H2 := hid (And.intro h1 h2); have HS2 := hid ((HW.out.1.new ((Fr.refl _ _).alloc _)).step HG.out h1 h2); have c2 := HC.out w2 HS2.out.fr; clear h1 h2 h3))
            exact ⟨⟨k + 1, true, _, by have := HLt.out; omega, rfl, by go_num, hid ⟨(HS2.out.new ((Fr.refl _ _).alloc _)).step HG.out H3.out.1 H3.out.2, HP.out, by rw [List.length_append, List.length_append, List.length_singleton, List.length_singleton]; have := HLf.out; simp at this; simp; omega⟩⟩, by have := HLt.out; simp [intOf]; omega⟩
          · have hd2 : decide (key < x) = false := decide_eq_false h2
            have HP := hid (HPe.out (by omega))
            clear h1 h2
            go_wp2_with (at_builtin; refine append_rd rfl (.tmp 35) (.tmp 40) rfl rfl (HW.out.1.row.new ((Fr.refl _ _).alloc _)) rfl (rd_one wr _) (by rw [List.length_singleton]; have := HL.out; omega) (by have := HW.out.1.fr.size; simp; omega) ?_; intro v' w' h1 h2 h3; have H2 := hid (And.intro h1 h2); clear h1 h2 h3)
            exact ⟨⟨k + 1, true, _, by have := HLt.out; omega, rfl, by go_num, hid ⟨(HW.out.1.new ((Fr.refl _ _).alloc _)).step HG.out H2.out.1 H2.out.2, HP.out, by rw [List.length_append, List.length_singleton]; have := HLf.out; simp at this; simp; omega⟩⟩, by have := HLt.out; simp [intOf]; omega⟩
        · have hd1 : decide (key ≤ x) = false := decide_eq_false h1
          have HP := hid (HPs.out (by omega))
          clear h1
          go_wp2_with (at_builtin; refine append_rd rfl (.tmp 35) (.tmp 40) rfl rfl (HW.out.1.row.new ((Fr.refl _ _).alloc _)) rfl (rd_one wr _) (by rw [List.length_singleton]; have := HL.out; omega) (by have := HW.out.1.fr.size; simp; omega) ?_; intro v' w' h1 h2 h3; have H2 := hid (And.intro h1 h2); clear h1 h2 h3)
          exact ⟨⟨k + 1, false, _, by have := HLt.out; omega, rfl, by go_num, hid ⟨(HW.out.1.new ((Fr.refl _ _).alloc _)).step HG.out H2.out.1 H2.out.2, HP.out, by rw [List.length_append, List.length_singleton]; have := HLf.out; simp at this; simp; omega⟩⟩, by have := HLt.out; simp [intOf]; omega⟩
    · have HK := hid (show k = l.length by omega)
      have hltI : ¬ (k : Int) < l.length := by omega
      clear hk hlt
      cases b with
      | true =>
        go_wp2_with fail
        go_ret
        exact ⟨_, rfl, hid (by have := HW.out.1; have e := HW.out.2.1; rw [HK.out] at e; rwa [e.doneY] at this)⟩
      | false =>
        have HL := hid (show out.length ≤ k by simpa using HW.out.2.2)
        have HKL := hid (show l.length < 5001 by have := HN.out; omega)
        go_wp2_with (at_builtin; refine append_rd rfl (.tmp 44) (.tmp 46) rfl rfl (HW.out.1.row.new ((Fr.refl _ _).alloc _)) rfl (rd_one wr _) (by rw [List.length_singleton]; have := HL.out; have := HK.out; have := HKL.out; omega) (by have := HW.out.1.fr.size; simp; omega) ?_; intro v' w' h1 h2 h3; have H2 := hid (And.intro h1 h2); clear h1 h2 h3)
        go_ret
        exact ⟨_, rfl, hid (by have := (HW.out.1.new ((Fr.refl Nil1 wr).alloc (.cells #[.int .i64 key] 3))).step HG.out H2.out.1 H2.out.2; have e := HW.out.2.1; rw [HK.out] at e; rwa [e.doneN HU.out] at this)⟩
end Go.Proofs.YtechphliifginaaGreatDoor

/- Law 14's Set: the set that is made of keys that rise, and acts behind; its keys by the document's answer. -/
set_option linter.unusedVariables false
set_option linter.unusedSimpArgs false
namespace Go.Proofs.YtechphliifginaaGreatDoor
open Go.RowKit

/-- A slice of acts: a key, whether it goes. -/
def RdAm (w : World) (v : Value) (l : List AcS) : Prop :=
  ∃ (A : Option Addr) (c : Nat), v = .slice A l.length c ∧ (∀ a ∈ l, -9223372036854775808 ≤ a.key ∧ a.key ≤ 9223372036854775807) ∧ (0 < l.length → ∃ b o, A = some ⟨b, o, none⟩ ∧ ∀ j a, l[j]? = some a → w.cell? ⟨b, o + j * 2, none⟩ = some (.int .i64 a.key) ∧ w.cell? ⟨b, o + j * 2 + 1, none⟩ = some (.bool a.goes))
theorem RdAm.new {w w' : World} {v : Value} {l : List AcS} (h : RdAm w v l) (hf : Fr Nil1 w w') : RdAm w' v l := by
  obtain ⟨A, c, rfl, hb, hA⟩ := h
  refine ⟨A, c, rfl, hb, fun hp => ?_⟩
  obtain ⟨b, o, rfl, hc⟩ := hA hp
  exact ⟨b, o, rfl, fun j a hj => ⟨hf.cell (hc j a hj).1 (fun s => s), hf.cell (hc j a hj).2 (fun s => s)⟩⟩
/-- A set that was made, and its keys beside it. -/
structure MdS (w0 : World) (Q s : Nat) (u v : Value) (n : Nat) (ks : List Int) (vk : Value) (w : World) : Prop where
  set : SSP w0 s ks (fun b => b = Q ∨ vk.ownBlock = some b) w
  row : RowI w w0.heap.size vk ks
  box : Has w Q [u, v] 52
  len : ks.length ≤ n
  rng : ∀ x ∈ ks, -9223372036854775808 ≤ x ∧ x ≤ 9223372036854775807
section
variable {w0 w w1 w2 : World} {Q s n : Nat} {u v vk vk' : Value} {ks ks' : List Int}
/-- Behind an act. -/
theorem MdS.next (H : MdS w0 Q s u v n ks vk w) (h1 : SSP w0 s ks' (fun b => b = Q ∨ vk.ownBlock = some b) w1) (hb : ∀ b, (b = Q ∨ vk.ownBlock = some b) → w1.heap[b]? = w.heap[b]?) (h2 : ApJ w1 ks' vk' w2) (hs : w0.heap.size ≤ w1.heap.size) (hl : ks'.length ≤ n + 1) (hr : ∀ x ∈ ks', -9223372036854775808 ≤ x ∧ x ≤ 9223372036854775807) : MdS w0 Q s u v (n + 1) ks' vk' w2 :=
  ⟨h1.fresh h2.fr (fun b hb => by
    rcases hb with g | g
    · exact .inl (.inl g)
    · have := h2.row.own_lt b g; exact .inr ⟨this.2, this.1⟩), h2.row.mono hs, (show Has w1 Q [u, v] 52 from (hb Q (.inl rfl)).trans H.box).fr' h2.fr id, hl, hr⟩
theorem MdS.rd1 (H : MdS w0 Q s u v n ks vk w) (hn : n ≤ 5000) (hb : ∀ b, (b = Q ∨ vk.ownBlock = some b) → w1.heap[b]? = w.heap[b]?) : Rd w1 vk (ints' ks) :=
  (H.row.same (fun g hg => hb g (.inr hg))).rd (by have := H.len; omega)
end
set_option maxRecDepth 100000 in
theorem set14_many (u : Value) (acts : List AcS) {v : Value} {w : World} {l : List Int} (hu : Rd w u (ints' l)) (hv : RdAm w v acts) (hN : 100 < acts.length) :
    Calls Tryz.prog 33 #[.agg #[u, v]] w fun e w' => e = .returned (.tuple #[.pointer none, .slice none 0 0]) ∧ Fr Nil1 w w' := by
  obtain ⟨A, c, rfl, _, _⟩ := hu
  obtain ⟨B, d, rfl, _, _⟩ := hv
  rw [ints'_length]
  have hI : (100 : Int) < (acts.length : Int) := by omega
  have hb := Has.new w [.slice A l.length c, .slice B acts.length d] 52
  have c0 := hb.cell 0
  have c1 := hb.cell 1
  have HF := hid (show Fr Nil1 w (w.alloc (.cells #[.slice A l.length c, .slice B acts.length d] 52)) from (Fr.refl _ _).alloc _)
  clear hb
  go_enter Tryz.func33, Tryz.ntmps33
  go_wp2_with fail
  go_ret2
  exact ⟨rfl, HF.out⟩
set_option maxRecDepth 100000 in
set_option maxHeartbeats 8000000 in
theorem set14_any (u : Value) (acts : List AcS) {v : Value} {w : World} {l : List Int} (hu : Rd w u (ints' l)) (hv : RdAm w v acts) (hN : acts.length ≤ 100) (hg : GW w) :
    Calls Tryz.prog 33 #[.agg #[u, v]] w fun e w' => ∃ (s : Nat) (vk : Value), e = .returned (.tuple #[.pointer (some ⟨s, 0, none⟩), vk]) ∧ ∃ ks, Hid (MdS w w.heap.size s u v 300 ks vk w') := by
  have hu0 := hu
  have hv0 := hv
  obtain ⟨A, c, rfl, _, _⟩ := hu
  obtain ⟨B, d, rfl, hrg, hB⟩ := hv
  rw [ints'_length] at hu0 ⊢
  have hI : ¬ (100 : Int) < (acts.length : Int) := by omega
  have hb := Has.new w [.slice A l.length c, .slice B acts.length d] 52
  have HBx := hid hb
  have c0 := hb.cell 0
  have c1 := hb.cell 1
  have HF := hid (show Fr Nil1 w (w.alloc (.cells #[.slice A l.length c, .slice B acts.length d] 52)) from (Fr.refl _ _).alloc _)
  have HRs := hid (risen_any l (hu0.new HF.out) (hg.fr HF.out))
  have HOf := hid (fun (ks : List Int) (hU : Up ks) (hn : ks.length ≤ 2560) (vk : Value) (wz : World) (hr : Rd wz vk (ints' ks)) (hf : Fr Nil1 w wz) => setOf_any ks hU hn hr (hg.fr hf))
  have HG := hid hg
  have HRg := hid hrg
  have HB := hid hB
  clear hb hu0 hv0 hrg hB hg
  go_enter Tryz.func33, Tryz.ntmps33
  go_wp2_with (first
    | (go_at_call 94; refine (HOf.out ks H1.out.2.1 (by have := H1.out.2.2.1; omega) vk w1 (H1.out.1.rd (by have := H1.out.2.2.1; omega)) (HF.out.trans H1.out.1.fr)).mono ?_; rintro e w2 ⟨s, p, F, τ, rfl, H2⟩)
    | (go_at_call 93; refine HRs.out.mono ?_; rintro e w1 ⟨vk, rfl, ks, H1⟩))
  have hs1 := H1.out.1.fr.size
  rw [World.size_alloc] at hs1
  have hM : MdS w w.heap.size s (.slice A l.length c) (.slice B acts.length d) 200 ks vk w2 := by
    have hS := H2.out.1.base (HF.out.trans H1.out.1.fr)
    have hlt : ∀ b, (b = w.heap.size ∨ vk.ownBlock = some b) → b < w1.heap.size := by
      rintro b (g | g)
      · omega
      · exact (H1.out.1.row.own_lt b g).1
    exact ⟨⟨⟨p, F, τ, _, [], hS, H2.out.2.2.items, fun b hb hk => by have := hlt b hb; have := H2.out.1.geB b hk; omega⟩, fun b hb => by have := hlt b hb; have := H2.out.2.1.size; omega⟩,
      (H1.out.1.row.new H2.out.2.1).mono (by rw [World.size_alloc]; omega), (HBx.out.fr' H1.out.1.fr id).fr' H2.out.2.1 id, H1.out.2.2.1, fun x hx => by have := H1.out.2.2.2 x hx; omega⟩
  have HM := hid hM
  obtain ⟨Q, hQ⟩ : ∃ Q, w.heap.size = Q := ⟨_, rfl⟩
  have HQe := hid hQ
  rw [hQ] at HM ⊢
  clear hM hs1 HOf HRs hQ c0 c1
  go_loopw [4, 7] (fun vz i wr => ∃ (k : Nat) (kz : List Int), k ≤ acts.length ∧ i = .int .i64 k ∧ Hid (MdS w Q s (.slice A l.length c) (.slice B acts.length d) (200 + k) kz vz wr)) (fun _ i _ => (acts.length - intOf i).toNat)
  case atStart => exact ⟨0, ks, by omega, rfl, HM⟩
  case round =>
    obtain ⟨k, kz, hk, rfl, HW⟩ := hrel
    by_cases hlt : k < acts.length
    · have hltI : (k : Int) < acts.length := by omega
      obtain ⟨b0, o, rfl, hc⟩ := HB.out (by omega)
      obtain ⟨a, ha⟩ : ∃ a, acts[k]? = some a := ⟨_, List.getElem?_eq_getElem hlt⟩
      obtain ⟨q0, q1⟩ := hc k a ha
      have hrk := HRg.out a (List.mem_of_getElem? ha)
      obtain ⟨goes, key⟩ := a
      have HCe := hid (fun (wz : World) (hf : Fr Nil1 w wz) => show wz.cell? ⟨b0, o + k * 2, none⟩ = some (.int .i64 key) ∧ wz.cell? ⟨b0, o + k * 2 + 1, none⟩ = some (.bool goes) from ⟨hf.cell q0 id, hf.cell q1 id⟩)
      obtain ⟨e0, e1⟩ := HCe.out wr HW.out.set.ss.fr
      have c0 := HW.out.box.cell 0
      have c1 := HW.out.box.cell 1
      have HRk := hid hrk
      have HKk := hid (And.intro hlt hN)
      have hkb : (k : Int) < 100 := by omega
      have HLe := hid HW.out.len
      clear q0 q1 hc ha hrk hlt
      cases goes with
      | true =>
        have HD := hid (HW.out.set.delete (by have := HLe.out; have := HKk.out; omega) key)
        go_wp2_with (first
          | (go_at_call 95; (with_reducible refine (refDrop_any kz (by have := HLe.out; have := HKk.out; omega) key (HW.out.rd1 (by have := HKk.out; omega) H3.out.2.2) (HG.out.fr H3.out.1.ss.fr)).mono ?_); rintro e w4 ⟨v4, rfl, H4⟩)
          | (go_at_call 45; (with_reducible refine HD.out.mono ?_); rintro e w3 ⟨S, er, kx, rfl, H3⟩; obtain ⟨e2, e3⟩ := HCe.out w3 H3.out.1.ss.fr; have hbx := show Has w3 Q [.slice A l.length c, .slice (some ⟨b0, o, none⟩) acts.length d] 52 from (H3.out.2.2 Q (.inl rfl)).trans HW.out.box; have d0 := hbx.cell 0; have d1 := hbx.cell 1; clear hbx))
        obtain ⟨_, q⟩ := H3.out.2.1.del
        have h4 := H4.out
        rw [filter_delA HW.out.set.ss.up, ← q] at h4
        refine ⟨⟨k + 1, kx, by have := HKk.out; omega, by go_num, hid (HW.out.next H3.out.1 H3.out.2.2 h4 H3.out.1.ss.fr.size (by rw [q]; have := delA_length HW.out.set.ss.up key; have := HLe.out; omega) (fun x hx => ?_))⟩, by have := HKk.out; simp [intOf]; omega⟩
        rw [q] at hx
        exact HW.out.rng x ((mem_delA HW.out.set.ss.up).1 hx).1
      | false =>
        have HD := hid (HW.out.set.insert (by have := HLe.out; have := HKk.out; omega) key)
        go_wp2_with (first
          | (go_at_call 96; (with_reducible refine (refPut_any kz HW.out.set.ss.up (by have := HLe.out; have := HKk.out; omega) key (HW.out.rd1 (by have := HKk.out; omega) H3.out.2.2) (HG.out.fr H3.out.1.ss.fr)).mono ?_); rintro e w4 ⟨v4, rfl, H4⟩)
          | (go_at_call 46; (with_reducible refine HD.out.mono ?_); rintro e w3 ⟨S, er, kx, rfl, H3⟩; obtain ⟨e2, e3⟩ := HCe.out w3 H3.out.1.ss.fr; have hbx := show Has w3 Q [.slice A l.length c, .slice (some ⟨b0, o, none⟩) acts.length d] 52 from (H3.out.2.2 Q (.inl rfl)).trans HW.out.box; have d0 := hbx.cell 0; have d1 := hbx.cell 1; clear hbx))
        obtain ⟨_, q⟩ := H3.out.2.1.put (by have := HLe.out; have := HKk.out; omega)
        have h4 := H4.out
        rw [← q] at h4
        refine ⟨⟨k + 1, kx, by have := HKk.out; omega, by go_num, hid (HW.out.next H3.out.1 H3.out.2.2 h4 H3.out.1.ss.fr.size (by rw [q]; have := putA_length kz key; have := HLe.out; omega) (fun x hx => ?_))⟩, by have := HKk.out; simp [intOf]; omega⟩
        rw [q] at hx
        rcases mem_putA.1 hx with rfl | g
        · exact HRk.out
        · exact HW.out.rng x g
    · have HK := hid (And.intro hk hN)
      have hltI : ¬ (k : Int) < acts.length := by omega
      have c0 := HW.out.box.cell 0
      have c1 := HW.out.box.cell 1
      clear hk hlt
      go_wp2_with fail
      go_ret2
      have h := HW.out
      have hq := HQe.out
      subst hq
      exact ⟨s, _, rfl, kz, hid ⟨h.set, h.row, h.box, by have := h.len; have := HK.out; omega, h.rng⟩⟩
end Go.Proofs.YtechphliifginaaGreatDoor
