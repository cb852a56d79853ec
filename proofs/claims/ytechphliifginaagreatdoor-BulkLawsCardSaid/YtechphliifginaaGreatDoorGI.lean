/- In one: U1, U2, U3. -/
import Derived.Test.YtechphliifginaaGreatDoorGH
import Derived.Laws.CopyOwn
import Derived.Deep.RegionHeld3
import Derived.Test.YtechphliifginaaGreatDoorGC
import Derived.WalkMore
import Derived.ScopeJumps
/- Plain: the counts of all windows, as in a heap. No program in sight. -/
set_option linter.unusedVariables false
set_option linter.unusedSimpArgs false
namespace Go.Proofs.YtechphliifginaaGreatDoor
open Go.RowKit

/-- How many there are in the segments ahead of one. -/
def preI (cs : List Int) (k : Nat) : Int := sumI (cs.take k)
theorem preI_zero (cs : List Int) : preI cs 0 = 0 := by simp [preI, sumI]
theorem preI_succ (cs : List Int) (k : Nat) (hk : k < cs.length) : preI cs (k + 1) = preI cs k + cs.getD k 0 := by
  unfold preI
  rw [List.take_succ_eq_append_getElem hk, sumI_snoc]
  simp [List.getD_eq_getElem?_getD, List.getElem?_eq_getElem hk]
structure HeapOK (ns : List Int) (h : Nat) (cs : List Int) : Prop where
  len : ns.length = 2 * 2 ^ h
  clen : cs.length = 2 ^ h
  leaf : ∀ k, k < 2 ^ h → ns.getD (2 ^ h + k) 0 = cs.getD k 0
  node : ∀ i, 1 ≤ i → i < 2 ^ h → ns.getD i 0 = ns.getD (2 * i) 0 + ns.getD (2 * i + 1) 0
theorem HeapOK.at {ns cs : List Int} {h : Nat} (H : HeapOK ns h cs) : ∀ d e j, e + d = h → j < 2 ^ e → ns.getD (2 ^ e + j) 0 = preI cs ((j + 1) * 2 ^ d) - preI cs (j * 2 ^ d)
  | 0, e, j, he, hj => by
    have he' : e = h := by omega
    subst he'
    rw [H.leaf j hj, Nat.pow_zero, Nat.mul_one, Nat.mul_one, preI_succ _ _ (by rw [H.clen]; exact hj)]
    omega
  | d + 1, e, j, he, hj => by
    have h1 := H.at d (e + 1) (2 * j) (by omega) (by rw [Nat.pow_succ]; omega)
    have h2 := H.at d (e + 1) (2 * j + 1) (by omega) (by rw [Nat.pow_succ]; omega)
    have hp : 0 < 2 ^ e := Nat.pow_pos (by omega)
    have hle : 2 ^ e + j < 2 ^ h := by
      have : 2 ^ (e + 1) ≤ 2 ^ h := Nat.pow_le_pow_right (by omega) (by omega)
      rw [Nat.pow_succ] at this; omega
    rw [H.node (2 ^ e + j) (by omega) hle]
    rw [Nat.pow_succ] at h1 h2
    rw [show 2 * (2 ^ e + j) = 2 ^ e * 2 + 2 * j by omega, h1, show 2 ^ e * 2 + 2 * j + 1 = 2 ^ e * 2 + (2 * j + 1) by omega, h2]
    rw [show (2 * j + 1 + 1) * 2 ^ d = (j + 1) * 2 ^ (d + 1) by rw [Nat.pow_succ, Nat.mul_comm (2 ^ d) 2, ← Nat.mul_assoc]; congr 1; omega, show 2 * j * 2 ^ d = j * 2 ^ (d + 1) by rw [Nat.pow_succ, Nat.mul_comm (2 ^ d) 2, ← Nat.mul_assoc]; congr 1; omega]
    omega
theorem HeapOK.root {ns cs : List Int} {h : Nat} (H : HeapOK ns h cs) : ns.getD 1 0 = preI cs (2 ^ h) := by
  have := H.at h 0 0 (by omega) (by simp)
  rw [Nat.pow_zero, Nat.add_zero] at this
  rw [this, Nat.zero_mul, preI_zero]
  show preI cs ((0 + 1) * 2 ^ h) - 0 = _
  rw [show (0 + 1) * 2 ^ h = 2 ^ h by omega]
  omega
theorem preI_mono (cs : List Int) (h0 : ∀ x ∈ cs, 0 ≤ x ∧ x ≤ 8) : ∀ k d, k + d ≤ cs.length → preI cs k ≤ preI cs (k + d) ∧ preI cs (k + d) ≤ preI cs k + 8 * d
  | k, 0, _ => by simp
  | k, d + 1, hd => by
    have ih := preI_mono cs h0 k d (by omega)
    rw [← Nat.add_assoc, preI_succ _ _ (by omega)]
    have := h0 (cs.getD (k + d) 0) (getD_mem (by omega))
    omega
theorem HeapOK.bound {ns cs : List Int} {h : Nat} (H : HeapOK ns h cs) (h0 : ∀ x ∈ cs, 0 ≤ x ∧ x ≤ 8) (i : Nat) (h1 : 1 ≤ i) (hi : i < 2 * 2 ^ h) : 0 ≤ ns.getD i 0 ∧ ns.getD i 0 ≤ 8 * 2 ^ h := by
  obtain ⟨e, j, rfl, hj, he⟩ : ∃ e j, i = 2 ^ e + j ∧ j < 2 ^ e ∧ e ≤ h := by
    refine ⟨i.log2, i - 2 ^ i.log2, ?_, ?_, ?_⟩
    · have := Nat.log2_self_le (show i ≠ 0 by omega); omega
    · have := @Nat.lt_log2_self i
      rw [Nat.pow_succ] at this
      have := Nat.log2_self_le (show i ≠ 0 by omega)
      omega
    · have := (Nat.log2_lt (show i ≠ 0 by omega) (k := h + 1)).2 (by rw [Nat.pow_succ]; omega)
      omega
  rw [H.at (h - e) e j (by omega) hj]
  have hw : (j + 1) * 2 ^ (h - e) = j * 2 ^ (h - e) + 2 ^ (h - e) := Nat.succ_mul _ _
  have hp : 2 ^ e * 2 ^ (h - e) = 2 ^ h := by rw [← Nat.pow_add]; congr 1; omega
  have hle : (j + 1) * 2 ^ (h - e) ≤ 2 ^ e * 2 ^ (h - e) := Nat.mul_le_mul_right _ hj
  have := preI_mono cs h0 (j * 2 ^ (h - e)) (2 ^ (h - e)) (by rw [H.clen]; omega)
  rw [hw]
  have h3 : 2 ^ (h - e) ≤ 2 ^ h := Nat.pow_le_pow_right (by omega) (by omega)
  have h4 : ((2 ^ h : Nat) : Int) = 2 ^ h := by rw [Int.natCast_pow]; rfl
  rw [← h4]
  omega
theorem HeapOK.uniq {ns cs ds : List Int} {h : Nat} (H : HeapOK ns h cs) (K : HeapOK ns h ds) : cs = ds := by
  apply List.ext_getElem (H.clen.trans K.clen.symm)
  intro k h1 h2
  have a := H.leaf k (by rw [← H.clen]; exact h1)
  have b := K.leaf k (by rw [← H.clen]; exact h1)
  rw [a] at b
  simpa [List.getD_eq_getElem?_getD, List.getElem?_eq_getElem h1, List.getElem?_eq_getElem h2] using b

theorem getD_setI (ns : List Int) (k : Nat) (v : Int) (j : Nat) (hk : k < ns.length) : (ns.set k v).getD j 0 = if j = k then v else ns.getD j 0 := by
  rw [List.getD_eq_getElem?_getD, List.getD_eq_getElem?_getD, List.getElem?_set]
  by_cases h : k = j
  · subst h; simp [hk]
  · rw [if_neg h, if_neg (fun e => h e.symm)]
/-- All nodes are right but i, whose children have n more. -/
structure HeapOff (ns : List Int) (h : Nat) (cs : List Int) (i : Nat) (n : Int) : Prop where
  len : ns.length = 2 * 2 ^ h
  clen : cs.length = 2 ^ h
  leaf : ∀ k, k < 2 ^ h → ns.getD (2 ^ h + k) 0 = cs.getD k 0
  node : ∀ k, 1 ≤ k → k < 2 ^ h → ns.getD k 0 + (if k = i then n else 0) = ns.getD (2 * k) 0 + ns.getD (2 * k + 1) 0
theorem HeapOK.add {ns cs : List Int} {h : Nat} (H : HeapOK ns h cs) (s : Nat) (hs : s < 2 ^ h) (n : Int) (hh : 1 ≤ h) : HeapOff (ns.set (2 ^ h + s) (ns.getD (2 ^ h + s) 0 + n)) h (cs.set s (cs.getD s 0 + n)) ((2 ^ h + s) / 2) n := by
  have hk : 2 ^ h + s < ns.length := by rw [H.len]; omega
  have hev : ∃ q, 2 ^ h = 2 * q := ⟨2 ^ (h - 1), by rw [← Nat.pow_succ']; congr 1; omega⟩
  obtain ⟨q, hq⟩ := hev
  refine ⟨by rw [List.length_set]; exact H.len, by rw [List.length_set]; exact H.clen, fun k hk' => ?_, fun k h1 h2 => ?_⟩
  · rw [getD_setI _ _ _ _ hk, getD_setI _ _ _ _ (by rw [H.clen]; exact hs)]
    by_cases e : k = s
    · rw [if_pos (by omega), if_pos e, H.leaf s hs]
    · rw [if_neg (by omega), if_neg e, H.leaf k hk']
  · rw [getD_setI _ _ _ _ hk, getD_setI _ _ _ _ hk, getD_setI _ _ _ _ hk, if_neg (show k ≠ 2 ^ h + s by omega)]
    have := H.node k h1 h2
    by_cases e1 : 2 * k = 2 ^ h + s
    · rw [if_pos e1, if_neg (show 2 * k + 1 ≠ 2 ^ h + s by omega), if_pos (by omega), ← e1]; omega
    · rw [if_neg e1]
      by_cases e2 : 2 * k + 1 = 2 ^ h + s
      · rw [if_pos e2, if_pos (by omega), ← e2]; omega
      · rw [if_neg e2, if_neg (by omega)]; omega
theorem HeapOff.up {ns cs : List Int} {h i : Nat} {n : Int} (H : HeapOff ns h cs i n) (h1 : 1 ≤ i) (hi : i < 2 ^ h) : HeapOff (ns.set i (ns.getD i 0 + n)) h cs (i / 2) n := by
  have hk : i < ns.length := by rw [H.len]; omega
  refine ⟨by rw [List.length_set]; exact H.len, H.clen, fun k hk' => ?_, fun k g1 g2 => ?_⟩
  · rw [getD_setI _ _ _ _ hk, if_neg (by omega), H.leaf k hk']
  · rw [getD_setI _ _ _ _ hk, getD_setI _ _ _ _ hk, getD_setI _ _ _ _ hk]
    have := H.node k g1 g2
    by_cases e0 : k = i
    · subst e0
      rw [if_pos rfl] at this
      rw [if_pos rfl, if_neg (by omega), if_neg (by omega), if_neg (by omega)]
      omega
    · rw [if_neg e0] at this
      rw [if_neg e0]
      by_cases e1 : 2 * k = i
      · rw [if_pos e1, if_neg (show 2 * k + 1 ≠ i by omega), if_pos (by omega), ← e1]; omega
      · rw [if_neg e1]
        by_cases e2 : 2 * k + 1 = i
        · rw [if_pos e2, if_pos (by omega), ← e2]; omega
        · rw [if_neg e2, if_neg (by omega)]; omega
theorem HeapOff.done {ns cs : List Int} {h : Nat} {n : Int} (H : HeapOff ns h cs 0 n) : HeapOK ns h cs := by
  refine ⟨H.len, H.clen, H.leaf, fun k h1 h2 => ?_⟩
  have := H.node k h1 h2
  rw [if_neg (by omega)] at this
  omega

/-- Of the nodes those from i on are right. -/
structure HeapTo (ns : List Int) (h : Nat) (cs : List Int) (i : Nat) : Prop where
  len : ns.length = 2 * 2 ^ h
  clen : cs.length = 2 ^ h
  leaf : ∀ k, k < 2 ^ h → ns.getD (2 ^ h + k) 0 = cs.getD k 0
  node : ∀ k, i ≤ k → k < 2 ^ h → ns.getD k 0 = ns.getD (2 * k) 0 + ns.getD (2 * k + 1) 0
  bnd : ∀ k, i ≤ k → k < 2 * 2 ^ h → 0 ≤ ns.getD k 0 ∧ (k : Int) * ns.getD k 0 ≤ 16 * 2 ^ h
theorem HeapTo.step {ns cs : List Int} {h i : Nat} (H : HeapTo ns h cs (i + 1)) (h1 : 1 ≤ i) (hi : i < 2 ^ h) : HeapTo (ns.set i (ns.getD (2 * i) 0 + ns.getD (2 * i + 1) 0)) h cs i := by
  have hk : i < ns.length := by rw [H.len]; omega
  refine ⟨by rw [List.length_set]; exact H.len, H.clen, fun k hk' => ?_, fun k g1 g2 => ?_, fun k g1 g2 => ?_⟩
  · rw [getD_setI _ _ _ _ hk, if_neg (by omega), H.leaf k hk']
  · rw [getD_setI _ _ _ _ hk, getD_setI _ _ _ _ hk, getD_setI _ _ _ _ hk, if_neg (show 2 * k ≠ i by omega), if_neg (show 2 * k + 1 ≠ i by omega)]
    by_cases e : k = i
    · rw [if_pos e, e]
    · rw [if_neg e]; exact H.node k (by omega) g2
  · rw [getD_setI _ _ _ _ hk]
    by_cases e : k = i
    · rw [if_pos e]
      subst e
      obtain ⟨a0, a1⟩ := H.bnd (2 * k) (by omega) (by omega)
      obtain ⟨b0, b1⟩ := H.bnd (2 * k + 1) (by omega) (by omega)
      refine ⟨by omega, ?_⟩
      generalize ns.getD (2 * k) 0 = a at *
      generalize ns.getD (2 * k + 1) 0 = b at *
      have e1 : ((2 * k : Nat) : Int) * a = 2 * ((k : Int) * a) := by rw [Int.natCast_mul, Int.mul_assoc]; rfl
      have e2 : ((2 * k + 1 : Nat) : Int) * b = 2 * ((k : Int) * b) + b := by rw [Int.natCast_add, Int.natCast_mul, Int.add_mul, Int.mul_assoc]; simp
      rw [e1] at a1
      rw [e2] at b1
      rw [Int.mul_add]
      omega
    · rw [if_neg e]; exact H.bnd k (by omega) g2
theorem HeapTo.small {ns cs : List Int} {h i : Nat} (H : HeapTo ns h cs i) (k : Nat) (h1 : 1 ≤ k) (hik : i ≤ k) (hk : k < 2 * 2 ^ h) : 0 ≤ ns.getD k 0 ∧ ns.getD k 0 ≤ 16 * 2 ^ h := by
  obtain ⟨a0, a1⟩ := H.bnd k hik hk
  refine ⟨a0, Int.le_trans ?_ a1⟩
  have : (1 : Int) * ns.getD k 0 ≤ (k : Int) * ns.getD k 0 := Int.mul_le_mul_of_nonneg_right (by omega) a0
  omega
theorem HeapTo.done {ns cs : List Int} {h : Nat} (H : HeapTo ns h cs 1) : HeapOK ns h cs := ⟨H.len, H.clen, H.leaf, H.node⟩
theorem HeapTo.start {cs : List Int} {h : Nat} (hl : cs.length = 2 ^ h) (h8 : ∀ x ∈ cs, 0 ≤ x ∧ x ≤ 8) : HeapTo (List.replicate (2 ^ h) 0 ++ cs) h cs (2 ^ h) := by
  have hg : ∀ k, k < 2 ^ h → (List.replicate (2 ^ h) 0 ++ cs).getD (2 ^ h + k) 0 = cs.getD k 0 := by
    intro k hk
    rw [List.getD_eq_getElem?_getD, List.getElem?_append_right (by simp), List.getD_eq_getElem?_getD]
    simp
  refine ⟨by rw [List.length_append, List.length_replicate, hl]; omega, hl, hg, fun k h1 h2 => by omega, fun k h1 h2 => ?_⟩
  obtain ⟨j, rfl⟩ := Nat.exists_eq_add_of_le h1
  rw [hg j (by omega)]
  have := h8 _ (getD_mem (show j < cs.length by omega))
  refine ⟨this.1, ?_⟩
  have h4 : ((2 ^ h : Nat) : Int) = 2 ^ h := by rw [Int.natCast_pow]; rfl
  have h5 : ((2 ^ h + j : Nat) : Int) * cs.getD j 0 ≤ ((2 ^ h + j : Nat) : Int) * 8 := Int.mul_le_mul_of_nonneg_left this.2 (by omega)
  rw [← h4]
  omega
end Go.Proofs.YtechphliifginaaGreatDoor

/- tree: may, New. -/
set_option linter.unusedVariables false
set_option linter.unusedSimpArgs false
namespace Go.Proofs.YtechphliifginaaGreatDoor
open Go.RowKit

/-- A tree of counts: its struct, its row. -/
structure TreeR (w : World) (t d h : Nat) (cs : List Int) : Prop where
  gt : NG ≤ t
  gd : NG ≤ d
  h9 : h ≤ 9
  h1 : 1 ≤ h
  c8 : ∀ x ∈ cs, 0 ≤ x ∧ x ≤ 8
  row : ∃ (ns : List Int) (ex : List Value), Has w t [.int .i64 (2 ^ h : Nat), .slice (some ⟨d, 0, none⟩) (2 * 2 ^ h) (2 * 2 ^ h + ex.length)] 151 ∧ Has w d (ints' ns ++ ex) 3 ∧ HeapOK ns h cs
theorem TreeR.fr {w w' : World} {t d h : Nat} {cs : List Int} {S : Nat → Prop} (H : TreeR w t d h cs) (hf : Fr S w w') (ht : ¬ S t) (hd : ¬ S d) : TreeR w' t d h cs := by
  obtain ⟨ns, ex, r1, r2, r3⟩ := H.row
  exact ⟨H.gt, H.gd, H.h9, H.h1, H.c8, ns, ex, r1.fr' hf ht, r2.fr' hf hd, r3⟩
theorem TreeR.new {w w' : World} {t d h : Nat} {cs : List Int} (H : TreeR w t d h cs) (hf : Fr Nil1 w w') : TreeR w' t d h cs := H.fr hf id id
theorem TreeR.ne {w : World} {t d h : Nat} {cs : List Int} (H : TreeR w t d h cs) : t ≠ d := by
  obtain ⟨ns, ex, r1, r2, r3⟩ := H.row
  exact r1.ne r2 (by decide)
theorem TreeR.lt {w : World} {t d h : Nat} {cs : List Int} (H : TreeR w t d h cs) : t < w.heap.size ∧ d < w.heap.size := by
  obtain ⟨ns, ex, r1, r2, r3⟩ := H.row
  exact ⟨r1.lt, r2.lt⟩
theorem p2_le {h : Nat} (h9 : h ≤ 9) : 2 ^ h ≤ 512 := Nat.pow_le_pow_right (n := 2) (by omega) h9
theorem ints'_append (ns : List Int) (ex : List Value) (k : Nat) (hk : k < ns.length) : (ints' ns ++ ex)[k]? = some (.int .i64 (ns.getD k 0)) := by
  rw [List.getElem?_append_left (by rw [ints'_length]; exact hk), ints'_get _ _ hk]
theorem ints'_set (ns : List Int) (ex : List Value) (k : Nat) (v : Int) (hk : k < ns.length) : (ints' ns ++ ex).set k (.int .i64 v) = ints' (ns.set k v) ++ ex := by
  rw [List.set_append_left _ _ (by rw [ints'_length]; exact hk)]
  simp [ints', List.map_set]

theorem treeMay_any (n : Int) (w : World) : Calls Tryz.prog 136 #[.int .i64 n] w fun e w' => e = .returned (.bool (decide (0 ≤ n ∧ n ≤ 8))) ∧ w = w' := by
  by_cases h1 : 0 ≤ n
  · by_cases h2 : n ≤ 8
    · have e : decide (0 ≤ n ∧ n ≤ 8) = true := decide_eq_true ⟨h1, h2⟩
      rw [e]
      clear e
      go_enter Tryz.func136, Tryz.ntmps136
      go_wp2_with fail
      go_ret
      exact ⟨rfl, rfl⟩
    · have e : decide (0 ≤ n ∧ n ≤ 8) = false := decide_eq_false (by omega)
      rw [e]
      clear e
      go_enter Tryz.func136, Tryz.ntmps136
      go_wp2_with fail
      go_ret
      exact ⟨rfl, rfl⟩
  · have e : decide (0 ≤ n ∧ n ≤ 8) = false := decide_eq_false (by omega)
    rw [e]
    clear e
    go_enter Tryz.func136, Tryz.ntmps136
    go_wp2_with fail
    go_ret
    exact ⟨rfl, rfl⟩
theorem treeNew1_any (n : Int) (w : World) : Calls Tryz.prog 167 #[.int .i64 n] w fun e w' => e = .returned (.bool (!decide (0 ≤ n ∧ n ≤ 8))) ∧ w = w' := by
  have H := hid (fun w => treeMay_any n w)
  generalize decide (0 ≤ n ∧ n ≤ 8) = b at *
  go_enter Tryz.func167, Tryz.ntmps167
  go_wp2_with (first | (go_at_call 136; refine (H.out _).mono ?_; rintro e w1 ⟨rfl, rfl⟩))
  go_ret
  exact ⟨rfl, rfl⟩
theorem and_pow {h : Nat} (h9 : h ≤ 9) : bits BinOp.and IntKind.i64 ((2 ^ h : Nat) : Int) (((2 ^ h : Nat) : Int) - 1) = 0 := by
  have : ∀ h : Nat, h < 10 → bits BinOp.and IntKind.i64 ((2 ^ h : Nat) : Int) (((2 ^ h : Nat) : Int) - 1) = 0 := by decide +kernel
  exact this h (by omega)

theorem ints'_one (cs : List Int) : ∀ v ∈ ints' cs, v.oneCell' = true := by
  intro v hv
  obtain ⟨x, _, rfl⟩ := List.mem_map.1 hv
  rfl
theorem info1 : (Tryz.prog.info? 3).map (·.size) = some 1 := by kernel_rfl
theorem Fr.setRow {S : Nat → Prop} {a w : World} (h : Fr S a w) (g : Nat) (cs : Array Value) (hg : NG ≤ g) (hp : g < a.heap.size → S g) : Fr S a (w.setRow g cs) :=
  h.trans' (S' := fun k => k = g) ⟨rfl, rfl, rfl, by simp [World.setRow], fun k _ hn => setRow_other w g k cs (fun e => by have := hn e; omega)⟩ (fun j _ hj e => by subst e; exact hp hj)
theorem tree_copied {w w1 : World} {Z : Nat} {cs : List Int} (hF : Fr Nil1 w w1) (hG : NG ≤ w.heap.size) (hZ : cs.length = Z) :
    (fun w2 => Has w2 w1.heap.size (ints' (List.replicate Z 0 ++ cs)) 3 ∧ Has w2 (w1.heap.size + 1) [.int .i64 (Z : Int), .slice (some ⟨w1.heap.size, 0, none⟩) (2 * Z) (2 * Z)] 151 ∧ Fr Nil1 w w2)
      (World.setRow ((w1.alloc (.cells (madeCells #[.int .i64 0] (2 * Z)) 3)).alloc (.cells #[.int .i64 (Z : Int), .slice (some ⟨w1.heap.size, 0, none⟩) (2 * Z) (2 * Z)] 151)) w1.heap.size (((List.replicate (2 * Z) (Value.int .i64 0)).toArray.toList.take Z ++ (ints' cs ++ (List.replicate (2 * Z) (Value.int .i64 0)).toArray.toList.drop (Z + (ints' cs).length))).toArray)) := by
  have hm := (Has.made w1 (.int .i64 0) (2 * Z) 3).alloc (.cells #[.int .i64 (Z : Int), .slice (some ⟨w1.heap.size, 0, none⟩) (2 * Z) (2 * Z)] 151)
  have ht := Has.new (w1.alloc (.cells (madeCells #[.int .i64 0] (2 * Z)) 3)) [.int .i64 (Z : Int), .slice (some ⟨w1.heap.size, 0, none⟩) (2 * Z) (2 * Z)] 151
  rw [World.size_alloc] at ht
  have e : (List.replicate (2 * Z) (Value.int .i64 0)).toArray.toList.take Z ++ (ints' cs ++ (List.replicate (2 * Z) (Value.int .i64 0)).toArray.toList.drop (Z + (ints' cs).length)) = ints' (List.replicate Z 0 ++ cs) := by
    rw [ints'_length, hZ]
    show List.take Z (List.replicate (2 * Z) (Value.int .i64 0)) ++ (ints' cs ++ List.drop (Z + Z) (List.replicate (2 * Z) (Value.int .i64 0))) = _
    rw [List.take_replicate, List.drop_replicate, show min Z (2 * Z) = Z by omega, show 2 * Z - (Z + Z) = 0 by omega]
    simp [ints']
  have hs := hF.size
  rw [e]
  refine ⟨setRow_heap _ _ _ _ _ _ hm, ?_, ((hF.alloc _).alloc _).setRow _ _ (by omega) (fun h => by omega)⟩
  show (World.setRow _ _ _).heap[_]? = _
  rw [setRow_other _ _ _ _ (by omega)]
  exact ht
set_option maxRecDepth 100000 in
set_option maxHeartbeats 2000000 in
theorem treeNew_ok (cs : List Int) (h : Nat) (h1 : 1 ≤ h) (h9 : h ≤ 9) (hl : cs.length = 2 ^ h) (h8 : ∀ x ∈ cs, 0 ≤ x ∧ x ≤ 8) (ad : Addr) (c : Nat) (w : World) (hx : RdC w ad c cs) (hG : NG ≤ w.heap.size) :
    Calls Tryz.prog 117 #[.slice (some ad) cs.length c] w fun e w' => ∃ t d, e = .returned (.tuple #[.pointer (some ⟨t, 0, none⟩), .int .i64 0]) ∧ TreeR w' t d h cs ∧ Fr Nil1 w w' ∧ w.heap.size ≤ t ∧ w.heap.size ≤ d := by
  have HC := hid (containsFunc_pure 167 (fun x => !decide (0 ≤ x ∧ x ≤ 8)) cs _ w hx.rd (enters_of Tryz.func167 (by kernel_rfl) rfl) (fun x _ w' => treeNew1_any x w'))
  have e : cs.any (fun x => !decide (0 ≤ x ∧ x ≤ 8)) = false := by
    rw [List.any_eq_false]
    intro x hx
    have := h8 x hx
    simp; omega
  rw [e] at HC
  have hz := p2_le h9
  have hz2 : 2 ≤ 2 ^ h := by have := Nat.pow_le_pow_right (n := 2) (by omega) h1; simpa using this
  have q1 := and_pow h9
  have HX := hid hx
  have HH := hid (HeapTo.start hl h8)
  have H8 := hid h8
  rw [← hl] at HH q1 hz hz2
  have HL := hid hl
  obtain ⟨Z, hZ⟩ : ∃ Z, cs.length = Z := ⟨_, rfl⟩
  rw [hZ] at HC q1 hz hz2 HL HH ⊢
  have hmk := mk_row (P := Tryz.prog) 30 3 (.int .i64 0) 8 Tryz.underlying30 info_int rfl (by decide) (2 * (Z : Int)) (by omega) (by omega)
  have HZ := hid hZ
  clear hx e h8 hl hZ
  go_enter Tryz.func117, Tryz.ntmps117
  go_wp2_with (go_at_call 152; refine HC.out.mono ?_; rintro e w1 ⟨rfl, hF⟩; have HF := hid hF; clear hF)
  have hcp := tree_copied HF.out hG HZ.out
  rw [run_copy_row (P := Tryz.prog) _ 30 30 3 3 w1.heap.size Z (2 * Z - Z) (2 * Z - Z) ad Z c (List.replicate (2 * Z) (Value.int .i64 0)).toArray 3 (ints' cs) Tryz.underlying30 info1 ((Has.made w1 (.int .i64 0) (2 * Z) 3).alloc _) (by rw [ints'_length, HZ.out, show 2 * Z - Z = Z by omega]; exact (Nat.min_self Z).symm) (HX.out.new ((HF.out.alloc _).alloc _)).cell (by rw [ints'_length, HZ.out]; simp; omega) (ints'_one cs)]
  rw [← List.append_assoc] at hcp
  obtain ⟨w2, hw2⟩ : ∃ w2, World.setRow ((w1.alloc (.cells (madeCells #[.int .i64 0] (2 * Z)) 3)).alloc (.cells #[.int .i64 (Z : Int), .slice (some ⟨w1.heap.size, 0, none⟩) (2 * Z) (2 * Z)] 151)) w1.heap.size (((List.replicate (2 * Z) (Value.int .i64 0)).toArray.toList.take Z ++ ints' cs ++ (List.replicate (2 * Z) (Value.int .i64 0)).toArray.toList.drop (Z + (ints' cs).length)).toArray) = w2 := ⟨_, rfl⟩
  rw [hw2] at hcp ⊢
  have HC2 := hid hcp
  obtain ⟨t0, t1, tf⟩ := HC2.out.2.1.two
  clear hcp hw2
  go_wp2_with fail
  have HB := hid (show w.heap.size ≤ w1.heap.size from HF.out.size)
  obtain ⟨D, hD⟩ : ∃ D, w1.heap.size = D := ⟨_, rfl⟩
  rw [hD] at HC2 HB t0 t1 tf
  simp only [hD]
  clear t0 t1 tf hmk HC HH hD
  go_loopw [6] (fun i wr => ∃ (k : Nat) (ns : List Int), k < Z ∧ i = .int .i64 k ∧ Hid (HeapTo ns h cs (k + 1) ∧ Has wr D (ints' ns) 3 ∧ Has wr (D + 1) [.int .i64 (Z : Int), .slice (some ⟨D, 0, none⟩) (2 * Z) (2 * Z)] 151 ∧ Fr Nil1 w wr)) (fun i _ => (intOf i).toNat)
  case atStart => exact ⟨Z - 1, List.replicate Z 0 ++ cs, by omega, by go_num, hid ⟨by have hs := HeapTo.start (cs := cs) (h := h) (by rw [HZ.out, HL.out]) H8.out; rw [← HL.out] at hs; rw [show Z - 1 + 1 = Z by omega]; exact hs, HC2.out.1, HC2.out.2.1, HC2.out.2.2⟩⟩
  case round =>
    obtain ⟨k, ns, hk, rfl, HR⟩ := hrel
    rcases Nat.eq_zero_or_pos k with rfl | hk0
    · go_wp2_with fail
      go_ret2
      refine ⟨D + 1, D, rfl, ⟨by show NG ≤ D + 1; have := HB.out; omega, by have := HB.out; omega, h9, h1, H8.out, ns, [], ?_, ?_, HR.out.1.done⟩, HR.out.2.2.2, by have := HB.out; omega, HB.out⟩
      · have := HR.out.2.2.1
        rw [HL.out] at this
        exact this
      · rw [List.append_nil]; exact HR.out.2.1
    · have hns : ns.length = 2 * Z := by rw [HR.out.1.len, HL.out]
      have b1 := HR.out.1.small (2 * k) (by omega) (by omega) (by rw [← HL.out]; omega)
      have b2 := HR.out.1.small (2 * k + 1) (by omega) (by omega) (by rw [← HL.out]; omega)
      have c1 := HR.out.2.1.cell (2 * k)
      rw [ints'_get _ _ (by omega)] at c1
      have c2 := HR.out.2.1.cell (2 * k + 1)
      rw [ints'_get _ _ (by omega)] at c2
      have c3 := HR.out.2.1.cell k
      rw [ints'_get _ _ (by omega)] at c3
      have cf := HR.out.2.1.frozen
      obtain ⟨s0, s1, sf⟩ := HR.out.2.2.1.two
      have HT := hid (HR.out.1.step hk0 (by rw [← HL.out]; exact hk))
      have h4 : ((2 : Int) ^ h) = (Z : Int) := by rw [HL.out, Int.natCast_pow]; rfl
      rw [h4] at b1 b2
      obtain ⟨b10, b11⟩ := b1
      obtain ⟨b20, b21⟩ := b2
      clear h4
      have i0 : (0 : Int) ≤ 2 * (k : Int) := by omega
      have i1 : 2 * (k : Int) < 2 * (Z : Int) := by omega
      have i2 : (0 : Int) ≤ 2 * (k : Int) + 1 := by omega
      have i3 : 2 * (k : Int) + 1 < 2 * (Z : Int) := by omega
      have i4 : (k : Int) < 2 * (Z : Int) := by omega
      have i5 : (2 * (k : Int)).toNat = 2 * k := by omega
      have i6 : (2 * (k : Int) + 1).toNat = 2 * k + 1 := by omega
      have i7 : k < 2 * Z := by omega
      have v1 : IntKind.i64.wrap (2 * (k : Int)) = 2 * (k : Int) := IntWalk.i64_in _ (by omega)
      have v2 : IntKind.i64.wrap (2 * (k : Int) + 1) = 2 * (k : Int) + 1 := IntWalk.i64_in _ (by omega)
      have i8 : 2 * k + 1 < 2 * Z := by omega
      generalize ns.getD (2 * k) 0 = x at *
      generalize ns.getD (2 * k + 1) 0 = y at *
      generalize ns.getD k 0 = z at *
      have v3 : IntKind.i64.wrap (x + y) = x + y := IntWalk.i64_in _ (by omega)
      have kp0 : (wr.setCell ⟨D, k, none⟩ (.int .i64 (x + y))).cell? ⟨D + 1, 1, none⟩ = some (.slice (some ⟨D, 0, none⟩) (2 * Z) (2 * Z)) := (HR.out.2.2.1.other _ (by show D + 1 ≠ D; omega)).cell 1
      have kp1 : (wr.setCell ⟨D, k, none⟩ (.int .i64 (x + y))).cell? ⟨D, 2 * k, none⟩ = some (.int .i64 x) := ((HR.out.2.1.set k (.int .i64 (x + y))).cell (2 * k)).trans ((List.getElem?_set_ne (by omega)).trans ((HR.out.2.1.cell (2 * k)).symm.trans c1))
      have kp2 : (wr.setCell ⟨D, k, none⟩ (.int .i64 (x + y))).cell? ⟨D, 2 * k + 1, none⟩ = some (.int .i64 y) := ((HR.out.2.1.set k (.int .i64 (x + y))).cell (2 * k + 1)).trans ((List.getElem?_set_ne (by omega)).trans ((HR.out.2.1.cell (2 * k + 1)).symm.trans c2))
      have KP := hid (And.intro kp0 (And.intro kp1 kp2))
      clear kp0 kp1 kp2
      go_wp2_with fail
      go_region_held3 (fun w' => w'.cell? ⟨D + 1, 1, none⟩ = some (.slice (some ⟨D, 0, none⟩) (2 * Z) (2 * Z)) ∧ w'.cell? ⟨D, 2 * k, none⟩ = some (.int .i64 x) ∧ w'.cell? ⟨D, 2 * k + 1, none⟩ = some (.int .i64 y)) (first | exact ⟨s1, c1, c2⟩ | exact KP.out) (fail)
      go_wp2_with fail
      refine ⟨⟨k - 1, ns.set k (x + y), by omega, by go_num, hid ⟨by rw [show k - 1 + 1 = k by omega]; exact HT.out, ?_, (HR.out.2.2.1.other _ (by show D + 1 ≠ D; omega)).drew, (HR.out.2.2.2.setNew _ _ hG HB.out).drew⟩⟩, by simp [intOf]; omega⟩
      have := HR.out.2.1.set k (.int .i64 (x + y))
      have e := ints'_set ns [] k (x + y) (by omega)
      rw [List.append_nil, List.append_nil] at e
      rw [e] at this
      exact this.drew
end Go.Proofs.YtechphliifginaaGreatDoor

/- tree.Add. -/
set_option linter.unusedVariables false
set_option linter.unusedSimpArgs false
namespace Go.Proofs.YtechphliifginaaGreatDoor
open Go.RowKit

/-- Between two rounds: node i is next. -/
structure AddI (w0 : World) (t d h : Nat) (cs : List Int) (n : Int) (i : Nat) (wr : World) : Prop where
  lt : i < 2 ^ h
  row : ∃ (ns : List Int) (ex : List Value), Has wr t [.int .i64 (2 ^ h : Nat), .slice (some ⟨d, 0, none⟩) (2 * 2 ^ h) (2 * 2 ^ h + ex.length)] 151 ∧ Has wr d (ints' ns ++ ex) 3 ∧ HeapOff ns h cs i n ∧ (∀ k, 1 ≤ k → k ≤ i → 0 ≤ ns.getD k 0 ∧ ns.getD k 0 ≤ 4096)
  fr : Fr (fun k => k = d) w0 wr

set_option maxRecDepth 100000 in
set_option maxHeartbeats 4000000 in
theorem treeAdd_ok {t d h : Nat} {cs : List Int} {w : World} (H : TreeR w t d h cs) (s : Nat) (n : Int) (hs : s < 2 ^ h) (h0 : 0 ≤ cs.getD s 0 + n) (h8 : cs.getD s 0 + n ≤ 8) :
    Calls Tryz.prog 76 #[.pointer (some ⟨t, 0, none⟩), .int .i64 s, .int .i64 n] w fun e w' => e = .returned (.int .i64 0) ∧ TreeR w' t d h (cs.set s (cs.getD s 0 + n)) ∧ Fr (fun k => k = d) w w' := by
  obtain ⟨ns, ex, r1, r2, r3⟩ := H.row
  have hz := p2_le H.h9
  have hgd := H.gd
  have hcs := H.c8 _ (getD_mem (show s < cs.length by rw [r3.clen]; exact hs))
  have hne := H.ne
  have hh1 := H.h1
  have hz2 : 2 ≤ 2 ^ h := by have := Nat.pow_le_pow_right (n := 2) (by omega) hh1; simpa using this
  have hb : ∀ k, 1 ≤ k → k < 2 * 2 ^ h → 0 ≤ ns.getD k 0 ∧ ns.getD k 0 ≤ 4096 := fun k k1 k2 => by
    have := r3.bound H.c8 k k1 k2
    have h4 : ((2 ^ h : Nat) : Int) = 2 ^ h := by rw [Int.natCast_pow]; rfl
    rw [← h4] at this
    omega
  have HFirst := hid (fun u : FrW w => show AddI w t d h (cs.set s (cs.getD s 0 + n)) n ((2 ^ h + s) / 2) ((u.u.setCell ⟨d, 2 ^ h + s, none⟩ (.int .i64 (cs.getD s 0 + n)))) from by
    have hn := r3.add s hs n hh1
    have e := r3.leaf s hs
    refine ⟨by omega, ⟨ns.set (2 ^ h + s) (ns.getD (2 ^ h + s) 0 + n), ex, (r1.fr' u.h id).other _ hne, ?_, hn, fun k k1 k2 => ?_⟩, (u.h.mono (fun _ _ h => h.elim)).setCell _ _ hgd (fun _ => rfl)⟩
    · rw [e, ← ints'_set _ _ _ _ (by rw [r3.len]; omega)]
      exact (r2.fr' u.h id).set _ _
    · rw [getD_setI _ _ _ _ (by rw [r3.len]; omega), if_neg (by omega)]
      exact hb k k1 (by omega))
  have HStep := hid (fun (i : Nat) (wr : World) (hi : 1 ≤ i) (ha : AddI w t d h (cs.set s (cs.getD s 0 + n)) n i wr) => show ∃ (x : Int) (c : Nat), (0 ≤ x ∧ x ≤ 4096) ∧ (wr.cell? ⟨t, 1, none⟩ = some (.slice (some ⟨d, 0, none⟩) (2 * 2 ^ h) c) ∧ wr.cell? ⟨d, i, none⟩ = some (.int .i64 x) ∧ ∀ j, wr.frozen? ⟨d, j, none⟩ = false) ∧ AddI w t d h (cs.set s (cs.getD s 0 + n)) n (i / 2) (wr.setCell ⟨d, i, none⟩ (.int .i64 (x + n))) from by
    obtain ⟨a1, ⟨ns', ex', b1, b2, b3, b4⟩, a3⟩ := ha
    have hil : i < ns'.length := by rw [b3.len]; omega
    refine ⟨ns'.getD i 0, _, b4 i hi (Nat.le_refl _), ⟨b1.cell 1, by rw [b2.cell i, ints'_append _ _ _ hil], b2.frozen⟩, by omega, ⟨ns'.set i (ns'.getD i 0 + n), ex', b1.other _ hne, ?_, b3.up hi a1, fun k k1 k2 => ?_⟩, a3.setCell _ _ hgd (fun _ => rfl)⟩
    · rw [← ints'_set _ _ _ _ hil]
      exact b2.set _ _
    · rw [getD_setI _ _ _ _ hil, if_neg (by omega)]
      exact b4 k k1 (by omega))
  have HDone := hid (fun (wr : World) (ha : AddI w t d h (cs.set s (cs.getD s 0 + n)) n 0 wr) => show TreeR wr t d h (cs.set s (cs.getD s 0 + n)) ∧ Fr (fun k => k = d) w wr from by
    obtain ⟨a1, ⟨ns', ex', b1, b2, b3, b4⟩, a3⟩ := ha
    refine ⟨⟨H.gt, hgd, H.h9, hh1, fun x hx => ?_, ns', ex', b1, b2, b3.done⟩, a3⟩
    rcases List.mem_or_eq_of_mem_set hx with hx | hx
    · exact H.c8 x hx
    · rw [hx]; omega)
  have HL : Hid (∀ (i : Nat) (wr : World), AddI w t d h (cs.set s (cs.getD s 0 + n)) n i wr → i < 2 ^ h) := hid (fun i wr ha => ha.lt)
  have c0 := r1.cell 0
  have c1 := r1.cell 1
  have c2 := r2.cell (2 ^ h + s)
  rw [ints'_append _ _ _ (by rw [r3.len]; omega), r3.leaf s hs] at c2
  have cf := r2.frozen
  have q0 : ∀ u : FrW w, u.u.cell? ⟨t, 0, none⟩ = some (.int .i64 (2 ^ h : Nat)) := fun u => (r1.fr' u.h id).cell 0
  have q1 : ∀ u : FrW w, u.u.cell? ⟨t, 1, none⟩ = some (.slice (some ⟨d, 0, none⟩) (2 * 2 ^ h) (2 * 2 ^ h + ex.length)) := fun u => (r1.fr' u.h id).cell 1
  have q2 : ∀ u : FrW w, u.u.cell? ⟨d, 2 ^ h + s, none⟩ = some (.int .i64 (cs.getD s 0)) := fun u => by
    rw [(r2.fr' u.h id).cell (2 ^ h + s), ints'_append _ _ _ (by rw [r3.len]; omega), r3.leaf s hs]
  have q3 : ∀ (u : FrW w) j, u.u.frozen? ⟨d, j, none⟩ = false := fun u j => (r2.fr' u.h id).frozen j
  generalize cs.set s (cs.getD s 0 + n) = cs' at *
  generalize cs.getD s 0 = x at *
  obtain ⟨C, hC⟩ : ∃ C, 2 * 2 ^ h + ex.length = C := ⟨_, rfl⟩
  rw [hC] at c1 q1
  generalize hZ : 2 ^ h = Z at *
  have HM := hid (fun w => treeMay_any (x + n) w)
  rw [show decide (0 ≤ x + n ∧ x + n ≤ 8) = true from decide_eq_true ⟨h0, h8⟩] at HM
  clear H r1 r2 r3 hb hZ hC
  obtain ⟨hcs1, hcs2⟩ := hcs
  have d1 : decide ((s : Int) < 0) = false := decide_eq_false (by omega)
  have d2 : decide ((Z : Int) ≤ (s : Int)) = false := decide_eq_false (by omega)
  have d2' : decide (Z ≤ s) = false := decide_eq_false (by omega)
  have d3 : decide (n < -8) = false := decide_eq_false (by omega)
  have d4 : decide (8 < n) = false := decide_eq_false (by omega)
  have v1 : IntKind.i64.wrap ((Z : Int) + s) = (Z : Int) + s := IntWalk.i64_in _ (by omega)
  have v2 : IntKind.i64.wrap (x + n) = x + n := IntWalk.i64_in _ (by omega)
  have i0 : (0 : Int) ≤ (Z : Int) + s := by omega
  have i1 : (Z : Int) + s < 2 * (Z : Int) := by omega
  have i2 : ((Z : Int) + s).toNat = Z + s := by omega
  have i3 : Z + s < 2 * Z := by omega
  go_enter Tryz.func76, Tryz.ntmps76
  go_wp2_with fail
  refine wp_scope_jumps 0 (fun a' wr => ∃ (i : Nat) (u3 u4 u5 u8 u9 u10 u11 u12 u13 u14 u15 u16 u17 u18 u19 u20 u21 u22 u23 u24 u25 u26 u27 u28 u29 u30 u31 u32 u33 u34 u35 u36 u37 u38 u39 u40 u41 u42 u43 u44 u45 u46 u47 u48 u49 u50 u51 u52 u53 u54 u55 u56 u57 u58 u59 u60 u61 u62 u63 u64 u65 u66 u67 : Value), 1 ≤ i ∧ a' = { tmps := #[.pointer (some ⟨t, 0, none⟩), .int .i64 (s : Int), .int .i64 n, u3, u4, u5, .int .i64 0, .int .i64 (i : Int), u8, u9, u10, u11, u12, u13, u14, u15, u16, u17, u18, u19, u20, u21, u22, u23, u24, u25, u26, u27, u28, u29, u30, u31, u32, u33, u34, u35, u36, u37, u38, u39, u40, u41, u42, u43, u44, u45, u46, u47, u48, u49, u50, u51, u52, u53, u54, u55, u56, u57, u58, u59, u60, u61, u62, u63, u64, u65, u66, u67], defers := [] } ∧ AddI w t d h cs' n i wr) (fun a' _ => (intOf (a'.tmps.getD 7 undef)).toNat) rfl ?_ ?_
  · go_wp2_with fail
    refine wp_region_fr w (Fr.refl _ _) (by kernel_rfl) (by kernel_rfl) ?_
    repeat (go_big_quiet_step ((go_at_call 136; refine (HM.out _).mono ?_; rintro e wB ⟨rfl, rfl⟩; exact ⟨rfl, _, rfl⟩)))
    refine wpQuiet_nil ?_
    rintro _ ⟨u1, rfl⟩
    have c0 := q0 u1
    have c1 := q1 u1
    have c2 := q2 u1
    have cf := q3 u1
    have HF1 := hid (HFirst.out u1)
    have e1 : (0 : Int) < ((Z : Int) + s) / 2 := by omega
    clear q0 q1 q2 q3 HFirst
    go_wp2_with fail
    go_step3
    go_wp2_with fail
    go_step3
    rw [show ((Z : Int) + s) / 2 = (((Z + s) / 2 : Nat) : Int) by omega]
    exact ⟨rfl, (Z + s) / 2, _, _, _, _, _, _, _, _, _, _, _, _, _, _, _, _, _, _, _, _, _, _, _, _, _, _, _, _, _, _, _, _, _, _, _, _, _, _, _, _, _, _, _, _, _, _, _, _, _, _, _, _, _, _, _, _, _, _, _, _, _, _, _, by omega, rfl, HF1.out⟩
  · rintro a' wr ⟨i, u3, u4, u5, u8, u9, u10, u11, u12, u13, u14, u15, u16, u17, u18, u19, u20, u21, u22, u23, u24, u25, u26, u27, u28, u29, u30, u31, u32, u33, u34, u35, u36, u37, u38, u39, u40, u41, u42, u43, u44, u45, u46, u47, u48, u49, u50, u51, u52, u53, u54, u55, u56, u57, u58, u59, u60, u61, u62, u63, u64, u65, u66, u67, hi, rfl, HA⟩
    obtain ⟨x', C', ⟨hx0, hx1⟩, ⟨g1, g2, gf⟩, HA'⟩ := HStep.out i wr hi HA
    have hil := HL.out i wr HA
    have HA1 := hid HA'
    have j0 : (i : Int) < 2 * (Z : Int) := by omega
    have v3 : IntKind.i64.wrap (x' + n) = x' + n := IntWalk.i64_in _ (by omega)
    clear HA HA' q0 q1 q2 q3 HFirst HStep
    by_cases hi2 : 2 ≤ i
    · have e1 : (0 : Int) < (i : Int) / 2 := by omega
      go_wp2_with fail
      go_step3
      rw [show (i : Int) / 2 = ((i / 2 : Nat) : Int) by omega]
      exact ⟨rfl, ⟨i / 2, _, _, _, _, _, _, _, _, _, _, _, _, _, _, _, _, _, _, _, _, _, _, _, _, _, _, _, _, _, _, _, _, _, _, _, _, _, _, _, _, _, _, _, _, _, _, _, _, _, _, _, _, _, _, _, _, _, _, _, _, _, _, _, by omega, rfl, HA1.out⟩, by simp [intOf]; omega⟩
    · have e1 : ¬ (0 : Int) < (i : Int) / 2 := by omega
      have HA2 := hid (show AddI w t d h cs' n 0 _ from (show i / 2 = 0 by omega) ▸ HA1.out)
      go_wp2_with fail
      simp only [Exit.jump]
      go_ret
      exact ⟨rfl, HDone.out _ HA2.out⟩
end Go.Proofs.YtechphliifginaaGreatDoor
