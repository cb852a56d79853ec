/- handle.Table.All: the live handles, rising: maps.Keys gone through, sorted. -/
import Derived.RangeFuncSeq
import Derived.RangeFuncStops
import Derived.Sort.MapsRangeIn
import Derived.Sort.KeysCollected
import Derived.Sort.OwnSortedInts
import Derived.Lib.SlKeysI
import Derived.Maps.OwnIn
import Derived.Test.YtonoaklajnfmiaaDoorH2
import Derived.Test.YtonoaklajnfmiaaDoorS3
import Derived.Test.YtonoaklajnfmiaaDoorSh
set_option linter.unusedVariables false
set_option linter.unusedSimpArgs false
namespace Go.Proofs.YtonoaklajnfmiaaDoor
open Go.RowKit Go.Maps Go.Sort Go.Shelf
attribute [local go_sem] Oper.semAt_some

/-- The live handles, rising. -/
def hnds (τ : List (Option Int)) : List Int := (occ τ).map fun p => ((p.1 : Int) + 1)
theorem hnds_length (τ : List (Option Int)) : (hnds τ).length = (occ τ).length := by simp [hnds]
theorem occTo_mem (τ : List (Option Int)) : ∀ n (p : Nat × Int), p ∈ occTo τ n ↔ p.1 < n ∧ τ.getD p.1 none = some p.2
  | 0, p => by simp [occTo]
  | n + 1, p => by
    have ih := occTo_mem τ n p
    cases h : τ.getD n none with
    | none =>
      have e : occTo τ (n + 1) = occTo τ n := occTo_none τ n 1 (fun j a b => by rw [show j = n by omega, h]; rfl)
      rw [e, ih]
      constructor
      · rintro ⟨a, b⟩; exact ⟨by omega, b⟩
      · rintro ⟨a, b⟩
        refine ⟨?_, b⟩
        rcases Nat.lt_or_ge p.1 n with g | g
        · exact g
        · rw [show p.1 = n by omega, h] at b; cases b
    | some x =>
      rw [occTo_some τ n x h, List.mem_append, ih]
      constructor
      · rintro (⟨a, b⟩ | a)
        · exact ⟨by omega, b⟩
        · simp at a; subst a; exact ⟨by omega, h⟩
      · rintro ⟨a, b⟩
        rcases Nat.lt_or_ge p.1 n with g | g
        · exact .inl ⟨g, b⟩
        · right
          obtain ⟨p1, p2⟩ := p
          obtain rfl : p1 = n := by simp at a g; omega
          simp only at b
          rw [h] at b
          cases b
          simp
theorem occTo_sorted (τ : List (Option Int)) : ∀ n, (occTo τ n).Pairwise (fun p q => p.1 < q.1)
  | 0 => List.Pairwise.nil
  | n + 1 => by
    have ih := occTo_sorted τ n
    cases h : τ.getD n none with
    | none =>
      have e : occTo τ (n + 1) = occTo τ n := occTo_none τ n 1 (fun j a b => by rw [show j = n by omega, h]; rfl)
      rw [e]; exact ih
    | some x =>
      rw [occTo_some τ n x h, List.pairwise_append]
      refine ⟨ih, by simp, fun p hp q hq => ?_⟩
      simp at hq
      subst hq
      exact ((occTo_mem τ n p).1 hp).1
theorem hnds_mem (τ : List (Option Int)) (x : Int) : x ∈ hnds τ ↔ liveB τ x = true := by
  unfold hnds liveB slotAt
  rw [List.mem_map]
  constructor
  · rintro ⟨p, hp, rfl⟩
    obtain ⟨a, b⟩ := (occTo_mem τ _ p).1 hp
    rw [if_pos (by omega), show ((p.1 : Int) + 1).toNat - 1 = p.1 by omega, b]
    rfl
  · intro h
    split at h
    · next h1 =>
      cases e : τ.getD (x.toNat - 1) none with
      | none => rw [e] at h; cases h
      | some y =>
        refine ⟨(x.toNat - 1, y), (occTo_mem τ _ _).2 ⟨?_, e⟩, by show ((x.toNat - 1 : Nat) : Int) + 1 = x; omega⟩
        rcases Nat.lt_or_ge (x.toNat - 1) τ.length with g | g
        · exact g
        · rw [List.getD_eq_getElem?_getD, List.getElem?_eq_none g] at e; cases e
    · cases h
theorem hnds_sorted (τ : List (Option Int)) : (hnds τ).Pairwise (fun x y => x < y) := by
  unfold hnds
  rw [List.pairwise_map]
  exact (occTo_sorted τ _).imp (fun h => by omega)
theorem keys_sorted {τ : List (Option Int)} {ss : List Int} (hN : ss.Nodup) (hm : ∀ x, x ∈ ss ↔ liveB τ x = true) : ss.mergeSort (fun x y => decide (x ≤ y)) = hnds τ := by
  have hp : ss.Perm (hnds τ) := (List.perm_ext_iff_of_nodup hN ((hnds_sorted τ).imp (fun h => by omega))).2 (fun x => by rw [hm, hnds_mem])
  refine List.Perm.eq_of_pairwise (le := fun x y : Int => x ≤ y) (fun a b _ _ h1 h2 => by omega) ?_ ((hnds_sorted τ).imp (fun h => by omega)) ((List.mergeSort_perm _ _).trans hp)
  exact (List.pairwise_mergeSort (fun a b c h1 h2 => by simp at h1 h2 ⊢; omega) (fun a b => by simp; omega) ss).imp (fun h => by simpa using h)

set_option maxHeartbeats 1000000 in
theorem keys_any (mb : Option Nat) (w : World) :
    Calls Tryd.prog 65 #[.map mb] w fun e w' => e = .returned (.func (.func 79) #[] #[.pointer (some ⟨w.heap.size, 0, none⟩)]) ∧ w.alloc (.cells #[.map mb] 78) = w' := by
  go_enter Tryd.func65, Tryd.ntmps65
  go_wp2_with fail
  go_ret
  exact ⟨rfl, rfl⟩

set_option maxRecDepth 100000 in
set_option maxHeartbeats 1000000 in
theorem keys1_in (n : Nat) (hn : 1 ≤ n) (l Bm b nn : Nat) (D0 : DataW Unit) (J Jx : List Int → World → Prop)
    (hY : ∀ pre x W, J pre W → pre.length < Maps.size D0 → YieldAt Fence.wide (n - 1) Tryd.prog l #[.int .i64 x] W fun e W' =>
      (e = .returned (.bool true) ∧ J (pre ++ [x]) W' ∧ KeepsWalks W W') ∨ (e = .returned (.bool false) ∧ Jx (pre ++ [x]) W'))
    (W : World) (hJ : AbidesFrom W.heap.size J) (hm : W.cell? ⟨Bm, 0, none⟩ = some (.map (some b))) (hown : W.ownsMap Tryd.prog 3 (plainElem Tryd.prog 3) b nn D0) (h0 : J [] W) :
    CallsIn Fence.wide n Tryd.prog 79 #[.func (.yield l) #[] #[], .pointer (some ⟨Bm, 0, none⟩)] W fun e W' => (∃ v, e = .returned v) ∧
      ((∃ ss : List Int, (ss.Nodup ∧ ∀ x, x ∈ ss ↔ Maps.has D0 (.int .i64 x) = true) ∧ J ss W') ∨ (∃ pre : List Int, True ∧ Jx pre W')) := by
  (refine callsIn_of_wp Tryd.func79 rfl trivial ?_ rfl; simp only [Tryd.ntmps79, List.size_toArray, List.length_cons, List.length_nil, Nat.reduceAdd, Nat.reduceSub, Array.replicate_succ, Array.replicate_zero, List.push_toArray, List.append_toArray, List.nil_append, List.cons_append])
  gi_wp2_with (first
    | (gi_at_range; refine wpListIn_range_own _ rfl _ 78 rfl 3 3 lawInt Tryd.underlying78 _ b nn _ rfl hown ?_; intro w0 hrg0 hg0 hs0)
    | gi_in)
  go_frame
  gi_loopw [3] (fun _ wr => ∃ (left : Lit → Bool) (cnt : Nat) (ss : List Int), wr.ranges Tryd.prog 3 (plainElem Tryd.prog 3) b W.heap.size nn D0 left cnt ∧ ss.length + cnt ≤ Maps.size D0 ∧ CollectedI D0 left ss ∧ J ss wr)
    (fun _ wr => wr.rangeLeft b W.heap.size)
  case atStart =>
    exact ⟨_, _, [], hrg0, by simp, CollectedI.start D0, hJ [] W w0 none h0 hg0 (fun r e => by cases e)⟩
  case round =>
    obtain ⟨left, cnt, ss, hrg, hcs, hC, hJs⟩ := hrel
    gi_wp2_with (first
      | (gi_at_next; refine wpListIn_next_ranges _ rfl _ rfl 3 lawInt (plainElem Tryd.prog 3) (Value.int .i64) id (fun key kl hk => by obtain ⟨x, hx, _⟩ := Maps.keyOf_i64 Tryd.underlying3 hk; exact ⟨x, hx⟩) (fun v _ _ => ⟨v, rfl⟩) b W.heap.size nn _ _ _ rfl hrg ?_ ?_)
      | gi_in)
    · intro hc0 hl0
      gi_wp2
      go_end0
      exact ⟨⟨_, rfl⟩, .inl ⟨ss, ⟨hC.1, fun x => by rw [hC.2 x, hl0]; simp⟩, hJs⟩⟩
    · intro x c kl yd yp w2 cnt2 hkey hlk hv hat hrg2 hlt hg2 hs2 hen
      obtain ⟨x', ex, rfl, _⟩ := Maps.keyOf_i64 Tryd.underlying3 hkey
      obtain rfl : x = x' := by injection ex
      have hJ2 : J ss w2 := hJ ss wr w2 (some W.heap.size) hJs hg2 (fun r e => by cases e; exact ⟨Nat.le_refl _, hrg.iter_walk⟩)
      obtain ⟨fn, tmps, assign, body, hy, hR⟩ := hY ss x w2 hJ2 (by omega)
      clear hs2
      gi_wp2
      refine hR.mono ?_
      have hC2 := hC.step hlk hat
      rintro e W3 (⟨rfl, hJ3, hk3⟩ | ⟨rfl, hJx3⟩)
      · gi_wp2
        have hrg3 := hrg2.of_walks hk3
        go_roundw
        case rel => exact ⟨_, cnt2, ss ++ [x], hrg3, by simp; omega, hC2, hJ3⟩
        case measure => rw [hrg3.left_eq, hrg.left_eq]; exact hlt
      · gi_wp2
        refine bodyPost_ret (results_none rfl _ _ _) rfl ?_
        exact ⟨⟨_, rfl⟩, .inr ⟨ss ++ [x], trivial, hJx3⟩⟩
end Go.Proofs.YtonoaklajnfmiaaDoor
