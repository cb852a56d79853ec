/- In one: S1, S2, S3, B5. -/
import Derived.Test.YtechphliifginaaGreatDoorGC
import Derived.Test.YtechphliifginaaGreatDoorGB
import Derived.Stop.RegionWithIn
/- spread: right, check, ahead: what a spread may be, and how many come ahead of a segment. -/
set_option linter.unusedVariables false
set_option linter.unusedSimpArgs false
namespace Go.Proofs.YtechphliifginaaGreatDoor
open Go.RowKit

theorem spBetween_any (n lo hi : Int) (w : World) : Calls Tryz.prog 187 #[.int .i64 n, .int .i64 lo, .int .i64 hi] w fun e w' => e = .returned (.bool (decide (lo ≤ n ∧ n ≤ hi))) ∧ w = w' := by
  by_cases h1 : lo ≤ n
  · by_cases h2 : n ≤ hi
    · have e : decide (lo ≤ n ∧ n ≤ hi) = true := decide_eq_true ⟨h1, h2⟩
      rw [e]
      clear e
      go_enter Tryz.func187, Tryz.ntmps187
      go_wp2_with fail
      go_ret
      exact ⟨rfl, rfl⟩
    · have e : decide (lo ≤ n ∧ n ≤ hi) = false := decide_eq_false (fun h => h2 h.2)
      rw [e]
      clear e
      go_enter Tryz.func187, Tryz.ntmps187
      go_wp2_with fail
      go_ret
      exact ⟨rfl, rfl⟩
  · have e : decide (lo ≤ n ∧ n ≤ hi) = false := decide_eq_false (fun h => h1 h.1)
    rw [e]
    clear e
    go_enter Tryz.func187, Tryz.ntmps187
    go_wp2_with fail
    go_ret
    exact ⟨rfl, rfl⟩

/-- May a spread be? -/
def spOk (n segs : Int) : Bool := decide (1 ≤ segs ∧ segs ≤ 512) && decide (0 ≤ n ∧ n ≤ 8 * segs)
theorem spOk_iff (n segs : Int) : spOk n segs = true ↔ (1 ≤ segs ∧ segs ≤ 512) ∧ 0 ≤ n ∧ n ≤ 8 * segs := by simp [spOk]
theorem spRight_any (n segs : Int) (w : World) : Calls Tryz.prog 186 #[.int .i64 n, .int .i64 segs] w fun e w' => e = .returned (.bool (spOk n segs)) ∧ w = w' := by
  have HB := hid (fun a b c w => spBetween_any a b c w)
  by_cases h1 : 1 ≤ segs ∧ segs ≤ 512
  · have e : decide (1 ≤ segs ∧ segs ≤ 512) = true := decide_eq_true h1
    have E1 := hid e
    have q : IntKind.i64.wrap (8 * segs) = 8 * segs := IntWalk.i64_in _ (by omega)
    have ES := hid (show spOk n segs = decide (0 ≤ n ∧ n ≤ 8 * segs) by unfold spOk; rw [e]; rfl)
    have hb := HB.out segs 1 512
    rw [e] at hb
    have HB1 := hid hb
    have HB2 := hid (HB.out n 0 (8 * segs))
    generalize decide (0 ≤ n ∧ n ≤ 8 * segs) = b2 at *
    clear e HB hb
    go_enter Tryz.func186, Tryz.ntmps186
    go_wp2_with (first | (go_at_call 187; first | (refine (HB1.out _).mono ?_; clear HB1; rintro e w1 ⟨rfl, rfl⟩) | (refine (HB2.out _).mono ?_; rintro e w1 ⟨rfl, rfl⟩)))
    go_ret
    rw [ES.out]
    exact ⟨rfl, rfl⟩
  · have e : decide (1 ≤ segs ∧ segs ≤ 512) = false := decide_eq_false h1
    have ES := hid (show spOk n segs = false by unfold spOk; rw [e]; rfl)
    have hb := HB.out segs 1 512
    rw [e] at hb
    have HB1 := hid hb
    clear e HB hb h1
    go_enter Tryz.func186, Tryz.ntmps186
    go_wp2_with (first | (go_at_call 187; (refine (HB1.out _).mono ?_; clear HB1; rintro e w1 ⟨rfl, rfl⟩)))
    go_ret
    rw [ES.out]
    exact ⟨rfl, rfl⟩

/-- What is wrong with a spread, and where it is. -/
def spCheck (n first segs : Int) : Int := if spOk n segs = false then 1 else if 0 ≤ first ∧ first ≤ 512 - segs then 0 else 10
theorem spCheck_any (n first segs : Int) (w : World) : Calls Tryz.prog 205 #[.int .i64 n, .int .i64 first, .int .i64 segs] w fun e w' => e = .returned (.int .i64 (spCheck n first segs)) ∧ w = w' := by
  have HR := hid (fun w => spRight_any n segs w)
  cases h : spOk n segs
  · rw [h] at HR
    have ES := hid (show spCheck n first segs = 1 by unfold spCheck; rw [if_pos h])
    clear h
    go_enter Tryz.func205, Tryz.ntmps205
    go_wp2_with (first | (go_at_call 186; refine (HR.out _).mono ?_; rintro e w1 ⟨rfl, rfl⟩))
    go_ret
    rw [ES.out]
    exact ⟨rfl, rfl⟩
  · rw [h] at HR
    have h1 := (spOk_iff n segs).1 h
    have HB := hid (fun w => spBetween_any first 0 (512 - segs) w)
    have q : IntKind.i64.wrap (512 - segs) = 512 - segs := IntWalk.i64_in _ (by omega)
    by_cases h2 : 0 ≤ first ∧ first ≤ 512 - segs
    · have ES := hid (show spCheck n first segs = 0 by unfold spCheck; rw [if_neg (by rw [h]; simp), if_pos h2])
      rw [decide_eq_true h2] at HB
      clear h h2
      go_enter Tryz.func205, Tryz.ntmps205
      go_wp2_with (first | (go_at_call 186; refine (HR.out _).mono ?_; rintro e w1 ⟨rfl, rfl⟩) | (go_at_call 187; refine (HB.out _).mono ?_; rintro e w1 ⟨rfl, rfl⟩))
      go_ret
      rw [ES.out]
      exact ⟨rfl, rfl⟩
    · have ES := hid (show spCheck n first segs = 10 by unfold spCheck; rw [if_neg (by rw [h]; simp), if_neg h2])
      rw [decide_eq_false h2] at HB
      clear h h2
      go_enter Tryz.func205, Tryz.ntmps205
      go_wp2_with (first | (go_at_call 186; refine (HR.out _).mono ?_; rintro e w1 ⟨rfl, rfl⟩) | (go_at_call 187; refine (HB.out _).mono ?_; rintro e w1 ⟨rfl, rfl⟩))
      go_ret
      rw [ES.out]
      exact ⟨rfl, rfl⟩

theorem spAhead_any (n segs : Int) (w : World) : Calls Tryz.prog 188 #[.int .i64 n, .int .i64 segs] w fun e w' =>
    e = .returned (.func (.func 208) #[] #[.pointer (some ⟨w.heap.size, 0, none⟩), .pointer (some ⟨w.heap.size + 1, 0, none⟩)]) ∧ (w.alloc (.cells #[.int .i64 n] 3)).alloc (.cells #[.int .i64 segs] 3) = w' := by
  go_enter Tryz.func188, Tryz.ntmps188
  go_wp2_with fail
  go_ret
  exact ⟨rfl, rfl⟩
theorem spAhead1_any (n segs k : Nat) (h0 : 0 < segs) (hs : segs ≤ 512) (hn : n ≤ 4096) (hk : k ≤ 512) (a b : Nat) (w : World) (ha : Has w a [.int .i64 n] 3) (hb : Has w b [.int .i64 segs] 3) :
    Calls Tryz.prog 208 #[.int .i64 k, .pointer (some ⟨a, 0, none⟩), .pointer (some ⟨b, 0, none⟩)] w fun e w' => e = .returned (.int .i64 (ahd n segs k : Nat)) ∧ w = w' := by
  obtain ⟨a0, af⟩ := ha.one
  obtain ⟨b0, bf⟩ := hb.one
  clear ha hb af bf
  have hm : k * n ≤ 512 * 4096 := Nat.mul_le_mul hk hn
  have hm' : ((k * n : Nat) : Int) = (k : Int) * n := Int.natCast_mul k n
  have q1 : IntKind.i64.wrap ((k : Int) * n) = (k : Int) * n := IntWalk.i64_in _ (by rw [← hm']; omega)
  have hd : k * n / segs ≤ k * n := Nat.div_le_self _ _
  have q2 : (0 : Int) ≤ (k : Int) * n := by rw [← hm']; omega
  have q3 : ((segs : Int) == 0) = false := by rw [beq_eq_false_iff_ne]; omega
  have hq : ((k : Int) * n) / segs = (ahd n segs k : Nat) := by unfold ahd; rw [← hm']; exact (Int.natCast_ediv _ _).symm
  have HQ := hid hq
  have q4 : (k : Int) * n ≤ 2097152 := by rw [← hm']; omega
  clear hq hm' hm hd
  obtain ⟨z, hz⟩ : ∃ z : Int, (k : Int) * n = z := ⟨_, rfl⟩
  have q5 : (0 : Int) < segs := by omega
  have q6 : 0 ≤ z / segs := Int.ediv_nonneg (by omega) (by omega)
  have q7 : z / segs ≤ z := Int.ediv_le_self _ (by omega)
  rw [hz] at q1 q2 HQ q4
  go_enter Tryz.func208, Tryz.ntmps208
  rw [← HQ.out]
  go_wp2_with fail
  go_ret
  exact ⟨rfl, rfl⟩
end Go.Proofs.YtechphliifginaaGreatDoor

/- spread: the places of a spread, as an iterator, and as a list. -/
set_option linter.unusedVariables false
set_option linter.unusedSimpArgs false
namespace Go.Proofs.YtechphliifginaaGreatDoor
open Go.RowKit Go.Shelf
attribute [local go_sem] Oper.semAt_some

/-- What a round keeps: the cells of the blocks of T. -/
structure KeepC (T : Nat → Prop) (W W' : World) : Prop where
  size : W.heap.size ≤ W'.heap.size
  block : ∀ k o, T k → W.heap[k]? = some o → o.isCells = true → W'.heap[k]? = some o
namespace KeepC
variable {T : Nat → Prop} {A B C : World}
theorem refl (T : Nat → Prop) (A : World) : KeepC T A A := ⟨Nat.le_refl _, fun _ _ _ h _ => h⟩
theorem trans (h : KeepC T A B) (k : KeepC T B C) : KeepC T A C := ⟨Nat.le_trans h.size k.size, fun j o hj ho hc => k.block j o hj (h.block j o hj ho hc) hc⟩
theorem putObj (T : Nat → Prop) (W : World) (l : Nat) (o o' : Obj) (ho : W.heap[l]? = some o) (hc : o.isCells = false) : KeepC T W (W.putObj l o') :=
  ⟨by simp [World.putObj], fun k p hk hp hpc => (World.putObj_heap_other (by rintro rfl; rw [ho] at hp; cases hp; rw [hc] at hpc; cases hpc)).trans hp⟩
theorem of_fr {S : Nat → Prop} (h : Fr S A B) (hS : ∀ k, T k → ¬ S k) : KeepC T A B :=
  ⟨h.size, fun k o hk ho _ => (h.block k (Array.getElem?_eq_some_iff.1 ho).1 (fun s => (hS k hk s).elim)).trans ho⟩
end KeepC
theorem Has.keepC {T : Nat → Prop} {A B : World} {b : Nat} {c : List Value} {ty : TypeId} (h : Has A b c ty) (hk : KeepC T A B) (hb : T b) : Has B b c ty := hk.block b _ hb h rfl

theorem spPlaces_any (n first segs : Int) (w : World) : Calls Tryz.prog 206 #[.int .i64 n, .int .i64 first, .int .i64 segs] w fun e w' =>
    e = .returned (.func (.func 216) #[] #[.pointer (some ⟨w.heap.size, 0, none⟩), .pointer (some ⟨w.heap.size + 2, 0, none⟩), .pointer (some ⟨w.heap.size + 1, 0, none⟩)]) ∧
    (((w.alloc (.cells #[.int .i64 n] 3)).alloc (.cells #[.int .i64 first] 3)).alloc (.cells #[.int .i64 segs] 3)) = w' := by
  go_enter Tryz.func206, Tryz.ntmps206
  go_wp2_with fail
  go_ret
  exact ⟨rfl, rfl⟩

theorem grownBy_drew (w : World) : w.grownBy w.drew none := ⟨rfl, rfl, rfl, Nat.le_refl _, fun _ _ _ => rfl⟩
def encN (x : Int) : Array Value := #[.int .i64 x]

set_option maxRecDepth 100000 in
set_option maxHeartbeats 2000000 in
theorem spPlaces1_in (n : Nat) (l Bn Bs Bf B : Nat) (m first segs : Nat) (h0 : 0 < segs) (hs : segs ≤ 512) (hm : m ≤ 8 * segs) (hf : first ≤ 512) (J Jx : List Int → World → Prop)
    (hY : ∀ pre x W, J pre W → pre.length < (plcL m first segs).length → YieldAt Fence.wide (n - 1) Tryz.prog l (encN x) W fun e W' =>
      (e = .returned (.bool true) ∧ J (pre ++ [x]) W' ∧ KeepC (fun k => k = Bn ∨ k = Bs ∨ k = Bf ∨ B ≤ k) W W') ∨ (e = .returned (.bool false) ∧ Jx (pre ++ [x]) W'))
    (W : World) (hB : B ≤ W.heap.size) (hJ : ∀ s A A', J s A → A.grownBy A' none → J s A') (hBn : Has W Bn [.int .i64 m] 3) (hBs : Has W Bs [.int .i64 segs] 3) (hBf : Has W Bf [.int .i64 first] 3) (h0 : J [] W) :
    CallsIn Fence.wide n Tryz.prog 216 #[.func (.yield l) #[] #[], .pointer (some ⟨Bn, 0, none⟩), .pointer (some ⟨Bs, 0, none⟩), .pointer (some ⟨Bf, 0, none⟩)] W fun e W' => (∃ v, e = .returned v) ∧
      ((∃ ys, ys = plcL m first segs ∧ J ys W') ∨ (∃ pre, pre <+: plcL m first segs ∧ Jx pre W')) := by
  obtain ⟨n0, nf⟩ := hBn.one
  obtain ⟨s0, sf⟩ := hBs.one
  have HA := hid (hJ _ _ ((W.alloc (.cells #[.int .i64 m] 3)).alloc (.cells #[.int .i64 segs] 3)) (hJ _ _ _ h0 (World.grownBy_alloc _ _ _)) (World.grownBy_alloc _ _ _))
  have HJJ := hid hJ
  have HC := hid (show Has W Bn [.int .i64 m] 3 ∧ Has W Bs [.int .i64 segs] 3 ∧ Has W Bf [.int .i64 first] 3 from ⟨hBn, hBs, hBf⟩)
  have HY := hid hY
  clear hY hJ h0 hBn hBs hBf
  (refine callsIn_of_wp Tryz.func216 rfl trivial ?_ rfl; simp only [Tryz.ntmps216, List.size_toArray, List.length_cons, List.length_nil, Nat.reduceAdd, Nat.reduceSub, Array.replicate_succ, Array.replicate_zero, List.push_toArray, List.append_toArray, List.nil_append, List.cons_append])
  have HL := hid (plcL_length m first segs h0)
  gi_wp2_with (first | ((first | refine ⟨trivial, wideNo, ?_⟩ | refine ⟨trivial, ?_⟩); gi_at_call 188; refine (callsIn_wide.2 (spAhead_any _ _ _)).mono ?_; rintro e w1 ⟨rfl, hw1⟩; have HW := hid hw1; have s1 := (show Has w1 Bs [.int .i64 segs] 3 from hw1 ▸ (HC.out.2.1.alloc _).alloc _).cell 0; clear hw1))
  have hsw : w1.heap.size = W.heap.size + 2 := by rw [← HW.out]; simp
  have HD := hid (show (Has w1 Bn [.int .i64 m] 3 ∧ Has w1 Bs [.int .i64 segs] 3 ∧ Has w1 Bf [.int .i64 first] 3) ∧ Has w1 W.heap.size [.int .i64 m] 3 ∧ Has w1 (W.heap.size + 1) [.int .i64 segs] 3 by
    refine ⟨⟨?_, ?_, ?_⟩, ?_, ?_⟩
    · exact HW.out ▸ (HC.out.1.alloc _).alloc _
    · exact HW.out ▸ (HC.out.2.1.alloc _).alloc _
    · exact HW.out ▸ (HC.out.2.2.alloc _).alloc _
    · exact HW.out ▸ (Has.new _ _ _).alloc _
    · have := Has.new (W.alloc (.cells #[.int .i64 m] 3)) [.int .i64 segs] 3
      rw [World.size_alloc] at this
      exact HW.out ▸ this)
  have HJ1 := hid (show J [] w1 from HW.out ▸ HA.out)
  obtain ⟨Q, hQ⟩ : ∃ Q, W.heap.size = Q := ⟨_, rfl⟩
  rw [hQ] at HD hB
  have HX := hid hsw
  clear HW HA HC n0 nf s0 sf s1 hsw
  simp only [hQ]
  gi_loopw [6, 7, 8, 13, 25] (fun _ _ _ k _ wr => ∃ j : Nat, j ≤ segs ∧ k = .int .i64 j ∧ Hid (J (plcTo m first segs j) wr ∧ (Has wr Bn [.int .i64 m] 3 ∧ Has wr Bs [.int .i64 segs] 3 ∧ Has wr Bf [.int .i64 first] 3) ∧ Has wr Q [.int .i64 m] 3 ∧ Has wr (Q + 1) [.int .i64 segs] 3)) (fun _ _ _ k _ _ => segs - (intOf k).toNat)
  case atStart => exact ⟨0, by omega, rfl, hid ⟨HJ1.out, HD.out⟩⟩
  case round =>
    obtain ⟨j, hj, rfl, HR⟩ := hrel
    by_cases hlt : j < segs
    · have hltI : (j : Int) < segs := by omega
      have c1 := HR.out.2.2.1
      have c2 := HR.out.2.2.2
      have HA1 := hid (spAhead1_any m segs (j + 1) h0 hs (by omega) (by omega) Q (Q + 1) wr c1 c2)
      have HA2 := hid (spAhead1_any m segs j h0 hs (by omega) (by omega) Q (Q + 1) wr c1 c2)
      have hsr := ahd_succ m segs j
      have hal := ahd_le m segs (j + 1) h0 (by omega)
      have hmul := shr_le m segs j h0 hm
      have HSh := hid hsr
      have q1 : IntKind.i64.wrap ((ahd m segs (j + 1) : Nat) - (ahd m segs j : Nat) : Int) = (shr m segs j : Nat) := by rw [show ((ahd m segs (j + 1) : Nat) - (ahd m segs j : Nat) : Int) = (shr m segs j : Nat) by omega]; exact IntWalk.i64_in _ (by omega)
      have hal2 : ahd m segs j ≤ 4096 := by omega
      have hal3 : ahd m segs (j + 1) ≤ 4096 := by omega
      clear c1 c2 hsr hal
      generalize ahd m segs (j + 1) = x1 at *
      generalize ahd m segs j = x0 at *
      have HP := hid (show plcTo m first segs (j + 1) = plcTo m first segs j ++ segTo (8 * (first + j)) (shr m segs j) (shr m segs j) from rfl)
      have HPP := hid (fun i hi => plc_prefix m first segs j i hlt hi)
      generalize shr m segs j = s at *
      gi_wp2_with (first | ((first | refine ⟨trivial, wideNo, ?_⟩ | refine ⟨trivial, ?_⟩); gi_at_call 208; first | (refine (callsIn_wide.2 HA1.out).mono ?_; clear HA1; rintro e w1 ⟨rfl, rfl⟩) | (refine (callsIn_wide.2 HA2.out).mono ?_; rintro e w1 ⟨rfl, rfl⟩)))
      gi_loopw [8, 25] (fun _ i wr => ∃ k : Nat, k ≤ s ∧ i = .int .i64 k ∧ Hid (J (plcTo m first segs j ++ segTo (8 * (first + j)) s k) wr ∧ (Has wr Bn [.int .i64 m] 3 ∧ Has wr Bs [.int .i64 segs] 3 ∧ Has wr Bf [.int .i64 first] 3) ∧ Has wr Q [.int .i64 m] 3 ∧ Has wr (Q + 1) [.int .i64 segs] 3)) (fun _ i _ => s - (intOf i).toNat)
      case atStart => exact ⟨0, by omega, rfl, hid ⟨by simpa [segTo] using HR.out.1, HR.out.2⟩⟩
      case round =>
        obtain ⟨k, hk, rfl, HR2⟩ := hrel
        by_cases hlt2 : k < s
        · have hlt2I : (k : Int) < s := by omega
          have hsn : ((s : Int) == 0) = false := by rw [beq_eq_false_iff_ne]; omega
          have HD2 := hid (show J (plcTo m first segs j ++ segTo (8 * (first + j)) s k) wr.drew ∧ (Has wr.drew Bn [.int .i64 m] 3 ∧ Has wr.drew Bs [.int .i64 segs] 3 ∧ Has wr.drew Bf [.int .i64 first] 3) ∧ Has wr.drew Q [.int .i64 m] 3 ∧ Has wr.drew (Q + 1) [.int .i64 segs] 3 from
            ⟨HJJ.out _ _ _ HR2.out.1 (grownBy_drew wr), HR2.out.2⟩)
          have f0 : wr.drew.cell? ⟨Bf, 0, none⟩ = some (.int .i64 first) := HD2.out.2.1.2.2.cell 0
          obtain ⟨fn, tmps, assign, body, hy, hR⟩ := HY.out _ ((8 * (first + j) + k * 8 / s : Nat) : Int) _ HD2.out.1 (by
            have h1 := (HPP.out (k + 1) (by omega)).length_le
            have h2 : segTo (8 * (first + j)) s (k + 1) = segTo (8 * (first + j)) s k ++ [((8 * (first + j) + k * 8 / s : Nat) : Int)] := rfl
            rw [h2, ← List.append_assoc, List.length_append] at h1
            simp only [List.length_cons, List.length_nil] at h1
            omega)
          have HRd := hid (hR.mono (R' := fun e W' => ∃ b : Bool, e = .returned (.bool b) ∧ Hid ((b = true ∧ J (plcTo m first segs j ++ segTo (8 * (first + j)) s (k + 1)) W' ∧ KeepC (fun k => k = Bn ∨ k = Bs ∨ k = Bf ∨ B ≤ k) wr.drew W') ∨ (b = false ∧ ∃ pre, pre <+: plcL m first segs ∧ Jx pre W'))) (by
            have e1 : plcTo m first segs j ++ segTo (8 * (first + j)) s (k + 1) = plcTo m first segs j ++ segTo (8 * (first + j)) s k ++ [((8 * (first + j) + k * 8 / s : Nat) : Int)] := by
              rw [List.append_assoc]; rfl
            rintro e W' (⟨rfl, h1, h2⟩ | ⟨rfl, h1⟩)
            · exact ⟨true, rfl, hid (.inl ⟨rfl, by rw [e1]; exact h1, h2⟩)⟩
            · exact ⟨false, rfl, hid (.inr ⟨rfl, _, by rw [← e1]; exact HPP.out (k + 1) (by omega), h1⟩)⟩))
          clear hR
          have hdv : k * 8 / s ≤ k * 8 := Nat.div_le_self _ _
          have hq : ((k * 8 / s : Nat) : Int) = (k : Int) * 8 / s := by rw [Int.natCast_ediv]; rfl
          have hsm : ((8 * (first + j) + k * 8 / s : Nat) : Int) = 8 * ((first : Int) + j) + (k : Int) * 8 / s := by rw [← hq]; omega
          have q2 : IntKind.i64.wrap ((first : Int) + j) = (first : Int) + j := IntWalk.i64_in _ (by omega)
          have q3 : IntKind.i64.wrap (8 * ((first : Int) + j)) = 8 * ((first : Int) + j) := IntWalk.i64_in _ (by omega)
          have q4 : IntKind.i64.wrap ((k : Int) * 8) = (k : Int) * 8 := IntWalk.i64_in _ (by omega)
          obtain ⟨z, hz⟩ : ∃ z, k * 8 / s = z := ⟨_, rfl⟩
          have hqz : (z : Int) = (k : Int) * 8 / s := by rw [← hz]; exact hq
          have hzb : z ≤ k * 8 := by rw [← hz]; exact hdv
          have q5 : IntKind.i64.wrap ((k : Int) * 8 / s) = (k : Int) * 8 / s := by rw [← hqz]; exact IntWalk.i64_in _ (by omega)
          have q6 : IntKind.i64.wrap (8 * ((first : Int) + j) + (k : Int) * 8 / s) = 8 * ((first : Int) + j) + (k : Int) * 8 / s := by rw [← hqz]; exact IntWalk.i64_in _ (by omega)
          have q7 : Int.tdiv ((k : Int) * 8) s = (k : Int) * 8 / s := Int.tdiv_eq_ediv_of_nonneg (by omega)
          rw [hsm] at hy
          have HSM := hid hsm
          clear hsm hq hdv hqz hzb hz
          unfold encN at hy
          gi_wp2
          gi_region_with (refine ⟨wideNo, HRd.out.mono ?_⟩; rintro e w' ⟨bb, rfl, hh⟩)
          all_goals (
            have HH := hid hh.out
            clear hh
            cases bb
            · have HE := hid (show ∃ pre, pre <+: plcL m first segs ∧ Jx pre w' by
                rcases HH.out with ⟨h, _⟩ | ⟨_, h⟩
                · cases h
                · exact h)
              clear HH
              gi_wp2
              refine bodyPost_ret (results_none rfl _ _ _) rfl ?_
              exact ⟨⟨_, rfl⟩, .inr HE.out⟩
            · have HE := hid (show J (plcTo m first segs j ++ segTo (8 * (first + j)) s (k + 1)) w' ∧ KeepC (fun k => k = Bn ∨ k = Bs ∨ k = Bf ∨ B ≤ k) wr.drew w' by
                rcases HH.out with ⟨_, h1, h2⟩ | ⟨h, _⟩
                · exact ⟨h1, h2⟩
                · cases h)
              clear HH
              gi_wp2
              refine ⟨⟨k + 1, by omega, by go_num, hid ⟨HE.out.1, ⟨HD2.out.2.1.1.keepC HE.out.2 (.inl rfl), HD2.out.2.1.2.1.keepC HE.out.2 (.inr (.inl rfl)), HD2.out.2.1.2.2.keepC HE.out.2 (.inr (.inr (.inl rfl)))⟩, HD2.out.2.2.1.keepC HE.out.2 (.inr (.inr (.inr (by omega)))), HD2.out.2.2.2.keepC HE.out.2 (.inr (.inr (.inr (by omega))))⟩⟩, by simp [intOf]; omega⟩)
        · have hks := hid (show k = s by omega)
          gi_wp2
          refine ⟨⟨j + 1, by omega, by go_num, ?_⟩, by simp [intOf]; omega⟩
          rw [HP.out]
          have := HR2.out
          rw [hks.out] at this
          exact hid this
    · have hj2 := hid (show j = segs by omega)
      gi_wp2
      go_end0
      refine ⟨⟨_, rfl⟩, .inl ⟨plcL m first segs, rfl, ?_⟩⟩
      have := HR.out.1
      rw [hj2.out] at this
      exact this
end Go.Proofs.YtechphliifginaaGreatDoor

/- spread.Places. -/
set_option linter.unusedVariables false
set_option linter.unusedSimpArgs false
namespace Go.Proofs.YtechphliifginaaGreatDoor
open Go.RowKit Go.Shelf
attribute [local go_sem] Oper.semAt_some

/-- 'make([]T, 0, n)', laid ahead of a walk. -/
theorem mk_cap {P : Program} (t e : TypeId) (z : Value) (bytes : Nat) (ht : P.underlying t = some (.slice e)) (hinfo : (P.info? e).map (fun i => (i.zero, i.size, i.bytes)) = some (some z, 1, bytes)) (hz : z.cells = #[z]) (hb : bytes ≤ 64)
    (n : Nat) (hn : n ≤ 1000000000) : ∀ W : World, (Instr.makeSlice t (.int .i64 0) (.int .i64 n)).run P W = .ok (.slice (some ⟨W.heap.size, 0, none⟩) 0 n) (W.alloc (.cells (madeCells #[z] n) e)) := by
  intro W
  obtain ⟨i, hi, hz0, hz1, hz2⟩ := info_parts hinfo
  have h1 : bytes * n ≤ 64 * n := Nat.mul_le_mul_right n hb
  have hq : (i.bytes : Int) * (n : Int) ≤ 281474976710656 := by
    rw [hz2]
    have h3 : ((bytes * n : Nat) : Int) ≤ 281474976710656 := by omega
    rwa [Int.natCast_mul] at h3
  have := run_make (P := P) W t e i z ht hi hz0 .i64 .i64 0 n (by omega) (by omega) hq (by omega)
  rw [hz1, hz] at this
  simpa using this

theorem own_same {w w' : World} {base : Nat} {e : TypeId} {size g n cap : Nat} {xs : List Value} (h : w.ownsRow base e size (.slice (some ⟨g, 0, none⟩) n cap) n xs) (hb : w'.heap[g]? = w.heap[g]?) : w'.ownsRow base e size (.slice (some ⟨g, 0, none⟩) n cap) n xs := by
  obtain ⟨h1, h2⟩ := h
  refine ⟨h1, ?_⟩
  rcases h2 with ⟨e, _⟩ | ⟨g', cap', cur, e, r1, r2, r3⟩
  · cases e
  · have eg : g = g' := by injection e with e1; injection e1 with e1; injection e1
    subst eg
    exact .inr ⟨g, cap', cur, e, r1, hb.trans r2, r3⟩

theorem spPlaces_stops (n : Nat) (Bn Bs Bf : Nat) (m first segs : Nat) (h0 : 0 < segs) (hs : segs ≤ 512) (hm : m ≤ 8 * segs) (hf : first ≤ 512) (w : World) (hBn : Has w Bn [.int .i64 m] 3) (hBs : Has w Bs [.int .i64 segs] 3) (hBf : Has w Bf [.int .i64 first] 3) :
    SeqStopsK Fence.wide n Tryz.prog 216 #[.pointer (some ⟨Bn, 0, none⟩), .pointer (some ⟨Bs, 0, none⟩), .pointer (some ⟨Bf, 0, none⟩)] encN (KeepC (fun k => k = Bn ∨ k = Bs ∨ k = Bf ∨ w.heap.size ≤ k)) (fun ys => ys = plcL m first segs) (fun pre => pre <+: plcL m first segs) (plcL m first segs).length w := fun l J Jx W hW hA _ hY hJ =>
  spPlaces1_in n l Bn Bs Bf w.heap.size m first segs h0 hs hm hf J Jx hY W hW.size (fun s A A' h hg => hA s A A' none h hg (fun r e => by cases e)) (hBn.below hW hBn.lt) (hBs.below hW hBs.lt) (hBf.below hW hBf.lt) hJ

theorem spPlacesL_bad (n first segs : Int) (w : World) (h : spCheck n first segs ≠ 0) :
    Calls Tryz.prog 176 #[.int .i64 n, .int .i64 first, .int .i64 segs] w fun e w' => e = .returned (.tuple #[.slice none 0 0, .int .i64 (spCheck n first segs)]) ∧ Fr Nil1 w w' := by
  have HC := hid (spCheck_any n first segs w)
  generalize spCheck n first segs = c at *
  have hb : (c != 0) = true := by rw [bne_iff_ne]; exact h
  have f0 : Fr Nil1 w (w.alloc (.cells #[.slice none 0 0] 30)) := (Fr.refl _ _).alloc _
  have HF := hid f0
  clear h f0
  go_enter Tryz.func176, Tryz.ntmps176
  go_wp2_with (first | (go_at_call 205; refine HC.out.mono ?_; rintro e w1 ⟨rfl, rfl⟩))
  go_ret2
  exact ⟨rfl, Fr.refl _ _⟩

set_option maxRecDepth 100000 in
set_option maxHeartbeats 2000000 in
theorem spPlacesL_any (m first segs : Nat) (h0 : 0 < segs) (hs : segs ≤ 512) (hm : m ≤ 8 * segs) (hf : first + segs ≤ 512) (w : World) (hG : NG ≤ w.heap.size) :
    Calls Tryz.prog 176 #[.int .i64 m, .int .i64 first, .int .i64 segs] w fun e w' => ∃ v, e = .returned (.tuple #[v, .int .i64 0]) ∧ RowI w' w.heap.size v (plcL m first segs) ∧ Fr Nil1 w w' := by
  refine (callsIn_wide (n := 3)).1 ?_
  obtain ⟨i0, hi, hz0, hz1, hz2⟩ := info_parts info_int
  have hch : spCheck (m : Int) first segs = 0 := by
    unfold spCheck
    rw [if_neg (by rw [(spOk_iff m segs).2 ⟨by omega, by omega⟩]; simp), if_pos (by omega)]
  have HC := hid (fun w => hch ▸ spCheck_any (m : Int) first segs w)
  have hmk := mk_cap (P := Tryz.prog) 30 3 (.int .i64 0) 8 Tryz.underlying30 info_int rfl (by decide) m (by omega)
  have HLen := hid (plcL_length m first segs h0)
  have HG := hid hG
  clear hch
  (refine callsIn_of_wp_marks Tryz.func176 rfl trivial ?_ rfl; simp only [Tryz.ntmps176, List.size_toArray, List.length_cons, List.length_nil, Nat.reduceAdd, Nat.reduceSub, Array.replicate_succ, Array.replicate_zero, List.push_toArray, List.append_toArray, List.nil_append, List.cons_append])
  gi_wp2_with (first | ((first | refine ⟨trivial, wideNo, ?_⟩ | refine ⟨trivial, ?_⟩); gi_at_call 205; refine (callsIn_wide.2 (HC.out _)).mono ?_; rintro e w1 ⟨rfl, rfl⟩) | ((first | refine ⟨trivial, wideNo, ?_⟩ | refine ⟨trivial, ?_⟩); gi_at_call 206; refine (callsIn_wide.2 (spPlaces_any _ _ _ _)).mono ?_; rintro e w1 ⟨rfl, rfl⟩))
  obtain ⟨Q, hQ⟩ : ∃ Q, w.heap.size = Q := ⟨_, rfl⟩
  have hfr0 : Fr Nil1 w (((((w.alloc (.cells (madeCells #[.int .i64 0] m) 3)).alloc (.cells #[.slice (some ⟨w.heap.size, 0, none⟩) 0 m] 30)).alloc (.cells #[.int .i64 m] 3)).alloc (.cells #[.int .i64 first] 3)).alloc (.cells #[.int .i64 segs] 3)) := (((((Fr.refl _ _).alloc _).alloc _).alloc _).alloc _).alloc _
  have hrow0 := (((((World.ownsRow_made (base := Q) (e := 3) (size := 1) w (madeCells #[.int .i64 0] m) m (by omega) (by unfold maxLen; omega) (by rw [size_madeCells]; simp)).alloc (.cells #[.slice (some ⟨w.heap.size, 0, none⟩) 0 m] 30)).alloc (.cells #[.int .i64 m] 3)).alloc (.cells #[.int .i64 first] 3)).alloc (.cells #[.int .i64 segs] 3))
  have hb1 := (((Has.new (w.alloc (.cells (madeCells #[.int .i64 0] m) 3)) [.slice (some ⟨w.heap.size, 0, none⟩) 0 m] 30).alloc (.cells #[.int .i64 m] 3)).alloc (.cells #[.int .i64 first] 3)).alloc (.cells #[.int .i64 segs] 3)
  have hb2 := ((Has.new ((w.alloc (.cells (madeCells #[.int .i64 0] m) 3)).alloc (.cells #[.slice (some ⟨w.heap.size, 0, none⟩) 0 m] 30)) [.int .i64 m] 3).alloc (.cells #[.int .i64 first] 3)).alloc (.cells #[.int .i64 segs] 3)
  have hb3 := (Has.new (((w.alloc (.cells (madeCells #[.int .i64 0] m) 3)).alloc (.cells #[.slice (some ⟨w.heap.size, 0, none⟩) 0 m] 30)).alloc (.cells #[.int .i64 m] 3)) [.int .i64 first] 3).alloc (.cells #[.int .i64 segs] 3)
  have hb4 := Has.new ((((w.alloc (.cells (madeCells #[.int .i64 0] m) 3)).alloc (.cells #[.slice (some ⟨w.heap.size, 0, none⟩) 0 m] 30)).alloc (.cells #[.int .i64 m] 3)).alloc (.cells #[.int .i64 first] 3)) [.int .i64 segs] 3
  simp only [World.size_alloc] at hb1 hb2 hb3 hb4
  obtain ⟨W0, hW0⟩ : ∃ W0, (((((w.alloc (.cells (madeCells #[.int .i64 0] m) 3)).alloc (.cells #[.slice (some ⟨w.heap.size, 0, none⟩) 0 m] 30)).alloc (.cells #[.int .i64 m] 3)).alloc (.cells #[.int .i64 first] 3)).alloc (.cells #[.int .i64 segs] 3)) = W0 := ⟨_, rfl⟩
  have hsz : W0.heap.size = w.heap.size + 5 := by rw [← hW0]; simp
  rw [hW0] at hfr0 hrow0 hb1 hb2 hb3 hb4 ⊢
  clear hW0 hmk
  rw [hQ] at hrow0 hb1 hb2 hb3 hb4 hsz hG ⊢
  have HFr := hid hfr0
  refine wpIn_rangeFunc_ownG rfl (by omega) (gf := 216) (lb := #[.pointer (some ⟨Q + 2, 0, none⟩), .pointer (some ⟨Q + 4, 0, none⟩), .pointer (some ⟨Q + 3, 0, none⟩)]) rfl trivial (enters_of Tryz.func216 (by kernel_rfl) rfl)
    (spPlaces_stops _ (Q + 2) (Q + 4) (Q + 3) m first segs h0 hs hm (by omega) W0 hb2 hb4 hb3) (fun h k => h.trans k) (fun W l o o' hl ho hc hw => KeepC.putObj _ W l o o' ho hc) (Below.refl _ _) (fun _ => rfl)
    (fun pre W => Has W (Q + 1) [.slice (some ⟨Q, 0, none⟩) pre.length m] 30 ∧ W.ownsRow Q 3 1 (.slice (some ⟨Q, 0, none⟩) pre.length m) pre.length (pre.map (Value.int .i64)) ∧ Fr Nil1 w W ∧ Q + 5 ≤ W.heap.size)
    (fun _ _ _ => False)
    (fun s A B row hs hg hrow => ⟨hs.1.grownBy hg (fun r e => (hrow r e).2), own_same hs.2.1 (hg.block Q (by have := hs.2.2.2; omega) (fun e => by have := (hrow Q e.symm).1; omega)), hs.2.2.1.grownBy hg hrow (by omega) HG.out, Nat.le_trans hs.2.2.2 hg.size⟩)
    (fun _ _ _ _ _ hs _ _ => hs)
    ⟨hb1, hrow0, hfr0, by omega⟩
    (fun x => { tmps := #[.int .i64 m, .int .i64 first, .int .i64 segs, undef, undef, undef, .slice none 0 0, .int .i64 0, .int .i64 0, .pointer (some ⟨Q + 1, 0, none⟩), .int .i64 x, .int .i64 m, .int .i64 first, .int .i64 segs, .int .i64 0, .int .i64 0, .bool false, undef, .int .i64 m, .slice (some ⟨Q, 0, none⟩) 0 m, .int .i64 m, .int .i64 first, .int .i64 segs,
      .func (.func 216) #[] #[.pointer (some ⟨Q + 2, 0, none⟩), .pointer (some ⟨Q + 4, 0, none⟩), .pointer (some ⟨Q + 3, 0, none⟩)], .int .i64 x, undef, undef, undef, undef, undef], defers := [] }) ?assign ?body ?done ?stop
  case assign =>
    intro l x W K hK
    unfold encN
    gi_wp2
    exact hK
  case body =>
    rintro l pre x W ⟨hv, hrow, hB, hWs⟩ hlt
    rw [HLen.out] at hlt
    obtain ⟨hc, hfz⟩ := hv.one
    have Hv := hid hv
    have Hrow := hid hrow
    have HB := hid hB
    clear hv hrow hB hfr0 hrow0 hb1 hb2 hb3 hb4
    gi_wp2_with (gi_at_builtin; refine wpListIn_append_fits _ rfl _ _ 30 rfl Q 3 i0 1 Tryz.underlying30 hi hz1 Q _ m _ rfl (Hrow.out.alloc _) ⟨W.heap.size, 0, none⟩ 1 1 [.int .i64 x] rfl rfl (cell_one_new _ _ _) (by simp [Value.oneCell']) (by omega) ?_; intro w1 hown' hgrow; have hv1 : Has w1 (Q + 1) [.slice (some ⟨Q, 0, none⟩) pre.length m] 30 := (hgrow.block (Q + 1) (by simp; omega) (by simp)).trans (Hv.out.alloc _); obtain ⟨hc1, hf1⟩ := hv1.one; have HGr := hid hgrow; have HOw := hid hown'; have HV1 := hid hv1; clear hgrow hown' hv1)
    have hws := HGr.out.size
    rw [World.size_alloc] at hws
    have hs : Fr (fun k => k = Q ∨ k = Q + 1) W (w1.setCell ⟨Q + 1, 0, none⟩ (.slice (some ⟨Q, 0, none⟩) (pre.length + 1) m)) :=
      (((Fr.refl _ _).alloc _).grown HGr.out (fun k e => by cases e; omega) (fun k e _ => by cases e; exact .inl rfl)).setCell _ _ (by show NG ≤ Q + 1; omega) (fun _ => .inr rfl)
    refine ⟨((KeepsFrom.of_grownBy (World.grownBy_alloc W _ none) (fun j e => by cases e)).trans (KeepsFrom.of_grownBy HGr.out (fun j e => by cases e; omega))).trans ((KeepsOthers.setCell _ _ _).from _), KeepC.of_fr hs (fun k hk => by omega), ?_, ?_, HB.out.trans' hs (fun k _ hk h => by omega), Nat.le_trans hWs hs.size⟩
    · rw [List.length_append]
      exact HV1.out.set 0 _
    · rw [List.length_append, List.map_append]
      exact own_same HOw.out ((grownBy_setCell' w1 (Q + 1) _).block Q (by have := HGr.out.size; rw [World.size_alloc] at this; omega) (by simp))
  case done =>
    rintro D ys W hD rfl ⟨hv, hrow, hB, hWs⟩ hK
    obtain ⟨hc, hfz⟩ := hv.one
    gi_wp2
    refine ⟨by simp, .inl ⟨_, _, rfl, run_takeDeferred hK, ?_⟩⟩
    refine ⟨.tuple #[.slice (some ⟨Q, 0, none⟩) (plcL m first segs).length m, .int .i64 0], ?_, _, rfl, ?_, hB.putObj D _ (by omega) HG.out⟩
    · simp [results, Tryz.f176, go_sem]
    · rw [hQ]
      exact own_same hrow (World.putObj_heap_other (by omega))
  case stop =>
    rintro D c pre W _ _ h _
    exact h.elim
end Go.Proofs.YtechphliifginaaGreatDoor

/- Going through the occupied slots. -/
set_option linter.unusedVariables false
set_option linter.unusedSimpArgs false
namespace Go.Proofs.YtechphliifginaaGreatDoor
open Go.RowKit Go.Shelf
attribute [local go_sem] Oper.semAt_some

theorem SlotsR.keep {T : Nat → Prop} {A B : World} {f : SF} {σ : List (Option Int)} (h : SlotsR A f σ) (hk : KeepT T A B) (hT : ∀ k, f.mem k → T k) : SlotsR B f σ := by
  obtain ⟨ex, h1, h2⟩ := h.row
  obtain ⟨ws, ex', h3, h4, h5⟩ := h.bits.row
  have hg : GW B := ⟨Nat.le_trans h.g.size hk.size, fun j hj => (World.cell?_of_block (w := A) (a := ⟨0, j, none⟩) (hk.block 0 (.inl (by decide)) (Nat.lt_of_lt_of_le (by decide) h.g.size))).trans (h.g.tab j hj)⟩
  exact ⟨⟨hg, h.bits.gb, h.bits.gc, h.bits.n1, h.bits.n2, ws, ex', h3.keep hk (hT _ (by simp [SF.mem])), h4.keep hk (hT _ (by simp [SF.mem])), h5⟩, h.gs, h.gd, ex, h1.keep hk (hT _ (by simp [SF.mem])), h2.keep hk (hT _ (by simp [SF.mem]))⟩
theorem SlotsR.grownBy {A B : World} {f : SF} {σ : List (Option Int)} {row : Option Nat} {M : Nat} (h : SlotsR A f σ) (hg : A.grownBy B row) (hr : ∀ r, row = some r → M ≤ r ∧ ∃ o : Obj, A.heap[r]? = some o ∧ o.isCells = false) (hM : NG ≤ M) : SlotsR B f σ := by
  obtain ⟨ex, h1, h2⟩ := h.row
  obtain ⟨ws, ex', h3, h4, h5⟩ := h.bits.row
  have hr' := fun r e => (hr r e).2
  have hG : GW B := ⟨Nat.le_trans h.g.size hg.size, fun j hj => (World.cell?_of_block (w := A) (a := ⟨0, j, none⟩) (hg.block 0 (Nat.lt_of_lt_of_le (by decide) h.g.size) (fun e => by have h6 := (hr _ e.symm).1; have h7 : 0 < NG := (by decide); omega))).trans (h.g.tab j hj)⟩
  exact ⟨⟨hG, h.bits.gb, h.bits.gc, h.bits.n1, h.bits.n2, ws, ex', h3.grownBy hg hr', h4.grownBy hg hr', h5⟩, h.gs, h.gd, ex, h1.grownBy hg hr', h2.grownBy hg hr'⟩

def encIx (p : Nat × Int) : Array Value := #[.int .i64 (p.1 : Int), .int .i64 p.2]

set_option maxHeartbeats 400000 in
theorem gapsAll_any (f : Nat) (w : World) :
    Calls Tryz.prog 72 #[.pointer (some ⟨f, 0, none⟩)] w fun e w' => e = .returned (.func (.func 132) #[] #[.pointer (some ⟨w.heap.size, 0, none⟩)]) ∧ w.alloc (.cells #[.pointer (some ⟨f, 0, none⟩)] 31) = w' := by
  go_enter Tryz.func72, Tryz.ntmps72
  go_wp2
  go_ret
  exact ⟨rfl, rfl⟩

/-- The head of the loop: slot v is the next occupied one from i on. -/
def AllRel (f : SF) (Bn : Nat) (σ : List (Option Int)) (J : List (Nat × Int) → World → Prop) (v : Value) (wr : World) : Prop :=
  ∃ i : Nat, i ≤ σ.length ∧ v = .int .i64 (nxt (onOf σ) σ.length i) ∧ J (occTo σ i) wr ∧ SlotsR wr f σ ∧ Has wr Bn [.pointer (some ⟨f.s, 0, none⟩)] 31

set_option maxRecDepth 100000 in
set_option maxHeartbeats 1000000 in
theorem gapsAll1_in (n : Nat) (l Bn : Nat) (f : SF) (σ : List (Option Int)) (J Jx : List (Nat × Int) → World → Prop)
    (hY : ∀ pre x W, J pre W → pre.length < (occ σ).length → YieldAt Fence.wide (n - 1) Tryz.prog l (encIx x) W fun e W' =>
      (e = .returned (.bool true) ∧ J (pre ++ [x]) W' ∧ KeepT (fun k => k = Bn ∨ f.mem k) W W') ∨ (e = .returned (.bool false) ∧ Jx (pre ++ [x]) W'))
    (W : World) (hBn : Has W Bn [.pointer (some ⟨f.s, 0, none⟩)] 31) (hS : SlotsR W f σ) (h0 : J [] W) :
    CallsIn Fence.wide n Tryz.prog 132 #[.func (.yield l) #[] #[], .pointer (some ⟨Bn, 0, none⟩)] W fun e W' => (∃ v, e = .returned v) ∧
      ((∃ ys, ys = occ σ ∧ J ys W') ∨ (∃ pre, pre <+: occ σ ∧ Jx pre W')) := by
  refine callsIn_of_wp Tryz.func132 rfl trivial ?_ rfl
  simp only [Tryz.ntmps132, List.size_toArray, List.length_cons, List.length_nil, Nat.reduceAdd, Nat.reduceSub, Array.replicate_succ, Array.replicate_zero, List.push_toArray, List.append_toArray, List.nil_append, List.cons_append]
  obtain ⟨c0, f0⟩ := hBn.one
  have HS := hid hS
  have HY := hid hY
  have HB := hid hBn
  have H0 := hid h0
  clear hS hY hBn h0
  gi_wp2_with (first | ((first | refine ⟨trivial, wideNo, ?_⟩ | refine ⟨trivial, ?_⟩); gi_at_call 133; refine (callsIn_wide.2 (gapsNext_any HS.out 0 (by omega))).mono ?_; rintro e w1 ⟨rfl, rfl⟩))
  gi_loopw [3] (fun v wr => AllRel f Bn σ J v wr) (fun v _ => leftOf σ.length v)
  case atStart => exact ⟨0, by omega, rfl, H0.out, HS.out, HB.out⟩
  case round =>
    obtain ⟨i, hi, rfl, hJ, hSr, hBr⟩ := hrel
    have HN := hid (nxt_cases (onOf σ) σ.length i)
    have HJ := hid hJ
    have HSr := hid hSr
    have HBr := hid hBr
    have b0 := hBr.one
    obtain ⟨b0, bf⟩ := b0
    rcases nxt_cases (onOf σ) σ.length i with ⟨hn, hno⟩ | ⟨r, hn, h1, h2, h3, h4⟩
    · have Hno := hid hno
      rw [hn]
      clear hn hno hJ hSr hBr
      gi_wp2
      go_end0
      refine ⟨⟨_, rfl⟩, .inl ⟨occ σ, rfl, ?_⟩⟩
      have := HJ.out
      have e := occTo_none σ i (σ.length - i) (fun j h1 h2 => Hno.out j (by omega) (by omega))
      rw [show i + (σ.length - i) = σ.length by omega] at e
      show J (occTo σ σ.length) _
      rw [e]
      exact this
    · have hx : ∃ x, σ.getD r none = some x := by
        unfold onOf at h3
        cases e : σ.getD r none with
        | none => rw [e] at h3; cases h3
        | some x => exact ⟨x, rfl⟩
      obtain ⟨x, hx⟩ := hx
      have e1 : occTo σ r = occTo σ i := by
        have e := occTo_none σ i (r - i) (fun j a b => h4 j (by omega) (by omega))
        rwa [show i + (r - i) = r by omega] at e
      have e2 := occTo_some σ r x hx
      rw [e1] at e2
      have hlen : (occTo σ i).length < (occ σ).length := by
        have := (occTo_prefix σ (r + 1) (σ.length - (r + 1))).length_le
        rw [show r + 1 + (σ.length - (r + 1)) = σ.length by omega, e2, List.length_append] at this
        show _ < (occTo σ σ.length).length
        simp at this
        omega
      obtain ⟨fn, tmps, assign, body, hy, hR⟩ := HY.out _ (r, x) wr HJ.out hlen
      obtain ⟨ex, r1, r2⟩ := hSr.row
      obtain ⟨c0, c1, f0⟩ := r1.two
      have hcell := r2.cell r
      rw [slots_get _ _ _ h2, hx] at hcell
      replace hcell : wr.cell? ⟨f.d, r, none⟩ = some (.int .i64 x) := hcell
      unfold encIx at hy
      dsimp only at hy
      have HR := hid hR
      have E2 := hid e2
      have HX := hid hx
      have H3 := hid h3
      have hmx : σ.length ≤ 65536 := hSr.bits.n2
      rw [hn]
      have hr0 : 0 ≤ (r : Int) := by omega
      clear hn h4 hJ hSr hBr r1 r2 hR e1 e2 hx h3
      gi_wp2
      refine ⟨wideNo, HR.out.mono ?_⟩
      rintro e W3 (⟨rfl, hJ3, hk3⟩ | ⟨rfl, hJx3⟩)
      · have HS3 := hid (HSr.out.keep hk3 (fun k h => .inr h))
        have HB3 := hid (HBr.out.keep hk3 (.inl rfl))
        have b3 := HB3.out.one
        obtain ⟨b3, bf3⟩ := b3
        have HJ3 := hid hJ3
        clear hJ3 hk3
        gi_wp2_with (first | ((first | refine ⟨trivial, wideNo, ?_⟩ | refine ⟨trivial, ?_⟩); gi_at_call 133; refine (callsIn_wide.2 (gapsNext_any HS3.out _ (by omega))).mono ?_; rintro e w1 ⟨rfl, rfl⟩))
        go_roundw
        case rel =>
          refine ⟨r + 1, by omega, by go_num, ?_, HS3.out, HB3.out⟩
          have := HJ3.out
          rw [E2.out]
          exact this
        case measure =>
          apply leftOf_lt _ _ _ h2
          rcases nxt_cases (onOf σ) σ.length ((r : Int) + 1) with ⟨hn, _⟩ | ⟨q, hn, g1, _⟩
          · exact .inl hn
          · exact .inr ⟨q, hn, by omega⟩
      · have HJx := hid hJx3
        clear hJx3
        gi_wp2
        refine bodyPost_ret (results_none rfl _ _ _) rfl ?_
        refine ⟨⟨_, rfl⟩, .inr ⟨occTo σ i ++ [(r, x)], ?_, HJx.out⟩⟩
        rw [← E2.out]
        have := occTo_prefix σ (r + 1) (σ.length - (r + 1))
        rw [show r + 1 + (σ.length - (r + 1)) = σ.length by omega] at this
        exact this

theorem gapsAll_stops (n : Nat) (Bn : Nat) (f : SF) (σ : List (Option Int)) (w : World) (hBn : Has w Bn [.pointer (some ⟨f.s, 0, none⟩)] 31) (hS : SlotsR w f σ) :
    SeqStopsK Fence.wide n Tryz.prog 132 #[.pointer (some ⟨Bn, 0, none⟩)] encIx (KeepT (fun k => k = Bn ∨ f.mem k)) (fun ys => ys = occ σ) (fun pre => pre <+: occ σ) (occ σ).length w := fun l J Jx W hW _ _ hY h0 =>
  gapsAll1_in n l Bn f σ J Jx hY W (hBn.below hW hBn.lt) (hS.new (Fr.of_below hW)) h0

def idxs (l : List (Nat × Int)) : List Int := l.map fun p => (p.1 : Int)

set_option maxRecDepth 100000 in
set_option maxHeartbeats 2000000 in
theorem gapsPlaces_any {f : SF} {σ : List (Option Int)} {w : World} (h : SlotsR w f σ) :
    Calls Tryz.prog 20 #[.pointer (some ⟨f.s, 0, none⟩)] w fun e w' => ∃ v, e = .returned v ∧ RowI w' w.heap.size v (idxs (occ σ)) ∧ Fr Nil1 w w' := by
  refine (callsIn_wide (n := 3)).1 ?_
  obtain ⟨i0, hi, hz0, hz1, hz2⟩ := info_parts info_int
  have hlen : (occ σ).length ≤ 65536 := Nat.le_trans (occTo_length σ _) h.bits.n2
  have hG := h.g.size
  have hlt := h.lt
  have hge := h.ge
  refine callsIn_of_wp_marks Tryz.func20 rfl trivial ?_ rfl
  simp only [Tryz.ntmps20, List.size_toArray, List.length_cons, List.length_nil, Nat.reduceAdd, Nat.reduceSub, Array.replicate_succ, Array.replicate_zero, List.push_toArray, List.append_toArray, List.nil_append, List.cons_append]
  have HH := hid h
  clear h
  gi_wp2_with (first | ((first | refine ⟨trivial, wideNo, ?_⟩ | refine ⟨trivial, ?_⟩); gi_at_call 72; refine (callsIn_wide.2 (gapsAll_any f.s _)).mono ?_; rintro e w1 ⟨rfl, rfl⟩))
  have hfr0 : Fr Nil1 w ((w.alloc (.cells #[.slice none 0 0] 30)).alloc (.cells #[.pointer (some ⟨f.s, 0, none⟩)] 31)) := ((Fr.refl _ _).alloc _).alloc _
  have hO : Has ((w.alloc (.cells #[.slice none 0 0] 30)).alloc (.cells #[.pointer (some ⟨f.s, 0, none⟩)] 31)) w.heap.size [.slice none 0 0] 30 := (Has.new w [.slice none 0 0] 30).alloc _
  have hN : Has ((w.alloc (.cells #[.slice none 0 0] 30)).alloc (.cells #[.pointer (some ⟨f.s, 0, none⟩)] 31)) (w.heap.size + 1) [.pointer (some ⟨f.s, 0, none⟩)] 31 := by
    have := Has.new (w.alloc (.cells #[.slice none 0 0] 30)) [.pointer (some ⟨f.s, 0, none⟩)] 31
    rwa [World.size_alloc] at this
  obtain ⟨W0, hW0⟩ : ∃ W0, ((w.alloc (.cells #[.slice none 0 0] 30)).alloc (.cells #[.pointer (some ⟨f.s, 0, none⟩)] 31)) = W0 := ⟨_, rfl⟩
  have hsz : W0.heap.size = w.heap.size + 2 := by rw [← hW0]; simp
  rw [hW0] at hfr0 hO hN ⊢
  have hS0 : SlotsR W0 f σ := HH.out.new hfr0
  have hT : ∀ k, k < NG ∨ (k = w.heap.size + 1 ∨ f.mem k) → k < W0.heap.size ∧ k ≠ w.heap.size := by
    rintro k (hk | rfl | hk)
    · omega
    · omega
    · have := hlt k hk; omega
  refine wpIn_rangeFunc_ownG rfl (by omega) (gf := 132) (lb := #[.pointer (some ⟨w.heap.size + 1, 0, none⟩)]) rfl trivial (enters_of Tryz.func132 (by kernel_rfl) rfl)
    (gapsAll_stops _ (w.heap.size + 1) f σ W0 hN hS0) (fun h k => h.trans k) (fun W l o o' hl ho hc hw => KeepT.putObj W0 (fun k hk => (hT k hk).1) W l o o' hl ho hc hw) (Below.refl _ _) (fun _ => rfl)
    (fun pre W => (∃ v, Has W w.heap.size [v] 30 ∧ W.ownsRow W0.heap.size 3 1 v (idxs pre).length ((idxs pre).map (Value.int .i64))) ∧ Fr Nil1 w W ∧ W0.heap.size ≤ W.heap.size)
    (fun _ _ _ => False)
    (fun s A B row hs hg hrow => ⟨(by obtain ⟨⟨v, hv, hr⟩, _⟩ := hs; exact ⟨v, hv.grownBy hg (fun r e => (hrow r e).2), own_grown hr hg (fun r e => (hrow r e).2)⟩), hs.2.1.grownBy hg hrow (by omega) hG, Nat.le_trans hs.2.2 hg.size⟩)
    (fun _ _ _ _ _ hs _ _ => hs)
    ⟨⟨_, hO, World.ownsRow_nil _ _ _ _⟩, hfr0, Nat.le_refl _⟩
    (fun x => { tmps := #[.pointer (some ⟨f.s, 0, none⟩), undef, .slice none 0 0, .pointer (some ⟨w.heap.size, 0, none⟩), .int .i64 (x.1 : Int), .pointer (some ⟨f.s, 0, none⟩), .func (.func 132) #[] #[.pointer (some ⟨w.heap.size + 1, 0, none⟩)], .int .i64 (x.1 : Int), .int .i64 x.2, undef, undef, undef, undef, undef], defers := [] }) ?assign ?body ?done ?stop
  case assign =>
    intro l x W K hK
    unfold encIx
    gi_wp2
    exact hK
  case body =>
    rintro l pre x W ⟨⟨v, hv, hrow⟩, hB, hWs⟩ hlt
    obtain ⟨hc, hfz⟩ := hv.one
    have hpl : (idxs pre).length ≤ 65536 := by simp only [idxs, List.length_map]; omega
    have Hv := hid hv
    have Hrow := hid hrow
    have HB := hid hB
    gi_wp2_with (gi_at_builtin; refine wpListIn_append_own _ rfl _ _ 30 rfl W0.heap.size 3 i0 (.int .i64 0) 1 8 Tryz.underlying30 hi hz0 hz1 hz2 rfl (by decide) _ _ _ rfl (Hrow.out.alloc _) ⟨W.heap.size, 0, none⟩ 1 1 [.int .i64 (x.1 : Int)] rfl rfl (cell_one_new _ _ _) (by simp [Value.oneCell']) (by unfold maxLen; omega) (by omega) (by simp; omega) ?_; intro v' w1 hown' hgrow _; obtain ⟨g', cap', rfl⟩ := ownsRow_succ hown'; obtain ⟨hv1, hv2, hr2, hk2, hb2⟩ := Hv.out.appended (by decide) Hrow.out hWs hown' hgrow; obtain ⟨hc1, hf1⟩ := hv1.one; have hgrow' := hid hgrow; have hb2' := hid hb2; clear hgrow hb2)
    refine ⟨hk2.from _, KeepT.of_low (hk2.size) hb2'.out hT, ⟨_, hv2, ?_⟩, HB.out.appended hgrow'.out hG (fun j e => by have := own_block Hrow.out j e; omega) (Nat.le_refl _), Nat.le_trans hWs hk2.size⟩
    have e : idxs (pre ++ [x]) = idxs pre ++ [(x.1 : Int)] := by simp [idxs]
    rw [e, List.length_append, List.map_append]
    exact hr2
  case done =>
    rintro D ys W hD rfl ⟨⟨v, hv, hrow⟩, hB, hWs⟩ hK
    obtain ⟨hc, hfz⟩ := hv.one
    gi_wp2
    refine ⟨by simp, .inl ⟨_, _, rfl, run_takeDeferred hK, ?_⟩⟩
    exact ⟨_, results_tmp rfl _ _ _, v, rfl, own_mono (ownsRow_putObj hrow _ hK rfl) (by omega), hB.putObj D _ (by omega) hG⟩
  case stop =>
    rintro D c pre W _ _ h _
    exact h.elim
end Go.Proofs.YtechphliifginaaGreatDoor
