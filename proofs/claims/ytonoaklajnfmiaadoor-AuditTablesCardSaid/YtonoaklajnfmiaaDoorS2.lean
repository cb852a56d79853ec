/- spread: the places of a spread, as an iterator, and as a list. -/
import Derived.Stop.RegionWithIn
import Derived.Test.YtonoaklajnfmiaaDoorS1
import Derived.Test.YtonoaklajnfmiaaDoorK1
set_option linter.unusedVariables false
set_option linter.unusedSimpArgs false
namespace Go.Proofs.YtonoaklajnfmiaaDoor
open Go.RowKit Go.Shelf
attribute [local go_sem] Oper.semAt_some

/-- What a round keeps: the cells of the blocks of T. -/
structure KeepC (T : Nat → Prop) (W W' : World) : Prop where
  size : W.heap.size ≤ W'.heap.size
  block : ∀ k o, T k → W.heap[k]? = some o → o.isCells = true → W'.heap[k]? = some o
namespace KeepC
variable {T : Nat → Prop} {A B C : World}
theorem refl (T : Nat → Prop) (A : World) : KeepC T A A := ⟨Nat.le_refl _, fun _ _ _ h _ => h⟩
theorem trans (h : KeepC T A B) (k : KeepC T B C) : KeepC T A C := ⟨Nat.le_trans h.size k.size, fun j o hj ho hc => k.block j o hj (h.block j o hj ho hc) hc⟩
theorem putObj (T : Nat → Prop) (W : World) (l : Nat) (o o' : Obj) (ho : W.heap[l]? = some o) (hc : o.isCells = false) : KeepC T W (W.putObj l o') :=
  ⟨by simp [World.putObj], fun k p hk hp hpc => (World.putObj_heap_other (by rintro rfl; rw [ho] at hp; cases hp; rw [hc] at hpc; cases hpc)).trans hp⟩
theorem of_fr {S : Nat → Prop} (h : Fr S A B) (hS : ∀ k, T k → ¬ S k) : KeepC T A B :=
  ⟨h.size, fun k o hk ho _ => (h.block k (Array.getElem?_eq_some_iff.1 ho).1 (fun s => (hS k hk s).elim)).trans ho⟩
end KeepC
theorem Has.keepC {T : Nat → Prop} {A B : World} {b : Nat} {c : List Value} {ty : TypeId} (h : Has A b c ty) (hk : KeepC T A B) (hb : T b) : Has B b c ty := hk.block b _ hb h rfl

theorem spPlaces_any (n first segs : Int) (w : World) : Calls Tryd.prog 61 #[.int .i64 n, .int .i64 first, .int .i64 segs] w fun e w' =>
    e = .returned (.func (.func 75) #[] #[.pointer (some ⟨w.heap.size, 0, none⟩), .pointer (some ⟨w.heap.size + 2, 0, none⟩), .pointer (some ⟨w.heap.size + 1, 0, none⟩)]) ∧
    (((w.alloc (.cells #[.int .i64 n] 3)).alloc (.cells #[.int .i64 first] 3)).alloc (.cells #[.int .i64 segs] 3)) = w' := by
  go_enter Tryd.func61, Tryd.ntmps61
  go_wp2_with fail
  go_ret
  exact ⟨rfl, rfl⟩

theorem grownBy_drew (w : World) : w.grownBy w.drew none := ⟨rfl, rfl, rfl, Nat.le_refl _, fun _ _ _ => rfl⟩
def encN (x : Int) : Array Value := #[.int .i64 x]

set_option maxRecDepth 100000 in
set_option maxHeartbeats 2000000 in
theorem spPlaces1_in (n : Nat) (l Bn Bs Bf B : Nat) (m first segs : Nat) (h0 : 0 < segs) (hs : segs ≤ 512) (hm : m ≤ 8 * segs) (hf : first ≤ 512) (J Jx : List Int → World → Prop)
    (hY : ∀ pre x W, J pre W → pre.length < (plcL m first segs).length → YieldAt Fence.wide (n - 1) Tryd.prog l (encN x) W fun e W' =>
      (e = .returned (.bool true) ∧ J (pre ++ [x]) W' ∧ KeepC (fun k => k = Bn ∨ k = Bs ∨ k = Bf ∨ B ≤ k) W W') ∨ (e = .returned (.bool false) ∧ Jx (pre ++ [x]) W'))
    (W : World) (hB : B ≤ W.heap.size) (hJ : ∀ s A A', J s A → A.grownBy A' none → J s A') (hBn : Has W Bn [.int .i64 m] 3) (hBs : Has W Bs [.int .i64 segs] 3) (hBf : Has W Bf [.int .i64 first] 3) (h0 : J [] W) :
    CallsIn Fence.wide n Tryd.prog 75 #[.func (.yield l) #[] #[], .pointer (some ⟨Bn, 0, none⟩), .pointer (some ⟨Bs, 0, none⟩), .pointer (some ⟨Bf, 0, none⟩)] W fun e W' => (∃ v, e = .returned v) ∧
      ((∃ ys, ys = plcL m first segs ∧ J ys W') ∨ (∃ pre, pre <+: plcL m first segs ∧ Jx pre W')) := by
  obtain ⟨n0, nf⟩ := hBn.one
  obtain ⟨s0, sf⟩ := hBs.one
  have HA := hid (hJ _ _ ((W.alloc (.cells #[.int .i64 m] 3)).alloc (.cells #[.int .i64 segs] 3)) (hJ _ _ _ h0 (World.grownBy_alloc _ _ _)) (World.grownBy_alloc _ _ _))
  have HJJ := hid hJ
  have HC := hid (show Has W Bn [.int .i64 m] 3 ∧ Has W Bs [.int .i64 segs] 3 ∧ Has W Bf [.int .i64 first] 3 from ⟨hBn, hBs, hBf⟩)
  have HY := hid hY
  clear hY hJ h0 hBn hBs hBf
  (refine callsIn_of_wp Tryd.func75 rfl trivial ?_ rfl; simp only [Tryd.ntmps75, List.size_toArray, List.length_cons, List.length_nil, Nat.reduceAdd, Nat.reduceSub, Array.replicate_succ, Array.replicate_zero, List.push_toArray, List.append_toArray, List.nil_append, List.cons_append])
  have HL := hid (plcL_length m first segs h0)
  gi_wp2_with (first | ((first | refine ⟨trivial, wideNo, ?_⟩ | refine ⟨trivial, ?_⟩); gi_at_call 76; refine (callsIn_wide.2 (spAhead_any _ _ _)).mono ?_; rintro e w1 ⟨rfl, hw1⟩; have HW := hid hw1; have s1 := (show Has w1 Bs [.int .i64 segs] 3 from hw1 ▸ (HC.out.2.1.alloc _).alloc _).cell 0; clear hw1))
  have hsw : w1.heap.size = W.heap.size + 2 := by rw [← HW.out]; simp
  have HD := hid (show (Has w1 Bn [.int .i64 m] 3 ∧ Has w1 Bs [.int .i64 segs] 3 ∧ Has w1 Bf [.int .i64 first] 3) ∧ Has w1 W.heap.size [.int .i64 m] 3 ∧ Has w1 (W.heap.size + 1) [.int .i64 segs] 3 by
    refine ⟨⟨?_, ?_, ?_⟩, ?_, ?_⟩
    · exact HW.out ▸ (HC.out.1.alloc _).alloc _
    · exact HW.out ▸ (HC.out.2.1.alloc _).alloc _
    · exact HW.out ▸ (HC.out.2.2.alloc _).alloc _
    · exact HW.out ▸ (Has.new _ _ _).alloc _
    · have := Has.new (W.alloc (.cells #[.int .i64 m] 3)) [.int .i64 segs] 3
      rw [World.size_alloc] at this
      exact HW.out ▸ this)
  have HJ1 := hid (show J [] w1 from HW.out ▸ HA.out)
  obtain ⟨Q, hQ⟩ : ∃ Q, W.heap.size = Q := ⟨_, rfl⟩
  rw [hQ] at HD hB
  have HX := hid hsw
  clear HW HA HC n0 nf s0 sf s1 hsw
  simp only [hQ]
  gi_loopw [6, 7, 8, 13, 25] (fun _ _ _ k _ wr => ∃ j : Nat, j ≤ segs ∧ k = .int .i64 j ∧ Hid (J (plcTo m first segs j) wr ∧ (Has wr Bn [.int .i64 m] 3 ∧ Has wr Bs [.int .i64 segs] 3 ∧ Has wr Bf [.int .i64 first] 3) ∧ Has wr Q [.int .i64 m] 3 ∧ Has wr (Q + 1) [.int .i64 segs] 3)) (fun _ _ _ k _ _ => segs - (intOf k).toNat)
  case atStart => exact ⟨0, by omega, rfl, hid ⟨HJ1.out, HD.out⟩⟩
  case round =>
    obtain ⟨j, hj, rfl, HR⟩ := hrel
    by_cases hlt : j < segs
    · have hltI : (j : Int) < segs := by omega
      have c1 := HR.out.2.2.1
      have c2 := HR.out.2.2.2
      have HA1 := hid (spAhead1_any m segs (j + 1) h0 hs (by omega) (by omega) Q (Q + 1) wr c1 c2)
      have HA2 := hid (spAhead1_any m segs j h0 hs (by omega) (by omega) Q (Q + 1) wr c1 c2)
      have hsr := ahd_succ m segs j
      have hal := ahd_le m segs (j + 1) h0 (by omega)
      have hmul := shr_le m segs j h0 hm
      have HSh := hid hsr
      have q1 : IntKind.i64.wrap ((ahd m segs (j + 1) : Nat) - (ahd m segs j : Nat) : Int) = (shr m segs j : Nat) := by rw [show ((ahd m segs (j + 1) : Nat) - (ahd m segs j : Nat) : Int) = (shr m segs j : Nat) by omega]; exact IntWalk.i64_in _ (by omega)
      have hal2 : ahd m segs j ≤ 4096 := by omega
      have hal3 : ahd m segs (j + 1) ≤ 4096 := by omega
      clear c1 c2 hsr hal
      generalize ahd m segs (j + 1) = x1 at *
      generalize ahd m segs j = x0 at *
      have HP := hid (show plcTo m first segs (j + 1) = plcTo m first segs j ++ segTo (8 * (first + j)) (shr m segs j) (shr m segs j) from rfl)
      have HPP := hid (fun i hi => plc_prefix m first segs j i hlt hi)
      generalize shr m segs j = s at *
      gi_wp2_with (first | ((first | refine ⟨trivial, wideNo, ?_⟩ | refine ⟨trivial, ?_⟩); gi_at_call 82; first | (refine (callsIn_wide.2 HA1.out).mono ?_; clear HA1; rintro e w1 ⟨rfl, rfl⟩) | (refine (callsIn_wide.2 HA2.out).mono ?_; rintro e w1 ⟨rfl, rfl⟩)))
      gi_loopw [8, 25] (fun _ i wr => ∃ k : Nat, k ≤ s ∧ i = .int .i64 k ∧ Hid (J (plcTo m first segs j ++ segTo (8 * (first + j)) s k) wr ∧ (Has wr Bn [.int .i64 m] 3 ∧ Has wr Bs [.int .i64 segs] 3 ∧ Has wr Bf [.int .i64 first] 3) ∧ Has wr Q [.int .i64 m] 3 ∧ Has wr (Q + 1) [.int .i64 segs] 3)) (fun _ i _ => s - (intOf i).toNat)
      case atStart => exact ⟨0, by omega, rfl, hid ⟨by simpa [segTo] using HR.out.1, HR.out.2⟩⟩
      case round =>
        obtain ⟨k, hk, rfl, HR2⟩ := hrel
        by_cases hlt2 : k < s
        · have hlt2I : (k : Int) < s := by omega
          have hsn : ((s : Int) == 0) = false := by rw [beq_eq_false_iff_ne]; omega
          have HD2 := hid (show J (plcTo m first segs j ++ segTo (8 * (first + j)) s k) wr.drew ∧ (Has wr.drew Bn [.int .i64 m] 3 ∧ Has wr.drew Bs [.int .i64 segs] 3 ∧ Has wr.drew Bf [.int .i64 first] 3) ∧ Has wr.drew Q [.int .i64 m] 3 ∧ Has wr.drew (Q + 1) [.int .i64 segs] 3 from
            ⟨HJJ.out _ _ _ HR2.out.1 (grownBy_drew wr), HR2.out.2⟩)
          have f0 : wr.drew.cell? ⟨Bf, 0, none⟩ = some (.int .i64 first) := HD2.out.2.1.2.2.cell 0
          obtain ⟨fn, tmps, assign, body, hy, hR⟩ := HY.out _ ((8 * (first + j) + k * 8 / s : Nat) : Int) _ HD2.out.1 (by
            have h1 := (HPP.out (k + 1) (by omega)).length_le
            have h2 : segTo (8 * (first + j)) s (k + 1) = segTo (8 * (first + j)) s k ++ [((8 * (first + j) + k * 8 / s : Nat) : Int)] := rfl
            rw [h2, ← List.append_assoc, List.length_append] at h1
            simp only [List.length_cons, List.length_nil] at h1
            omega)
          have HRd := hid (hR.mono (R' := fun e W' => ∃ b : Bool, e = .returned (.bool b) ∧ Hid ((b = true ∧ J (plcTo m first segs j ++ segTo (8 * (first + j)) s (k + 1)) W' ∧ KeepC (fun k => k = Bn ∨ k = Bs ∨ k = Bf ∨ B ≤ k) wr.drew W') ∨ (b = false ∧ ∃ pre, pre <+: plcL m first segs ∧ Jx pre W'))) (by
            have e1 : plcTo m first segs j ++ segTo (8 * (first + j)) s (k + 1) = plcTo m first segs j ++ segTo (8 * (first + j)) s k ++ [((8 * (first + j) + k * 8 / s : Nat) : Int)] := by
              rw [List.append_assoc]; rfl
            rintro e W' (⟨rfl, h1, h2⟩ | ⟨rfl, h1⟩)
            · exact ⟨true, rfl, hid (.inl ⟨rfl, by rw [e1]; exact h1, h2⟩)⟩
            · exact ⟨false, rfl, hid (.inr ⟨rfl, _, by rw [← e1]; exact HPP.out (k + 1) (by omega), h1⟩)⟩))
          clear hR
          have hdv : k * 8 / s ≤ k * 8 := Nat.div_le_self _ _
          have hq : ((k * 8 / s : Nat) : Int) = (k : Int) * 8 / s := by rw [Int.natCast_ediv]; rfl
          have hsm : ((8 * (first + j) + k * 8 / s : Nat) : Int) = 8 * ((first : Int) + j) + (k : Int) * 8 / s := by rw [← hq]; omega
          have q2 : IntKind.i64.wrap ((first : Int) + j) = (first : Int) + j := IntWalk.i64_in _ (by omega)
          have q3 : IntKind.i64.wrap (8 * ((first : Int) + j)) = 8 * ((first : Int) + j) := IntWalk.i64_in _ (by omega)
          have q4 : IntKind.i64.wrap ((k : Int) * 8) = (k : Int) * 8 := IntWalk.i64_in _ (by omega)
          obtain ⟨z, hz⟩ : ∃ z, k * 8 / s = z := ⟨_, rfl⟩
          have hqz : (z : Int) = (k : Int) * 8 / s := by rw [← hz]; exact hq
          have hzb : z ≤ k * 8 := by rw [← hz]; exact hdv
          have q5 : IntKind.i64.wrap ((k : Int) * 8 / s) = (k : Int) * 8 / s := by rw [← hqz]; exact IntWalk.i64_in _ (by omega)
          have q6 : IntKind.i64.wrap (8 * ((first : Int) + j) + (k : Int) * 8 / s) = 8 * ((first : Int) + j) + (k : Int) * 8 / s := by rw [← hqz]; exact IntWalk.i64_in _ (by omega)
          have q7 : Int.tdiv ((k : Int) * 8) s = (k : Int) * 8 / s := Int.tdiv_eq_ediv_of_nonneg (by omega)
          rw [hsm] at hy
          have HSM := hid hsm
          clear hsm hq hdv hqz hzb hz
          unfold encN at hy
          gi_wp2
          gi_region_with (refine ⟨wideNo, HRd.out.mono ?_⟩; rintro e w' ⟨bb, rfl, hh⟩)
          all_goals (
            have HH := hid hh.out
            clear hh
            cases bb
            · have HE := hid (show ∃ pre, pre <+: plcL m first segs ∧ Jx pre w' by
                rcases HH.out with ⟨h, _⟩ | ⟨_, h⟩
                · cases h
                · exact h)
              clear HH
              gi_wp2
              refine bodyPost_ret (results_none rfl _ _ _) rfl ?_
              exact ⟨⟨_, rfl⟩, .inr HE.out⟩
            · have HE := hid (show J (plcTo m first segs j ++ segTo (8 * (first + j)) s (k + 1)) w' ∧ KeepC (fun k => k = Bn ∨ k = Bs ∨ k = Bf ∨ B ≤ k) wr.drew w' by
                rcases HH.out with ⟨_, h1, h2⟩ | ⟨h, _⟩
                · exact ⟨h1, h2⟩
                · cases h)
              clear HH
              gi_wp2
              refine ⟨⟨k + 1, by omega, by go_num, hid ⟨HE.out.1, ⟨HD2.out.2.1.1.keepC HE.out.2 (.inl rfl), HD2.out.2.1.2.1.keepC HE.out.2 (.inr (.inl rfl)), HD2.out.2.1.2.2.keepC HE.out.2 (.inr (.inr (.inl rfl)))⟩, HD2.out.2.2.1.keepC HE.out.2 (.inr (.inr (.inr (by omega)))), HD2.out.2.2.2.keepC HE.out.2 (.inr (.inr (.inr (by omega))))⟩⟩, by simp [intOf]; omega⟩)
        · have hks := hid (show k = s by omega)
          gi_wp2
          refine ⟨⟨j + 1, by omega, by go_num, ?_⟩, by simp [intOf]; omega⟩
          rw [HP.out]
          have := HR2.out
          rw [hks.out] at this
          exact hid this
    · have hj2 := hid (show j = segs by omega)
      gi_wp2
      go_end0
      refine ⟨⟨_, rfl⟩, .inl ⟨plcL m first segs, rfl, ?_⟩⟩
      have := HR.out.1
      rw [hj2.out] at this
      exact this
end Go.Proofs.YtonoaklajnfmiaaDoor
