/- The document's answer of layer 4: Ahead, Offset, Shares, Places. -/
import Derived.Test.YtonoaklajnfmiaaDoorS1
import Derived.Test.YtonoaklajnfmiaaDoorK1
import Derived.Test.YtonoaklajnfmiaaDoorK2
set_option linter.unusedVariables false
set_option linter.unusedSimpArgs false
namespace Go.Proofs.YtonoaklajnfmiaaDoor
open Go.RowKit

set_option maxHeartbeats 1000000 in
theorem ref4Ahead_any (n segs k : Nat) (h0 : 0 < segs) (hs : segs ≤ 512) (hn : n ≤ 4096) (hk : k ≤ segs) (w : World) :
    Calls Tryd.prog 77 #[.int .i64 n, .int .i64 segs, .int .i64 k] w fun e w' => e = .returned (.int .i64 (ahd n segs k : Nat)) ∧ w = w' := by
  have HL := hid (ahd_le n segs k h0 hk)
  have HD := hid (fun i => show i * segs ≤ k * n ↔ i ≤ ahd n segs k by unfold ahd; exact (Nat.le_div_iff_mul_le h0).symm)
  have hkn : k * n ≤ 512 * 4096 := Nat.mul_le_mul (by omega) hn
  have HKN := hid (show ((k * n : Nat) : Int) = (k : Int) * n from Int.natCast_mul k n)
  have q1 : IntKind.i64.wrap ((k : Int) * n) = (k : Int) * n := by rw [← HKN.out]; exact IntWalk.i64_in _ (by omega)
  generalize ahd n segs k = A at *
  obtain ⟨K, hK⟩ : ∃ K, k * n = K := ⟨_, rfl⟩
  rw [hK] at hkn HKN
  have HK := hid hK
  clear hK
  go_enter Tryd.func77, Tryd.ntmps77
  go_wp2_with fail
  go_loop [7, 8] (fun c i => ∃ j : Nat, j ≤ n ∧ i = .int .i64 (j + 1 : Nat) ∧ c = .int .i64 (min j A : Nat)) (fun _ i => n + 1 - (intOf i).toNat)
  case atStart => exact ⟨0, by omega, rfl, by simp⟩
  case round =>
    obtain ⟨j, hj, rfl, rfl⟩ := hrel
    by_cases hlt : j < n
    · have hltI : ((j + 1 : Nat) : Int) ≤ n := by omega
      have hjs : (j + 1) * segs ≤ 4096 * 512 := Nat.mul_le_mul (by omega) hs
      have hjc : (((j + 1) * segs : Nat) : Int) = ((j + 1 : Nat) : Int) * segs := Int.natCast_mul _ _
      have q2 : IntKind.i64.wrap (((j + 1 : Nat) : Int) * segs) = ((j + 1 : Nat) : Int) * segs := by rw [← hjc]; exact IntWalk.i64_in _ (by omega)
      have HI := hid (HD.out (j + 1))
      obtain ⟨i, hi⟩ : ∃ i, j + 1 = i := ⟨_, rfl⟩
      rw [hi] at hltI hjs hjc q2 HI ⊢
      have HIJ := hid hi
      clear hi
      by_cases hc : i * segs ≤ k * n
      · have hcI : (i : Int) * segs ≤ (k : Int) * n := by rw [← hjc, ← HKN.out]; rw [HK.out] at hc; omega
        have hA := hid (HI.out.1 hc)
        clear hjc hjs hc
        go_wp2_with fail
        refine ⟨⟨j + 1, by omega, by have := HIJ.out; go_num, ?_⟩, by have := HIJ.out; simp [intOf]; omega⟩
        have := hA.out
        have := HIJ.out
        rw [show min (j + 1) A = min j A + 1 by omega]
        go_num
      · have hcI : ¬ (i : Int) * segs ≤ (k : Int) * n := by rw [← hjc, ← HKN.out]; rw [HK.out] at hc; omega
        have hA := hid (show ¬ i ≤ A from fun h => hc (HI.out.2 h))
        clear hjc hjs hc
        go_wp2_with fail
        refine ⟨⟨j + 1, by omega, by have := HIJ.out; go_num, ?_⟩, by have := HIJ.out; simp [intOf]; omega⟩
        have := hA.out
        have := HIJ.out
        rw [show min (j + 1) A = min j A by omega]
    · have hjn := hid (show j = n by omega)
      have hltI : ¬ ((j + 1 : Nat) : Int) ≤ n := by omega
      go_wp2_with fail
      go_ret
      have := HL.out
      rw [hjn.out, show min n A = A by omega]
      exact ⟨rfl, rfl⟩

set_option maxHeartbeats 1000000 in
theorem ref4Offset_any (j m : Nat) (h0 : 0 < m) (hm : m ≤ 8) (hj : j ≤ 8) (w : World) :
    Calls Tryd.prog 63 #[.int .i64 j, .int .i64 m] w fun e w' => e = .returned (.int .i64 (j * 8 / m : Nat)) ∧ w = w' := by
  have HD := hid (fun i => show i * m ≤ j * 8 ↔ i ≤ j * 8 / m from (Nat.le_div_iff_mul_le h0).symm)
  have hA : j * 8 / m ≤ 64 := Nat.le_trans (Nat.div_le_self _ _) (by omega)
  generalize j * 8 / m = A at *
  go_enter Tryd.func63, Tryd.ntmps63
  go_wp2_with fail
  go_loop [5] (fun i => ∃ a : Nat, a ≤ A ∧ i = .int .i64 a) (fun i => A - (intOf i).toNat)
  case atStart => exact ⟨0, by omega, rfl⟩
  case round =>
    obtain ⟨a, ha, rfl⟩ := hrel
    have hjs : (a + 1) * m ≤ 65 * 8 := Nat.mul_le_mul (by omega) hm
    have hjc : (((a + 1) * m : Nat) : Int) = ((a : Int) + 1) * m := by rw [Int.natCast_mul]; rfl
    have q2 : IntKind.i64.wrap (((a : Int) + 1) * m) = ((a : Int) + 1) * m := by rw [← hjc]; exact IntWalk.i64_in _ (by omega)
    have HI := hid (HD.out (a + 1))
    by_cases hc : (a + 1) * m ≤ j * 8
    · have hcI : ((a : Int) + 1) * m ≤ (j : Int) * 8 := by rw [← hjc]; omega
      have hA2 := hid (HI.out.1 hc)
      clear hjc hjs hc
      go_wp2_with fail
      refine ⟨⟨a + 1, hA2.out, by go_num⟩, by have := hA2.out; simp [intOf]; omega⟩
    · have hcI : ¬ ((a : Int) + 1) * m ≤ (j : Int) * 8 := by rw [← hjc]; omega
      have hA2 := hid (show ¬ a + 1 ≤ A from fun h => hc (HI.out.2 h))
      clear hjc hjs hc
      go_wp2_with fail
      go_ret
      have := hA2.out
      rw [show a = A by omega]
      exact ⟨rfl, rfl⟩

/-- The shares of the first so many segments. -/
def shrsTo (n segs : Nat) : Nat → List Int
  | 0 => []
  | k + 1 => shrsTo n segs k ++ [(shr n segs k : Int)]
theorem shrsTo_length (n segs : Nat) : ∀ k, (shrsTo n segs k).length = k
  | 0 => rfl
  | k + 1 => by unfold shrsTo; rw [List.length_append, shrsTo_length n segs k]; rfl
theorem shrsTo_get (n segs : Nat) (i : Nat) : ∀ k, i < k → (shrsTo n segs k).getD i 0 = (shr n segs i : Int)
  | k + 1, h => by
    unfold shrsTo
    rw [List.getD_eq_getElem?_getD]
    rcases Nat.lt_or_ge i k with g | g
    · rw [List.getElem?_append_left (by rw [shrsTo_length]; exact g), ← List.getD_eq_getElem?_getD]
      exact shrsTo_get n segs i k g
    · obtain rfl : i = k := by omega
      rw [List.getElem?_append_right (by rw [shrsTo_length]; omega), shrsTo_length]
      simp

set_option maxHeartbeats 1000000 in
theorem ref4Shares_any (n segs : Nat) (h0 : 0 < segs) (hs : segs ≤ 512) (hn : n ≤ 4096) (w : World) (hG : NG ≤ w.heap.size) :
    Calls Tryd.prog 62 #[.int .i64 n, .int .i64 segs] w fun e w' => ∃ v, e = .returned v ∧ RowI w' w.heap.size v (shrsTo n segs segs) ∧ Fr Nil1 w w' := by
  obtain ⟨i0, hi, hz0, hz1, hz2⟩ := info_parts info_int
  have HG := hid hG
  clear hG
  go_enter Tryd.func62, Tryd.ntmps62
  go_wp2_with fail
  go_loopw [5, 6] (fun v i wr => ∃ k : Nat, k ≤ segs ∧ i = .int .i64 k ∧ Hid (RowI wr w.heap.size v (shrsTo n segs k) ∧ Fr Nil1 w wr)) (fun _ i _ => segs - (intOf i).toNat)
  case atStart => exact ⟨0, by omega, rfl, hid ⟨RowI.nil _ _, Fr.refl _ _⟩⟩
  case round =>
    obtain ⟨k, hk, rfl, HR⟩ := hrel
    have hws : w.heap.size ≤ wr.heap.size := HR.out.2.size
    have hlen := shrsTo_length n segs k
    by_cases hlt : k < segs
    · have hltI : (k : Int) < segs := by omega
      have HA1 := hid (fun w => ref4Ahead_any n segs (k + 1) h0 hs hn (by omega) w)
      have HA0 := hid (fun w => ref4Ahead_any n segs k h0 hs hn (by omega) w)
      have hsr := ahd_succ n segs k
      have hb0 := ahd_le n segs k h0 (by omega)
      have hb1 := ahd_le n segs (k + 1) h0 (by omega)
      have HST := hid (show shrsTo n segs (k + 1) = shrsTo n segs k ++ [(shr n segs k : Int)] from rfl)
      have q1 : IntKind.i64.wrap ((ahd n segs (k + 1) : Nat) - (ahd n segs k : Nat) : Int) = (shr n segs k : Nat) := by rw [show ((ahd n segs (k + 1) : Nat) - (ahd n segs k : Nat) : Int) = (shr n segs k : Nat) by omega]; exact IntWalk.i64_in _ (by omega)
      clear hsr
      generalize ahd n segs (k + 1) = x1 at *
      generalize ahd n segs k = x0 at *
      generalize shr n segs k = s at *
      go_wp2_with (first | (go_at_call 77; first | (refine (HA1.out _).mono ?_; clear HA1; rintro e w1 ⟨rfl, rfl⟩) | (refine (HA0.out _).mono ?_; rintro e w1 ⟨rfl, rfl⟩)) | (at_builtin; refine wpList_append_own _ rfl _ _ 30 rfl w.heap.size 3 i0 (.int .i64 0) 1 8 Tryd.underlying30 hi hz0 hz1 hz2 rfl (by decide) _ _ _ rfl (HR.out.1.alloc _) ⟨wr.heap.size, 0, none⟩ 1 1 [.int .i64 (s : Int)] rfl rfl (cell_one_new _ _ _) (by simp [Value.oneCell']) (by unfold maxLen; omega) (by omega) (by simp; omega) ?_; intro v' w1 hown' hgrow _; have HOw := hid hown'; have HGr := hid hgrow; clear hown' hgrow))
      refine ⟨⟨k + 1, by omega, by go_num, ?_⟩, by simp [intOf]; omega⟩
      rw [HST.out]
      refine hid ⟨?_, (HR.out.2.alloc _).grown HGr.out (fun j e => by have := own_block HR.out.1 j e; have := HG.out; omega) (fun j e h => by have := own_block HR.out.1 j e; omega)⟩
      have := HOw.out
      unfold RowI
      rw [List.length_append, List.map_append]
      exact this
    · have hks := hid (show k = segs by omega)
      go_wp2_with fail
      go_ret
      have h := HR.out
      rw [hks.out] at h
      exact ⟨_, rfl, h.1, h.2⟩

set_option maxHeartbeats 4000000 in
theorem ref4Places_any (n first segs : Nat) (h0 : 0 < segs) (hs : segs ≤ 512) (hn : n ≤ 8 * segs) (hf : first ≤ 512) (w : World) (hG : NG ≤ w.heap.size) :
    Calls Tryd.prog 45 #[.int .i64 n, .int .i64 first, .int .i64 segs] w fun e w' => ∃ v, e = .returned v ∧ RowI w' w.heap.size v (plcL n first segs) ∧ Fr Nil1 w w' := by
  obtain ⟨i0, hi, hz0, hz1, hz2⟩ := info_parts info_int
  have HG := hid hG
  have HSh := hid (ref4Shares_any n segs h0 hs (by omega) w hG)
  have HLen := hid (shrsTo_length n segs segs)
  clear hG
  go_enter Tryd.func45, Tryd.ntmps45
  go_wp2_with (first | (go_at_call 62; refine HSh.out.mono ?_; rintro e w1 ⟨sv, rfl, hR, hF⟩; have HS1 := hid (hR.rd (by have := HLen.out; omega)); have HF := hid hF; obtain ⟨A, c, e1, _⟩ := HS1.out; rw [ints'_length, HLen.out] at e1; subst e1; clear hR hF))
  have hw1 : w.heap.size ≤ w1.heap.size := HF.out.size
  go_loopw [7, 9, 10] (fun v kk _ wr => ∃ k : Nat, k ≤ segs ∧ kk = .int .i64 k ∧ Hid (RowI wr w1.heap.size v (plcTo n first segs k) ∧ Fr Nil1 w1 wr)) (fun _ kk _ _ => segs - (intOf kk).toNat)
  case atStart => exact ⟨0, by omega, rfl, hid ⟨RowI.nil _ _, Fr.refl _ _⟩⟩
  case round =>
    obtain ⟨k, hk, rfl, HR⟩ := hrel
    by_cases hlt : k < segs
    · have hltI : (k : Int) < segs := by omega
      have hsl := shr_le n segs k h0 hn
      have hpl := plcTo_length n first segs k
      have hal := ahd_le n segs k h0 (by omega)
      have HST := hid (show plcTo n first segs (k + 1) = plcTo n first segs k ++ segTo (8 * (first + k)) (shr n segs k) (shr n segs k) from rfl)
      have HGet := hid (shrsTo_get n segs k segs hlt)
      obtain ⟨ad, rfl, hc⟩ : ∃ ad, A = some ad ∧ ∀ W, Fr Nil1 w1 W → W.cell? (ad.add k) = some (.int .i64 (shr n segs k : Int)) := by
        obtain ⟨A', c', e', _, h'⟩ := HS1.out
        injection e' with e1 e2 e3
        subst e1
        obtain ⟨ad, rfl, hc⟩ := h' (by rw [ints'_length, HLen.out]; omega)
        refine ⟨ad, rfl, fun W hW => ?_⟩
        have := hW.cell (hc k _ (ints'_get _ k (by rw [HLen.out]; exact hlt))) (fun h => h)
        rw [HGet.out] at this
        exact this
      have HC := hid hc
      have c0 := hc _ HR.out.2
      clear hc HGet
      generalize shr n segs k = s at *
      go_wp2_with fail
      go_loopw [7, 10] (fun v jj wr => ∃ j : Nat, j ≤ s ∧ jj = .int .i64 j ∧ Hid (RowI wr w1.heap.size v (plcTo n first segs k ++ segTo (8 * (first + k)) s j) ∧ Fr Nil1 w1 wr)) (fun _ jj _ => s - (intOf jj).toNat)
      case atStart => exact ⟨0, by omega, rfl, hid ⟨by simpa [segTo] using HR.out.1, HR.out.2⟩⟩
      case round =>
        obtain ⟨j, hj, rfl, HR2⟩ := hrel
        have hws : w1.heap.size ≤ wr.heap.size := HR2.out.2.size
        have hlen := segTo_length (8 * (first + k)) s j
        have hlen2 : (plcTo n first segs k ++ segTo (8 * (first + k)) s j).length ≤ 4104 := by rw [List.length_append]; omega
        have c1 := HC.out _ HR2.out.2
        by_cases hlt2 : j < s
        · have hlt2I : (j : Int) < s := by omega
          have HO := hid (fun w => ref4Offset_any j s (by omega) (by omega) (by omega) w)
          have hdv : j * 8 / s ≤ j * 8 := Nat.div_le_self _ _
          have HST2 := hid (show segTo (8 * (first + k)) s (j + 1) = segTo (8 * (first + k)) s j ++ [((8 * (first + k) + j * 8 / s : Nat) : Int)] from rfl)
          generalize j * 8 / s = o at *
          have hsum : ((8 * (first + k) + o : Nat) : Int) = 8 * ((first : Int) + k) + o := by omega
          rw [hsum] at HST2
          clear hsum
          generalize hLL : plcTo n first segs k ++ segTo (8 * (first + k)) s j = LL at *
          have HLL := hid hLL
          clear hLL
          go_wp2_with (first | (go_at_call 63; refine (HO.out _).mono ?_; rintro e w2 ⟨rfl, rfl⟩) | (at_builtin; refine wpList_append_own _ rfl _ _ 30 rfl w1.heap.size 3 i0 (.int .i64 0) 1 8 Tryd.underlying30 hi hz0 hz1 hz2 rfl (by decide) _ _ _ rfl (HR2.out.1.alloc _) ⟨wr.heap.size, 0, none⟩ 1 1 [.int .i64 (8 * ((first : Int) + k) + o)] rfl rfl (cell_one_new _ _ _) (by simp [Value.oneCell']) (by unfold maxLen; omega) (by omega) (by simp; omega) ?_; intro v' w2 hown' hgrow _; have HOw := hid hown'; have HGr := hid hgrow; clear hown' hgrow))
          refine ⟨⟨j + 1, by omega, by go_num, ?_⟩, by simp [intOf]; omega⟩
          rw [HST2.out, ← List.append_assoc, HLL.out]
          refine hid ⟨?_, (HR2.out.2.alloc _).grown HGr.out (fun j e => by have := own_block HR2.out.1 j e; have := HG.out; omega) (fun j e h => by have := own_block HR2.out.1 j e; omega)⟩
          have := HOw.out
          unfold RowI
          rw [List.length_append, List.map_append]
          exact this
        · have hjs := hid (show j = s by omega)
          go_wp2_with fail
          refine ⟨⟨k + 1, by omega, by go_num, ?_⟩, by simp [intOf]; omega⟩
          rw [HST.out]
          have := HR2.out
          rw [hjs.out] at this
          exact hid this
    · have hks := hid (show k = segs by omega)
      go_wp2_with fail
      go_ret
      have h := HR.out
      rw [hks.out] at h
      exact ⟨_, rfl, own_mono h.1 hw1, HF.out.trans h.2⟩
end Go.Proofs.YtonoaklajnfmiaaDoor
