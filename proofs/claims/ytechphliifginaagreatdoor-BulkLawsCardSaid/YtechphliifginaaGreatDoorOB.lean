/- tree.Ahead, pma.Rank. -/
import Derived.Test.YtechphliifginaaGreatDoorGS
set_option linter.unusedVariables false
set_option linter.unusedSimpArgs false
namespace Go.Proofs.YtechphliifginaaGreatDoor
open Go.RowKit

/-- How many elements are ahead of a segment, as one goes up. -/
structure AhI (ns cs : List Int) (h s i : Nat) (n : Int) (d : Nat) : Prop where
  ex : ∃ e j, e + d = h ∧ j < 2 ^ e ∧ i = 2 ^ e + j ∧ j * 2 ^ d ≤ s ∧ n = preI cs s - preI cs (j * 2 ^ d)
theorem AhI.start {ns cs : List Int} {h s : Nat} (hs : s < 2 ^ h) : AhI ns cs h s (2 ^ h + s) 0 0 :=
  ⟨h, s, rfl, hs, rfl, by simp, by simp⟩
theorem AhI.stop {ns cs : List Int} {h s : Nat} {n : Int} (H : AhI ns cs h s 1 n h) : n = preI cs s := by
  obtain ⟨e, j, he, hj, hi, _, hn⟩ := H.ex
  obtain rfl : e = 0 := by omega
  have : j = 0 := by simpa using hj
  subst this
  rw [hn, Nat.zero_mul, preI_zero]
  omega
theorem AhI.at1 {ns cs : List Int} {h s d : Nat} {n : Int} (H : AhI ns cs h s 1 n d) : d = h := by
  obtain ⟨e, j, he, hj, hi, _⟩ := H.ex
  have : 2 ^ e = 1 := by have : 0 < 2 ^ e := Nat.pow_pos (by omega); omega
  have : e = 0 := by
    rcases Nat.eq_zero_or_pos e with h | h
    · exact h
    · have := Nat.pow_le_pow_right (n := 2) (by omega) h; omega
  omega
theorem AhI.lt {ns cs : List Int} {h s i d : Nat} {n : Int} (H : AhI ns cs h s i n d) : 1 ≤ i ∧ i < 2 * 2 ^ h := by
  obtain ⟨e, j, he, hj, rfl, _⟩ := H.ex
  have h1 : 0 < 2 ^ e := Nat.pow_pos (by omega)
  have h2 := Nat.pow_le_pow_right (n := 2) (by omega) (show e ≤ h by omega)
  omega
theorem AhI.step {ns cs : List Int} {h s i d : Nat} {n : Int} (K : HeapOK ns h cs) (H : AhI ns cs h s i n d) (hi : 1 < i) :
    (i % 2 = 1 → AhI ns cs h s (i / 2) (n + ns.getD (i - 1) 0) (d + 1)) ∧ (i % 2 = 0 → AhI ns cs h s (i / 2) n (d + 1)) := by
  obtain ⟨e, j, he, hj, rfl, h1, h2⟩ := H.ex
  have he0 : e ≠ 0 := by
    rintro rfl
    simp at hj
    omega
  obtain ⟨e, rfl⟩ : ∃ e', e = e' + 1 := ⟨e - 1, by omega⟩
  have hp : 2 ^ (e + 1) = 2 * 2 ^ e := by rw [Nat.pow_succ]; omega
  have e2 : ∀ j', 2 * j' * 2 ^ d = j' * 2 ^ (d + 1) := fun j' => by rw [Nat.pow_succ, Nat.mul_comm (2 ^ d) 2, ← Nat.mul_assoc]; congr 1; omega
  refine ⟨fun ho => ?_, fun ho => ?_⟩
  · obtain ⟨j', rfl⟩ : ∃ j', j = 2 * j' + 1 := ⟨j / 2, by omega⟩
    have hl := K.at d (e + 1) (2 * j') (by omega) (by omega)
    have hle : 2 * j' * 2 ^ d ≤ (2 * j' + 1) * 2 ^ d := Nat.mul_le_mul_right _ (by omega)
    refine ⟨e, j', by omega, by omega, by omega, by rw [← e2]; omega, ?_⟩
    rw [show 2 ^ (e + 1) + (2 * j' + 1) - 1 = 2 ^ (e + 1) + 2 * j' by omega, hl, ← e2, h2]
    omega
  · obtain ⟨j', rfl⟩ : ∃ j', j = 2 * j' := ⟨j / 2, by omega⟩
    exact ⟨e, j', by omega, by omega, by omega, by rw [← e2]; exact h1, by rw [← e2]; exact h2⟩
theorem AhI.bd {ns cs : List Int} {h s i d : Nat} {n : Int} (H : AhI ns cs h s i n d) (h8 : ∀ x ∈ cs, 0 ≤ x ∧ x ≤ 8) (hl : s ≤ cs.length) (h512 : cs.length ≤ 512) : 0 ≤ n ∧ n ≤ 4096 := by
  obtain ⟨e, j, he, hj, _, h1, h2⟩ := H.ex
  obtain ⟨x, hx⟩ : ∃ x, s = j * 2 ^ d + x := ⟨s - j * 2 ^ d, by omega⟩
  have := preI_mono cs h8 (j * 2 ^ d) x (by omega)
  rw [← hx] at this
  omega
set_option maxRecDepth 100000 in
set_option maxHeartbeats 2000000 in
theorem treeAhead_ok {t d h : Nat} {cs : List Int} {w : World} (H : TreeR w t d h cs) (s : Nat) (hs : s < 2 ^ h) :
    Calls Tryz.prog 120 #[.pointer (some ⟨t, 0, none⟩), .int .i64 s] w fun e w' => e = .returned (.tuple #[.int .i64 (preI cs s), .int .i64 0]) ∧ w = w' := by
  obtain ⟨ns, ex, r1, r2, r3⟩ := H.row
  have hz := p2_le H.h9
  have hz0 : 0 < 2 ^ h := Nat.pow_pos (by omega)
  have hb : ∀ k, 1 ≤ k → k < 2 * 2 ^ h → 0 ≤ ns.getD k 0 ∧ ns.getD k 0 ≤ 4096 := fun k k1 k2 => by
    have := r3.bound H.c8 k k1 k2
    have h4 : ((2 ^ h : Nat) : Int) = 2 ^ h := by rw [Int.natCast_pow]; rfl
    rw [← h4] at this
    omega
  have HB := hid hb
  have HS := hid (fun i n d (K : AhI ns cs h s i n d) hi => AhI.step r3 K hi)
  have HBd := hid (fun i n d (K : AhI ns cs h s i n d) => AhI.bd K H.c8 (by rw [r3.clen]; omega) (by rw [r3.clen]; omega))
  have HLt := hid (fun i n d (K : AhI ns cs h s i n d) => AhI.lt K)
  have HP := hid (fun n d (K : AhI ns cs h s 1 n d) => AhI.stop (AhI.at1 K ▸ K))
  have HT := hid (AhI.start (ns := ns) (cs := cs) hs)
  have HCell := hid (fun k (hk : k < 2 * 2 ^ h) => (r2.cell k).trans (ints'_append ns ex k (by rw [r3.len]; exact hk)))
  have c0 := r1.cell 0
  have c1 := r1.cell 1
  obtain ⟨C, hC⟩ : ∃ C, 2 * 2 ^ h + ex.length = C := ⟨_, rfl⟩
  rw [hC] at c1
  generalize hZ : 2 ^ h = Z at *
  have HZ := hid hZ
  clear H r1 r2 r3 hb hZ hC
  have d1 : decide ((s : Int) < 0) = false := decide_eq_false (by omega)
  have d2 : decide ((Z : Int) < (s : Int)) = false := decide_eq_false (by omega)
  have d3 : ((s : Int) == (Z : Int)) = false := beq_eq_false_iff_ne.2 (by omega)
  have d4 : ¬ (Z : Int) < (s : Int) := by omega
  go_enter Tryz.func120, Tryz.ntmps120
  go_wp2_with fail
  go_loop [6, 7] (fun n i => ∃ (k dd : Nat) (m : Int), i = .int .i64 k ∧ n = .int .i64 m ∧ Hid (AhI ns cs h s k m dd)) (fun _ i => (intOf i).toNat)
  case atStart => exact ⟨Z + s, 0, 0, by go_num, rfl, HT⟩
  case round =>
    obtain ⟨k, dd, m, rfl, rfl, HF⟩ := hrel
    obtain ⟨k1, k2⟩ := HLt.out k m dd HF.out
    obtain ⟨m0, m1⟩ := HBd.out k m dd HF.out
    by_cases hk : 1 < k
    · have hkI : 1 < (k : Int) := by omega
      by_cases ho : k % 2 = 1
      · have HF2 := hid ((HS.out k m dd HF.out hk).1 ho)
        have hc := HCell.out (k - 1) (by omega)
        obtain ⟨b1, b2⟩ := HB.out (k - 1) (by omega) (by omega)
        have hoI : ((k : Int) % 2 == 1) = true := by rw [beq_iff_eq]; omega
        have hoJ : (k : Int) % 2 = 1 := by omega
        have i4 : ((k : Int) - 1).toNat = k - 1 := by omega
        have i5 : (0 : Int) ≤ (k : Int) - 1 := by omega
        have i6 : (k : Int) - 1 < 2 * (Z : Int) := by omega
        clear ho
        generalize ns.getD (k - 1) 0 = x at *
        go_wp2_with fail
        go_round
        case rel => exact ⟨k / 2, dd + 1, m + x, by go_num, rfl, HF2⟩
        case measure => simp [intOf]; omega
      · have HF2 := hid ((HS.out k m dd HF.out hk).2 (by omega))
        have hoI : ((k : Int) % 2 == 1) = false := beq_eq_false_iff_ne.2 (by omega)
        have hoJ : ¬ (k : Int) % 2 = 1 := by omega
        clear ho
        go_wp2_with fail
        go_round
        case rel => exact ⟨k / 2, dd + 1, m, by go_num, rfl, HF2⟩
        case measure => simp [intOf]; omega
    · obtain rfl : k = 1 := by omega
      have HE := hid (HP.out m dd HF.out)
      go_wp2_with fail
      go_ret2
      rw [HE.out]
      exact ⟨rfl, rfl⟩
end Go.Proofs.YtechphliifginaaGreatDoor
