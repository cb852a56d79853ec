/- The document's answers of layers 3, 11 and 22: Power, Height, Rising, In. -/
import Derived.Test.YtonoaklajnfmiaaDoorB5
import Derived.Test.YtonoaklajnfmiaaDoorK3
import Derived.Test.YtonoaklajnfmiaaDoorC2
set_option linter.unusedVariables false
set_option linter.unusedSimpArgs false
namespace Go.Proofs.YtonoaklajnfmiaaDoor
open Go.RowKit

def pw (k : Nat) : Nat := 2 ^ k
theorem pow2_le (k : Nat) (h : k ≤ 12) : 1 ≤ pw k ∧ pw k ≤ 4096 := by
  unfold pw
  have h1 : 2 ^ k ≤ 2 ^ 12 := Nat.pow_le_pow_right (by omega) h
  have h2 : 0 < 2 ^ k := Nat.pow_pos (by omega)
  exact ⟨h2, h1⟩

set_option maxHeartbeats 1000000 in
theorem refPower_any (n : Int) (w : World) (h0 : 0 ≤ n) (h1 : n ≤ 12) :
    Calls Tryd.prog 57 #[.int .i64 n] w fun e w' => e = .returned (.int .i64 (pw n.toNat : Nat)) ∧ w = w' := by
  go_enter Tryd.func57, Tryd.ntmps57
  go_wp2_with fail
  go_loop [3, 4] (fun o i => ∃ k : Nat, k ≤ n ∧ i = .int .i64 k ∧ o = .int .i64 (pw k : Nat)) (fun _ i => n.toNat - (intOf i).toNat)
  case atStart => exact ⟨0, by omega, rfl, rfl⟩
  case round =>
    obtain ⟨k, hk, rfl, rfl⟩ := hrel
    obtain ⟨p1, p2⟩ := pow2_le k (by omega)
    have HS := hid (show pw (k + 1) = 2 * pw k by unfold pw; rw [Nat.pow_succ]; omega)
    generalize hq : pw k = q at *
    have HQ := hid hq
    clear hq
    by_cases hlt : (k : Int) < n
    · go_wp2_with fail
      go_round
      case rel => exact ⟨k + 1, by omega, by go_num, by rw [HS.out]; go_num⟩
      case measure => simp [intOf]; omega
    · have hkn := hid (show k = n.toNat by omega)
      go_wp2_with fail
      go_ret
      refine ⟨?_, rfl⟩
      rw [← hkn.out, HQ.out]
      rfl

def hgtF (s : Int) : Nat → Nat → Int
  | 0, _ => -1
  | f + 1, h => if s = 8 * (pw h : Int) then (h : Int) else hgtF s f (h + 1)
/-- How many levels there are above the segments; -1: there may not be so many slots. -/
def heightZ (s : Int) : Int := hgtF s 8 2
set_option maxHeartbeats 1000000 in
theorem refHeight_any (s : Int) (w : World) : Calls Tryd.prog 36 #[.int .i64 s] w fun e w' => e = .returned (.int .i64 (heightZ s)) ∧ w = w' := by
  go_enter Tryd.func36, Tryd.ntmps36
  go_wp2_with fail
  go_loop [3] (fun h => ∃ k : Nat, 2 ≤ k ∧ k ≤ 10 ∧ h = .int .i64 k ∧ heightZ s = hgtF s (10 - k) k) (fun h => 10 - (intOf h).toNat)
  case atStart => exact ⟨2, by omega, by omega, rfl, rfl⟩
  case round =>
    obtain ⟨k, hk1, hk2, rfl, hz⟩ := hrel
    have HZ := hid hz
    clear hz
    by_cases hlt : k < 10
    · have HP := hid (fun w => refPower_any (k : Int) w (by omega) (by omega))
      rw [Int.toNat_natCast] at HP
      obtain ⟨p1, p2⟩ := pow2_le k (by omega)
      have HF := hid (show hgtF s (10 - k) k = if s = 8 * (pw k : Nat) then (k : Int) else hgtF s (10 - (k + 1)) (k + 1) by
        rw [show 10 - k = (10 - (k + 1)) + 1 by omega]
        rfl)
      generalize pw k = q at *
      by_cases he : s = 8 * (q : Int)
      · have HE := hid he
        have hb : (s == 8 * (q : Int)) = true := by rw [beq_iff_eq]; exact he
        clear he
        go_wp2_with (first | (go_at_call 57; refine (HP.out _).mono ?_; rintro e w1 ⟨rfl, rfl⟩))
        go_ret
        rw [HZ.out, HF.out, if_pos HE.out]
        exact ⟨rfl, rfl⟩
      · have HE := hid he
        have hb : (s == 8 * (q : Int)) = false := by rw [beq_eq_false_iff_ne]; exact he
        clear he
        go_wp2_with (first | (go_at_call 57; refine (HP.out _).mono ?_; rintro e w1 ⟨rfl, rfl⟩))
        go_round
        case rel => exact ⟨k + 1, by omega, by omega, by go_num, by rw [HZ.out, HF.out, if_neg HE.out]⟩
        case measure => simp [intOf]; omega
    · obtain rfl : k = 10 := by omega
      go_wp2_with fail
      go_ret
      rw [HZ.out]
      exact ⟨rfl, rfl⟩

/-- Do numbers rise? -/
def riseB (xs : List Int) : Bool := (List.range (xs.length - 1)).all fun j => decide (xs.getD j 0 < xs.getD (j + 1) 0)
theorem riseB_true (xs : List Int) (h : ∀ j, j + 1 < xs.length → xs.getD j 0 < xs.getD (j + 1) 0) : riseB xs = true := by
  unfold riseB
  rw [List.all_eq_true]
  intro j hj
  rw [List.mem_range] at hj
  exact decide_eq_true (h j (by omega))
theorem riseB_false (xs : List Int) (j : Nat) (hj : j + 1 < xs.length) (h : ¬ xs.getD j 0 < xs.getD (j + 1) 0) : riseB xs = false := by
  unfold riseB
  rw [List.all_eq_false]
  exact ⟨j, List.mem_range.2 (by omega), by simpa using h⟩
theorem riseB_get {xs : List Int} (h : riseB xs = true) : ∀ j, j + 1 < xs.length → xs.getD j 0 < xs.getD (j + 1) 0 := by
  intro j hj
  unfold riseB at h
  rw [List.all_eq_true] at h
  exact of_decide_eq_true (h j (List.mem_range.2 (by omega)))

set_option maxHeartbeats 1000000 in
theorem refRising_any (xs : List Int) (v : Value) (w : World) (h1 : Rd w v (ints' xs)) :
    Calls Tryd.prog 12 #[v] w fun e w' => e = .returned (.bool (riseB xs)) ∧ Fr Nil1 w w' := by
  obtain ⟨A, c, rfl, hb, hA⟩ := h1
  rw [ints'_length] at hb hA ⊢
  have HA := hid hA
  clear hA
  go_enter Tryd.func12, Tryd.ntmps12
  go_wp2_with fail
  go_loopw [3] (fun i wr => ∃ (j m : Nat), 1 ≤ j ∧ (j ≤ xs.length ∨ j = 1) ∧ i = .int .i64 j ∧ wr = w.drewN m ∧ ∀ t, t + 1 < j → xs.getD t 0 < xs.getD (t + 1) 0) (fun i _ => xs.length - (intOf i).toNat)
  case atStart => exact ⟨1, 0, by omega, by omega, rfl, rfl, fun j hj => by omega⟩
  case round =>
    obtain ⟨j, m, hj, hk, rfl, rfl, heq⟩ := hrel
    have HE := hid heq
    clear heq
    by_cases hlt : j < xs.length
    · obtain ⟨k, hjk⟩ : ∃ k, j = k + 1 := ⟨j - 1, by omega⟩
      have HK := hid hjk
      obtain ⟨ad, rfl, hc⟩ := HA.out (by omega)
      have c1 := hc k _ (ints'_get xs k (by omega))
      have c2 := hc j _ (ints'_get xs j hlt)
      have hlt' : (j : Int) < xs.length := by omega
      have q1 : IntKind.i64.wrap ((j : Int) - 1) = (k : Int) := by rw [show (j : Int) - 1 = (k : Int) by omega]; exact IntWalk.i64_in _ (by omega)
      have q2 : k < xs.length := by omega
      have q3 : (k : Int) < xs.length := by omega
      have HR := hid (show xs.getD k 0 < xs.getD (k + 1) 0 ↔ xs.getD k 0 < xs.getD j 0 by rw [HK.out])
      clear hc hjk
      by_cases he : xs.getD k 0 < xs.getD j 0
      · have HE2 := hid (HR.out.2 he)
        have hb1 : decide (xs.getD j 0 ≤ xs.getD k 0) = false := by rw [decide_eq_false_iff_not]; omega
        clear he HR
        generalize xs.getD k 0 = x at c1 hb1
        generalize xs.getD j 0 = y at c2 hb1
        go_wp2_with fail
        go_quiet (fail)
        go_wp2_with fail
        refine ⟨⟨j + 1, m + nq, by omega, by omega, by go_num, rfl, fun t ht => ?_⟩, by simp [intOf]; omega⟩
        rcases Nat.lt_or_ge (t + 1) j with g | g
        · exact HE.out t g
        · obtain rfl : t = k := by have := HK.out; omega
          exact HE2.out
      · have HF := hid (riseB_false xs k (by have := HK.out; omega) (fun c => he (HR.out.1 c)))
        have hb1 : decide (xs.getD j 0 ≤ xs.getD k 0) = true := by rw [decide_eq_true_iff]; omega
        clear he HR
        generalize xs.getD k 0 = x at c1 hb1
        generalize xs.getD j 0 = y at c2 hb1
        go_wp2_with fail
        go_quiet (fail)
        go_wp2_with fail
        go_ret
        refine ⟨?_, ((Fr.refl _ w).drewN _).drewN _⟩
        rw [HF.out]
        rfl
    · have HF := hid (riseB_true xs (fun j hj => HE.out j (by omega)))
      have hlt' : ¬ (j : Int) < xs.length := by omega
      go_wp2_with fail
      go_ret
      refine ⟨?_, ((Fr.refl _ w).drewN _)⟩
      rw [HF.out]
      rfl

/-- The occupied slots among so many from one on. -/
def inTo (σ : List (Option Int)) (a : Nat) : Nat → List Int
  | 0 => []
  | k + 1 => inTo σ a k ++ if onOf σ (a + k) then [((a + k : Nat) : Int)] else []
theorem inTo_length (σ : List (Option Int)) (a : Nat) : ∀ k, (inTo σ a k).length ≤ k
  | 0 => Nat.le_refl 0
  | k + 1 => by
    have := inTo_length σ a k
    unfold inTo
    rw [List.length_append]
    split <;> simp <;> omega

set_option maxHeartbeats 2000000 in
theorem refIn_any {σ : List (Option Int)} {w : World} (g : Nat) (h1 : Has w g (slotCells σ) 38) (first segs : Int) (h0 : 0 ≤ first) (hs : 0 ≤ segs) (hle : 8 * (first + segs) ≤ σ.length) (hn : σ.length ≤ 65536) (hG : NG ≤ w.heap.size) :
    Calls Tryd.prog 37 #[.slice (some ⟨g, 0, none⟩) σ.length σ.length, .int .i64 first, .int .i64 segs] w fun e w' => ∃ v, e = .returned v ∧ RowI w' w.heap.size v (inTo σ (8 * first.toNat) (8 * segs.toNat)) ∧ Fr Nil1 w w' := by
  obtain ⟨i0, hi, hz0, hz1, hz2⟩ := info_parts info_int
  have H1 := hid h1
  have HG := hid hG
  clear h1 hG
  obtain ⟨f, rfl⟩ := Int.eq_ofNat_of_zero_le h0
  obtain ⟨s, rfl⟩ := Int.eq_ofNat_of_zero_le hs
  rw [Int.toNat_natCast, Int.toNat_natCast]
  go_enter Tryd.func37, Tryd.ntmps37
  go_wp2_with fail
  go_loopw [7, 8] (fun v i wr => ∃ k : Nat, k ≤ 8 * s ∧ i = .int .i64 ((8 * f + k : Nat) : Int) ∧ Hid (RowI wr w.heap.size v (inTo σ (8 * f) k) ∧ Fr Nil1 w wr)) (fun _ i _ => 8 * f + 8 * s - (intOf i).toNat)
  case atStart => exact ⟨0, by omega, by go_num, hid ⟨RowI.nil _ _, Fr.refl _ _⟩⟩
  case round =>
    obtain ⟨k, hk, rfl, HR⟩ := hrel
    have hlen := inTo_length σ (8 * f) k
    have hst : inTo σ (8 * f) (k + 1) = inTo σ (8 * f) k ++ if onOf σ (8 * f + k) then [((8 * f + k : Nat) : Int)] else [] := rfl
    have HST := hid hst
    have hws : w.heap.size ≤ wr.heap.size := HR.out.2.size
    obtain ⟨q, hq⟩ : ∃ q, 8 * f + k = q := ⟨_, rfl⟩
    rw [hq] at HST
    rw [hq]
    by_cases hlt : q < 8 * (f + s)
    · have a0 := (H1.out.fr' HR.out.2 id).cell (q * 2)
      rw [slotCells_get0 _ _ (by omega)] at a0
      have HQ := hid hq
      have hqb : q < σ.length := by omega
      have hlt' : (q : Int) < 8 * ((f : Int) + (s : Int)) := by omega
      clear hst hq
      cases hon : onOf σ q
      · rw [show (σ.getD q none).isSome = false from hon] at a0
        have HO := hid hon
        clear hon
        go_wp2_with fail
        refine ⟨⟨k + 1, by have := HQ.out; omega, by have := HQ.out; rw [show 8 * f + (k + 1) = q + 1 by omega]; go_num, ?_⟩, by simp [intOf]; omega⟩
        rw [HST.out, HO.out]
        simpa using HR
      · rw [show (σ.getD q none).isSome = true from hon] at a0
        have HO := hid hon
        clear hon
        go_wp2_with (first | (at_builtin; refine wpList_append_own _ rfl _ _ 30 rfl w.heap.size 3 i0 (.int .i64 0) 1 8 Tryd.underlying30 hi hz0 hz1 hz2 rfl (by decide) _ _ _ rfl (HR.out.1.alloc _) ⟨wr.heap.size, 0, none⟩ 1 1 [.int .i64 (q : Int)] rfl rfl (cell_one_new _ _ _) (by simp [Value.oneCell']) (by unfold maxLen; omega) (by omega) (by simp; omega) ?_; intro v' w1 hown' hgrow _; have HOw := hid hown'; have HGr := hid hgrow; clear hown' hgrow))
        refine ⟨⟨k + 1, by have := HQ.out; omega, by have := HQ.out; rw [show 8 * f + (k + 1) = q + 1 by omega]; go_num, ?_⟩, by simp [intOf]; omega⟩
        rw [HST.out, HO.out]
        refine hid ⟨?_, (HR.out.2.alloc _).grown HGr.out (fun j e => by have := own_block HR.out.1 j e; have := HG.out; omega) (fun j e h => by have := own_block HR.out.1 j e; omega)⟩
        have := HOw.out
        unfold RowI
        rw [List.length_append, List.map_append]
        exact this
    · have hk8 := hid (show k = 8 * s by omega)
      have hlt' : ¬ (q : Int) < 8 * ((f : Int) + (s : Int)) := by omega
      clear hst hq
      go_wp2_with fail
      go_ret
      have h := HR.out
      rw [hk8.out] at h
      exact ⟨_, rfl, h.1, h.2⟩
end Go.Proofs.YtonoaklajnfmiaaDoor
