/- In one: Q1, Q2, Q3, Q4. -/
import Derived.Test.YtechphliifginaaGreatDoorGG
import Derived.Test.YtechphliifginaaGreatDoorGF
import Derived.Test.YtechphliifginaaGreatDoorGD
import Derived.WalkMore
import Derived.Deep.RegionHeld3
import Derived.Test.YtechphliifginaaGreatDoorGC
/- pick: sum, a window's count, the windows of a segment. -/
set_option linter.unusedVariables false
set_option linter.unusedSimpArgs false
namespace Go.Proofs.YtechphliifginaaGreatDoor
open Go.RowKit

/-- A slice of numbers that is read, with its room. -/
structure RdC (w : World) (ad : Addr) (c : Nat) (xs : List Int) : Prop where
  room : xs.length ≤ c
  cap : c ≤ 9223372036854775807
  cell : ∀ j u, (ints' xs)[j]? = some u → w.cell? (ad.add j) = some u
theorem RdC.new {w w' : World} {ad : Addr} {c : Nat} {xs : List Int} (h : RdC w ad c xs) (hf : Fr Nil1 w w') : RdC w' ad c xs := ⟨h.room, h.cap, fun j u hu => hf.cell (h.cell j u hu) (fun s => s)⟩
theorem RdC.rd {w : World} {ad : Addr} {c : Nat} {xs : List Int} (h : RdC w ad c xs) : Rd w (.slice (some ad) xs.length c) (ints' xs) := ⟨some ad, c, by rw [ints'_length], by rw [ints'_length]; exact Nat.le_trans h.room h.cap, fun _ => ⟨ad, rfl, h.cell⟩⟩
theorem RdC.sub {w : World} {ad : Addr} {c : Nat} {xs : List Int} (h : RdC w ad c xs) (f n : Nat) (hf : f + n ≤ xs.length) : RdC w (ad.add f) (c - f) ((xs.drop f).take n) := by
  have hr := h.room
  have hc := h.cap
  refine ⟨by rw [List.length_take, List.length_drop]; omega, by omega, fun j u hu => ?_⟩
  rw [add_add]
  apply h.cell
  unfold ints' at hu ⊢
  rw [List.map_take, List.map_drop] at hu
  rw [List.getElem?_take] at hu
  split at hu
  · rw [List.getElem?_drop] at hu; exact hu
  · cases hu

def sumI (xs : List Int) : Int := xs.foldl (· + ·) 0
theorem sumI_snoc (xs : List Int) (x : Int) : sumI (xs ++ [x]) = sumI xs + x := by simp [sumI, List.foldl_append]
theorem sumI_bound (xs : List Int) (h : ∀ x ∈ xs, 0 ≤ x ∧ x ≤ 8) : ∀ k, 0 ≤ sumI (xs.take k) ∧ sumI (xs.take k) ≤ 8 * k := by
  intro k
  induction k with
  | zero => simp [sumI]
  | succ k ih =>
    rcases Nat.lt_or_ge k xs.length with g | g
    · rw [List.take_succ_eq_append_getElem g, sumI_snoc]
      have := h _ (List.getElem_mem g)
      omega
    · rw [List.take_of_length_le (by omega)] at ih ⊢
      omega
/-- The sum of a window. -/
def wsum (xs : List Int) (f n : Nat) : Int := sumI ((xs.drop f).take n)

set_option maxRecDepth 100000 in
theorem pickSum_any (xs : List Int) (ad : Addr) (c : Nat) (w : World) (hx : RdC w ad c xs) (hl : xs.length ≤ 4096) (h8 : ∀ x ∈ xs, 0 ≤ x ∧ x ≤ 8) :
    Calls Tryz.prog 85 #[.slice (some ad) xs.length c] w fun e w' => e = .returned (.int .i64 (sumI xs)) ∧ w = w' := by
  have HA := hid hx.cell
  have HB := hid (sumI_bound xs h8)
  have H8 := hid h8
  clear hx h8
  go_enter Tryz.func85, Tryz.ntmps85
  go_wp2_with fail
  go_loop [3, 5, 8] (fun s x i => ∃ k : Nat, k ≤ xs.length ∧ i = .int .i64 k ∧ s = .int .i64 (sumI (xs.take k))) (fun _ _ i => xs.length - (intOf i).toNat)
  case atStart => exact ⟨0, by omega, rfl, rfl⟩
  case round =>
    obtain ⟨k, hk, rfl, rfl⟩ := hrel
    by_cases hlt : k < xs.length
    · have hcell := HA.out k _ (ints'_get xs k hlt)
      have hgd : xs.getD k 0 = xs[k] := by simp [List.getD_eq_getElem?_getD, List.getElem?_eq_getElem hlt]
      have hb := H8.out _ (List.getElem_mem hlt)
      rw [hgd] at hcell
      have HS := hid (show sumI (xs.take (k + 1)) = sumI (xs.take k) + xs[k] by rw [List.take_succ_eq_append_getElem hlt, sumI_snoc])
      have h1 := HB.out k
      obtain ⟨h11, h12⟩ := h1
      obtain ⟨hb1, hb2⟩ := hb
      generalize xs[k] = x at *
      generalize sumI (xs.take k) = s at *
      clear hgd
      go_wp2_with fail
      go_round
      case rel => exact ⟨k + 1, by omega, by go_num, by rw [HS.out]⟩
      case measure => simp [intOf]; omega
    · have HK := hid (show xs.take k = xs from List.take_of_length_le (by omega))
      go_wp2_with fail
      go_ret
      refine ⟨?_, rfl⟩
      have := HK.out
      rw [show sumI xs = sumI (xs.take k) by rw [this]]
      rfl
set_option maxRecDepth 100000 in
theorem pickCount_any (xs : List Int) (ad : Addr) (c : Nat) (k : Int) (f n : Nat) (w : World) (hx : RdC w ad c xs) (hl : xs.length ≤ 4096) (h8 : ∀ x ∈ xs, 0 ≤ x ∧ x ≤ 8) (hf : f + n ≤ xs.length) (hn : 1 ≤ n) :
    Calls Tryz.prog 148 #[.agg #[.int .i64 k, .int .i64 f, .int .i64 n], .slice (some ad) xs.length c] w fun e w' => e = .returned (.int .i64 (wsum xs f n)) ∧ Fr Nil1 w w' := by
  have hs := hx.sub f n hf
  have hlen : ((xs.drop f).take n).length = n := by rw [List.length_take, List.length_drop]; omega
  have HS := hid (fun w' (hf' : Fr Nil1 w w') => pickSum_any ((xs.drop f).take n) (ad.add f) (c - f) w' (hs.new hf') (by omega) (fun x hx' => h8 x (List.mem_of_mem_drop (List.mem_of_mem_take hx'))))
  rw [hlen] at HS
  have hr := hx.room
  have hfc : f < c := by omega
  have hc := hx.cap
  have HF := hid (show Fr Nil1 w (w.alloc (.cells #[.int .i64 k, .int .i64 f, .int .i64 n] 108)) from (Fr.refl _ _).alloc _)
  have HX := hid hx
  have hW : wsum xs f n = sumI ((xs.drop f).take n) := rfl
  rw [hW]
  have HL := hid hlen
  clear h8 hs hlen hW hx
  generalize (xs.drop f).take n = ys at *
  go_enter Tryz.func148, Tryz.ntmps148
  go_wp2_with (first | (go_at_call 85; refine (HS.out _ HF.out).mono ?_; rintro e w1 ⟨rfl, rfl⟩))
  go_ret
  exact ⟨rfl, HF.out⟩
end Go.Proofs.YtechphliifginaaGreatDoor

/- pick: the windows of a segment, as an iterator. -/
set_option linter.unusedVariables false
set_option linter.unusedSimpArgs false
namespace Go.Proofs.YtechphliifginaaGreatDoor
open Go.RowKit Go.Shelf
attribute [local go_sem] Oper.semAt_some

/-- A level of a height. -/
abbrev Lv (h : Nat) := { k : Nat // k ≤ h }
def lvTo (h : Nat) : Nat → List (Lv h)
  | 0 => []
  | k + 1 => lvTo h k ++ [⟨min k h, Nat.min_le_right k h⟩]
theorem lvTo_length (h : Nat) : ∀ k, (lvTo h k).length = k
  | 0 => rfl
  | k + 1 => by unfold lvTo; rw [List.length_append, lvTo_length h k]; rfl
theorem lvTo_prefix (h k : Nat) : ∀ d, lvTo h k <+: lvTo h (k + d)
  | 0 => List.prefix_refl _
  | d + 1 => (lvTo_prefix h k d).trans (List.prefix_append _ _)
def encW (seg : Nat) {h : Nat} (x : Lv h) : Array Value := #[.agg #[.int .i64 (x.1 : Nat), .int .i64 (winF seg x.1 : Nat), .int .i64 (2 ^ x.1 : Nat)]]

theorem pickWindows_any (seg h : Int) (w : World) : Calls Tryz.prog 147 #[.int .i64 seg, .int .i64 h] w fun e w' =>
    e = .returned (.func (.func 183) #[] #[.pointer (some ⟨w.heap.size + 1, 0, none⟩), .pointer (some ⟨w.heap.size, 0, none⟩)]) ∧
    ((w.alloc (.cells #[.int .i64 seg] 3)).alloc (.cells #[.int .i64 h] 3)) = w' := by
  go_enter Tryz.func147, Tryz.ntmps147
  go_wp2_with fail
  go_ret
  exact ⟨rfl, rfl⟩

set_option maxRecDepth 100000 in
set_option maxHeartbeats 2000000 in
theorem pickWindows1_in (n : Nat) (l Bs Bh : Nat) (seg h : Nat) (hs : seg < 512) (hh : h ≤ 9) (J Jx : List (Lv h) → World → Prop)
    (hY : ∀ pre x W, J pre W → pre.length < h + 1 → YieldAt Fence.wide (n - 1) Tryz.prog l (encW seg x) W fun e W' =>
      (e = .returned (.bool true) ∧ J (pre ++ [x]) W' ∧ KeepC (fun k => k = Bs) W W') ∨ (e = .returned (.bool false) ∧ Jx (pre ++ [x]) W'))
    (W : World) (hBs : Has W Bs [.int .i64 seg] 3) (hBh : Has W Bh [.int .i64 h] 3) (h0 : J [] W) :
    CallsIn Fence.wide n Tryz.prog 183 #[.func (.yield l) #[] #[], .pointer (some ⟨Bh, 0, none⟩), .pointer (some ⟨Bs, 0, none⟩)] W fun e W' => (∃ v, e = .returned v) ∧
      ((∃ ys, ys = lvTo h (h + 1) ∧ J ys W') ∨ (∃ pre, pre <+: lvTo h (h + 1) ∧ Jx pre W')) := by
  obtain ⟨n0, nf⟩ := hBh.one
  have HC := hid hBs
  have HY := hid hY
  have HJ := hid h0
  clear hY h0 hBs hBh
  (refine callsIn_of_wp Tryz.func183 rfl trivial ?_ rfl; simp only [Tryz.ntmps183, List.size_toArray, List.length_cons, List.length_nil, Nat.reduceAdd, Nat.reduceSub, Array.replicate_succ, Array.replicate_zero, List.push_toArray, List.append_toArray, List.nil_append, List.cons_append])
  gi_wp2
  gi_loopw [4, 5, 6, 7, 10] (fun _ _ _ _ k wr => ∃ j : Nat, j ≤ h + 1 ∧ k = .int .i64 j ∧ Hid (J (lvTo h j) wr ∧ Has wr Bs [.int .i64 seg] 3)) (fun _ _ _ _ k _ => h + 1 - (intOf k).toNat)
  case atStart => exact ⟨0, by omega, rfl, hid ⟨HJ.out, HC.out⟩⟩
  case round =>
    obtain ⟨j, hj, rfl, HR⟩ := hrel
    by_cases hlt : j < h + 1
    · have hltI : (j : Int) < (h : Int) + 1 := by omega
      obtain ⟨s0, sf⟩ := HR.out.2.one
      have HW := hid (fun w => levelWindow_any seg j hs (by omega) w)
      have hstep : lvTo h (j + 1) = lvTo h j ++ [⟨j, by omega⟩] := by
        show lvTo h j ++ _ = _
        congr 2
        exact Subtype.ext (Nat.min_eq_left (by omega))
      obtain ⟨fn, tmps, assign, body, hy, hR⟩ := HY.out (lvTo h j) ⟨j, by omega⟩ wr HR.out.1 (by rw [lvTo_length]; exact hlt)
      have HP := hid (show lvTo h j ++ [⟨j, by omega⟩] <+: lvTo h (h + 1) by
        rw [← hstep]
        have := lvTo_prefix h (j + 1) (h + 1 - (j + 1))
        rwa [show j + 1 + (h + 1 - (j + 1)) = h + 1 by omega] at this)
      have HRd := hid hR
      have HS := hid hstep
      clear hR hstep
      unfold encW at hy
      dsimp only at hy
      generalize winF seg j = f at *
      generalize 2 ^ j = m at *
      gi_wp2_with (first | ((first | refine ⟨trivial, wideNo, ?_⟩ | refine ⟨trivial, ?_⟩); gi_at_call 184; refine (callsIn_wide.2 (HW.out _)).mono ?_; rintro e w1 ⟨rfl, rfl⟩))
      refine ⟨wideNo, HRd.out.mono ?_⟩
      rintro e W3 (⟨rfl, hJ3, hk3⟩ | ⟨rfl, hJx3⟩)
      · have HB3 := hid (HR.out.2.keepC hk3 rfl)
        have HJ3 := hid hJ3
        clear hJ3 hk3
        gi_wp2
        go_roundw
        case rel => exact ⟨j + 1, by omega, by go_num, hid ⟨by rw [HS.out]; exact HJ3.out, HB3.out⟩⟩
        case measure => simp [intOf]; omega
      · have HJx := hid hJx3
        clear hJx3
        gi_wp2
        refine bodyPost_ret (results_none rfl _ _ _) rfl ?_
        exact ⟨⟨_, rfl⟩, .inr ⟨_, HP.out, HJx.out⟩⟩
    · have hj2 : j = h + 1 := by omega
      have hJ := HR.out.1
      rw [hj2] at hJ
      have HJ2 := hid hJ
      clear hJ
      gi_wp2
      go_end0
      exact ⟨⟨_, rfl⟩, .inl ⟨_, rfl, HJ2.out⟩⟩

theorem pickWindows_stops (n : Nat) (Bs Bh : Nat) (seg h : Nat) (hs : seg < 512) (hh : h ≤ 9) (w : World) (hBs : Has w Bs [.int .i64 seg] 3) (hBh : Has w Bh [.int .i64 h] 3) :
    SeqStopsK Fence.wide n Tryz.prog 183 #[.pointer (some ⟨Bh, 0, none⟩), .pointer (some ⟨Bs, 0, none⟩)] (encW seg (h := h)) (KeepC (fun k => k = Bs)) (fun ys => ys = lvTo h (h + 1)) (fun pre => pre <+: lvTo h (h + 1)) (h + 1) w := fun l J Jx W hW _ _ hY h0 =>
  pickWindows1_in n l Bs Bh seg h hs hh J Jx hY W (hBs.below hW hBs.lt) (hBh.below hW hBh.lt) h0
end Go.Proofs.YtechphliifginaaGreatDoor

/- pick: Check, find. -/
set_option linter.unusedVariables false
set_option linter.unusedSimpArgs false
namespace Go.Proofs.YtechphliifginaaGreatDoor
open Go.RowKit Go.Shelf
attribute [local go_sem] Oper.semAt_some

theorem pickCheck1_any (x : Int) (w : World) : Calls Tryz.prog 153 #[.int .i64 x] w fun e w' => e = .returned (.bool (decide (x < 0 ∨ 8 < x))) ∧ w = w' := by
  by_cases h1 : x < 0
  · have e : decide (x < 0 ∨ 8 < x) = true := decide_eq_true (.inl h1)
    rw [e]
    clear e
    go_enter Tryz.func153, Tryz.ntmps153
    go_wp2_with fail
    go_ret
    exact ⟨rfl, rfl⟩
  · by_cases h2 : 8 < x
    · have e : decide (x < 0 ∨ 8 < x) = true := decide_eq_true (.inr h2)
      rw [e]
      clear e
      go_enter Tryz.func153, Tryz.ntmps153
      go_wp2_with fail
      go_ret
      exact ⟨rfl, rfl⟩
    · have e : decide (x < 0 ∨ 8 < x) = false := decide_eq_false (by omega)
      rw [e]
      clear e
      go_enter Tryz.func153, Tryz.ntmps153
      go_wp2_with fail
      go_ret
      exact ⟨rfl, rfl⟩
/-- Counts of segments of an array of such a height. -/
structure CntOK (xs : List Int) (h : Nat) : Prop where
  h2 : 2 ≤ h
  h9 : h ≤ 9
  len : xs.length = 2 ^ h
  all : ∀ x ∈ xs, 0 ≤ x ∧ x ≤ 8
theorem CntOK.len' {xs : List Int} {h : Nat} (H : CntOK xs h) : 4 ≤ xs.length ∧ xs.length ≤ 512 := by
  rw [H.len]
  exact ⟨Nat.pow_le_pow_right (n := 2) (by omega) H.h2, Nat.pow_le_pow_right (n := 2) (by omega) H.h9⟩
set_option maxRecDepth 100000 in
theorem pickCheck_ok (xs : List Int) (h : Nat) (ad : Addr) (c : Nat) (w : World) (hx : RdC w ad c xs) (H : CntOK xs h) :
    Calls Tryz.prog 86 #[.slice (some ad) xs.length c] w fun e w' => e = .returned (.int .i64 0) ∧ Fr Nil1 w w' := by
  have HC := hid (containsFunc_pure 153 (fun x => decide (x < 0 ∨ 8 < x)) xs _ w hx.rd enters_check (fun x _ w' => pickCheck1_any x w'))
  have e : xs.any (fun x => decide (x < 0 ∨ 8 < x)) = false := by
    rw [List.any_eq_false]
    intro x hx
    have := H.all x hx
    simp; omega
  rw [e] at HC
  have M := hid (fun w => levelMay_any (8 * (xs.length : Int)) w)
  rw [show mayB (8 * (xs.length : Int)) = true by rw [H.len]; exact mayB_pow H.h2 H.h9] at M
  have hl := H.len'
  obtain ⟨l1, l2⟩ := hl
  clear hx e H
  generalize xs.length = n at *
  go_enter Tryz.func86, Tryz.ntmps86
  go_wp2_with (first | (go_at_call 91; refine (M.out _).mono ?_; rintro e w1 ⟨rfl, rfl⟩) | (go_at_call 152; refine HC.out.mono ?_; rintro e w1 ⟨rfl, hF⟩; have HF := hid hF; clear hF))
  go_ret
  exact ⟨rfl, HF.out⟩

theorem wpIn_scope {P : Program} {n : Nat} {c : Code} {Q : Exit → Act → World → Prop} {a : Act} {w : World} (h : c.wpIn Fence.wide n P (Exit.noGoto Q) a w) : (Code.scope c).wpIn Fence.wide n P Q a w := wpIn_wide.2 (wp_scope_straight (wpIn_wide.1 h))
theorem winF_in {seg x h : Nat} (hx : x ≤ h) (hs : seg < 2 ^ h) : winF seg x + 2 ^ x ≤ 2 ^ h ∧ 1 ≤ 2 ^ x := by
  obtain ⟨d, rfl⟩ := Nat.exists_eq_add_of_le hx
  have hp : 0 < 2 ^ x := Nat.pow_pos (by omega)
  rw [Nat.pow_add] at hs ⊢
  have h1 : seg / 2 ^ x < 2 ^ d := (Nat.div_lt_iff_lt_mul hp).2 (by rw [Nat.mul_comm]; exact hs)
  have h2 : winF seg x = 2 ^ x * (seg / 2 ^ x) := by
    have := Nat.div_add_mod seg (2 ^ x)
    unfold winF; omega
  have h3 : 2 ^ x * (seg / 2 ^ x + 1) ≤ 2 ^ x * 2 ^ d := Nat.mul_le_mul_left _ h1
  rw [Nat.mul_add, Nat.mul_one] at h3
  omega
theorem wsum_bound (xs : List Int) (h : ∀ x ∈ xs, 0 ≤ x ∧ x ≤ 8) (f n : Nat) : 0 ≤ wsum xs f n ∧ wsum xs f n ≤ 8 * xs.length := by
  have := sumI_bound ((xs.drop f).take n) (fun x hx => h x (List.mem_of_mem_drop (List.mem_of_mem_take hx))) xs.length
  rw [List.take_of_length_le (by rw [List.length_take, List.length_drop]; omega)] at this
  exact this
/-- The least level from k on whose window is within its bounds. -/
def findF (xs : List Int) (seg h : Nat) : Nat → Nat → Option Nat
  | 0, _ => none
  | f + 1, k => if withinF (wsum xs (winF seg k) (2 ^ k)) k h = 0 then some k else findF xs seg h f (k + 1)
def lvl (xs : List Int) (seg h : Nat) : Option Nat := findF xs seg h (h + 1) 0
/-- The window that is found, as a struct. -/
def winV (seg : Nat) : Option Nat → Value
  | some k => .agg #[.int .i64 (k : Nat), .int .i64 (winF seg k : Nat), .int .i64 (2 ^ k : Nat)]
  | none => .agg #[.int .i64 0, .int .i64 0, .int .i64 0]

theorem findF_none (xs : List Int) (seg h : Nat) : ∀ f k, (∀ j, k ≤ j → j < k + f → withinF (wsum xs (winF seg j) (2 ^ j)) j h ≠ 0) → findF xs seg h f k = none
  | 0, _, _ => rfl
  | f + 1, k, hh => by
    unfold findF
    rw [if_neg (hh k (Nat.le_refl _) (by omega))]
    exact findF_none xs seg h f (k + 1) (fun j h1 h2 => hh j (by omega) (by omega))
theorem findF_some (xs : List Int) (seg h m : Nat) (hm : withinF (wsum xs (winF seg m) (2 ^ m)) m h = 0) : ∀ f k, k ≤ m → m < k + f → (∀ j, k ≤ j → j < m → withinF (wsum xs (winF seg j) (2 ^ j)) j h ≠ 0) → findF xs seg h f k = some m
  | 0, _, _, _, _ => by omega
  | f + 1, k, h1, h2, hh => by
    unfold findF
    by_cases e : k = m
    · rw [e, if_pos hm]
    · rw [if_neg (hh k (Nat.le_refl _) (by omega))]
      exact findF_some xs seg h m hm f (k + 1) (by omega) (by omega) (fun j h1 h2 => hh j (by omega) h2)
theorem lvTo_mem (h : Nat) : ∀ k, k ≤ h + 1 → ∀ y : Lv h, y.1 < k → y ∈ lvTo h k
  | 0, _, y, hy => by omega
  | k + 1, hk, y, hy => by
    unfold lvTo
    by_cases e : y.1 = k
    · refine List.mem_append_right _ (List.mem_singleton.2 (Subtype.ext ?_))
      show y.1 = min k h
      omega
    · exact List.mem_append_left _ (lvTo_mem h k (by omega) y (by omega))
theorem lvTo_pre (h : Nat) (pre : List (Lv h)) (hp : pre <+: lvTo h (h + 1)) : pre = lvTo h pre.length := by
  have h1 := hp.length_le
  rw [lvTo_length] at h1
  have h2 := lvTo_prefix h pre.length (h + 1 - pre.length)
  rw [show pre.length + (h + 1 - pre.length) = h + 1 by omega] at h2
  exact (List.prefix_of_prefix_length_le hp h2 (by rw [lvTo_length]; exact Nat.le_refl _)).eq_of_length (by rw [lvTo_length])
theorem lvTo_last (h k : Nat) (hk : k ≤ h) : lvTo h (k + 1) = lvTo h k ++ [⟨k, hk⟩] := by
  show lvTo h k ++ _ = _
  congr 2
  exact Subtype.ext (Nat.min_eq_left hk)
set_option maxRecDepth 100000 in
set_option maxHeartbeats 2000000 in
theorem pickFind_ok (xs : List Int) (h seg : Nat) (ad : Addr) (c : Nat) (w : World) (hx : RdC w ad c xs) (H : CntOK xs h) (hs : seg < xs.length) (hg : GW w) :
    Calls Tryz.prog 83 #[.slice (some ad) xs.length c, .int .i64 seg] w fun e w' =>
      e = .returned (.tuple #[winV seg (lvl xs seg h), .int .i64 h, .bool (lvl xs seg h).isSome, .int .i64 0]) ∧ Fr Nil1 w w' := by
  refine (callsIn_wide (n := 3)).1 ?_
  have HX := hid hx
  have HH := hid H
  have HG := hid hg
  have hl := H.len'
  obtain ⟨l1, l2⟩ := hl
  have hsl : (seg : Int) < xs.length := by omega
  have h9 := H.h9
  have hC := fun w' (hf : Fr Nil1 w w') => pickCheck_ok xs h ad c w' (hx.new hf) H
  have HC := hid hC
  have F0 := hid (show Fr Nil1 w ((w.alloc (.cells #[.slice (some ad) xs.length c] 30)).alloc (.cells #[.int .i64 0, .int .i64 0, .int .i64 0] 108)) from ((Fr.refl _ _).alloc _).alloc _)
  have B0 := hid (show Has ((w.alloc (.cells #[.slice (some ad) xs.length c] 30)).alloc (.cells #[.int .i64 0, .int .i64 0, .int .i64 0] 108)) w.heap.size [.slice (some ad) xs.length c] 30 from (Has.new w [.slice (some ad) xs.length c] 30).alloc _)
  have HT := hid (fun w' (hf : Fr Nil1 w w') => by
    have := levelHeight_ok h H.h2 H.h9 w' (hg.fr hf).tab
    rw [← H.len, Int.natCast_mul] at this
    exact this)
  have R0 := hid (show Has ((w.alloc (.cells #[.slice (some ad) xs.length c] 30)).alloc (.cells #[.int .i64 0, .int .i64 0, .int .i64 0] 108)) (w.heap.size + 1) [.int .i64 0, .int .i64 0, .int .i64 0] 108 by
    have := Has.new (w.alloc (.cells #[.slice (some ad) xs.length c] 30)) [.int .i64 0, .int .i64 0, .int .i64 0] 108
    rwa [World.size_alloc] at this)
  obtain ⟨b0, bz0⟩ := B0.out.one
  clear hx H hC hg
  (refine callsIn_of_wp_marks Tryz.func83 rfl trivial ?_ rfl; simp only [Tryz.ntmps83, List.size_toArray, List.length_cons, List.length_nil, Nat.reduceAdd, Nat.reduceSub, Array.replicate_succ, Array.replicate_zero, List.push_toArray, List.append_toArray, List.nil_append, List.cons_append])
  gi_wp2_with fail
  refine wpIn_scope ?_
  gi_wp2_with (first
    | ((first | refine ⟨trivial, wideNo, ?_⟩ | refine ⟨trivial, ?_⟩); gi_at_call 86; refine (callsIn_wide.2 (HC.out _ F0.out)).mono ?_; rintro e w1 ⟨rfl, hF1⟩; have F1 := hid (F0.out.trans hF1); have B1 := hid (B0.out.fr' hF1 id); have b1 := B1.out.one; obtain ⟨b1, bz1⟩ := b1; have R1 := hid (show Has w1 (w.heap.size + 1) [.int .i64 0, .int .i64 0, .int .i64 0] 108 from R0.out.fr' hF1 id); clear hF1)
    | ((first | refine ⟨trivial, wideNo, ?_⟩ | refine ⟨trivial, ?_⟩); gi_at_call 146; refine (callsIn_wide.2 (HT.out _ F1.out)).mono ?_; rintro e w2 ⟨rfl, rfl⟩)
    | ((first | refine ⟨trivial, wideNo, ?_⟩ | refine ⟨trivial, ?_⟩); gi_at_call 147; refine (callsIn_wide.2 (pickWindows_any _ _ _)).mono ?_; rintro e w3 ⟨rfl, rfl⟩))
  refine wpIn_label ?_
  gi_wp2_with (first | ((first | refine ⟨trivial, wideNo, ?_⟩ | refine ⟨trivial, ?_⟩); gi_at_call 147; refine (callsIn_wide.2 (pickWindows_any _ _ _)).mono ?_; rintro e w3 ⟨rfl, rfl⟩))
  obtain ⟨Q, hQ⟩ : ∃ Q, w1.heap.size = Q := ⟨_, rfl⟩
  have hb0 := ((((Has.new w1 [.int .i64 h] 3).alloc (.cells #[.int .i64 0, .int .i64 0, .int .i64 0] 108)).alloc (.cells #[.bool false] 4)).alloc (.cells #[.int .i64 seg] 3)).alloc (.cells #[.int .i64 h] 3)
  have hb1 := (((Has.new (w1.alloc (.cells #[.int .i64 h] 3)) [.int .i64 0, .int .i64 0, .int .i64 0] 108).alloc (.cells #[.bool false] 4)).alloc (.cells #[.int .i64 seg] 3)).alloc (.cells #[.int .i64 h] 3)
  have hb2 := ((Has.new ((w1.alloc (.cells #[.int .i64 h] 3)).alloc (.cells #[.int .i64 0, .int .i64 0, .int .i64 0] 108)) [.bool false] 4).alloc (.cells #[.int .i64 seg] 3)).alloc (.cells #[.int .i64 h] 3)
  have hb3 := (Has.new (((w1.alloc (.cells #[.int .i64 h] 3)).alloc (.cells #[.int .i64 0, .int .i64 0, .int .i64 0] 108)).alloc (.cells #[.bool false] 4)) [.int .i64 seg] 3).alloc (.cells #[.int .i64 h] 3)
  have hb4 := Has.new ((((w1.alloc (.cells #[.int .i64 h] 3)).alloc (.cells #[.int .i64 0, .int .i64 0, .int .i64 0] 108)).alloc (.cells #[.bool false] 4)).alloc (.cells #[.int .i64 seg] 3)) [.int .i64 h] 3
  have hfr0 : Fr Nil1 w1 (((((w1.alloc (.cells #[.int .i64 h] 3)).alloc (.cells #[.int .i64 0, .int .i64 0, .int .i64 0] 108)).alloc (.cells #[.bool false] 4)).alloc (.cells #[.int .i64 seg] 3)).alloc (.cells #[.int .i64 h] 3)) := (((((Fr.refl _ _).alloc _).alloc _).alloc _).alloc _).alloc _
  simp only [World.size_alloc] at hb1 hb2 hb3 hb4
  obtain ⟨W0, hW0⟩ : ∃ W0, (((((w1.alloc (.cells #[.int .i64 h] 3)).alloc (.cells #[.int .i64 0, .int .i64 0, .int .i64 0] 108)).alloc (.cells #[.bool false] 4)).alloc (.cells #[.int .i64 seg] 3)).alloc (.cells #[.int .i64 h] 3)) = W0 := ⟨_, rfl⟩
  have hsz : W0.heap.size = w1.heap.size + 5 := by rw [← hW0]; simp
  rw [hW0] at hfr0 hb0 hb1 hb2 hb3 hb4 ⊢
  rw [hQ] at hb0 hb1 hb2 hb3 hb4 hsz ⊢
  have hG1 : NG ≤ w1.heap.size := Nat.le_trans HG.out.size F1.out.size
  have hws : w.heap.size + 1 < Q := by rw [← hQ]; exact R1.out.lt
  have H8 := hid HH.out.all
  have hlen := hid HH.out.len
  have h2 := HH.out.h2
  have hT : ∀ k, k = Q ∨ k = Q + 1 ∨ k = Q + 2 ∨ k < Q → k < W0.heap.size := by omega
  clear hW0
  refine wpIn_rangeFunc_ownH rfl (by omega) (gf := 183) (lb := #[.pointer (some ⟨Q + 1 + 1 + 1 + 1, 0, none⟩), .pointer (some ⟨Q + 1 + 1 + 1, 0, none⟩)]) rfl trivial (enters_of Tryz.func183 (by kernel_rfl) rfl)
    (pickWindows_stops _ (Q + 1 + 1 + 1) (Q + 1 + 1 + 1 + 1) seg h (by omega) h9 W0 hb3 hb4) (fun h k => h.trans k) (fun W l o o' hl ho hc hw => KeepC.putObj _ W l o o' ho hc) (Below.refl _ _) (fun _ => rfl)
    (fun pre W => (Has W Q [.int .i64 h] 3 ∧ Has W (Q + 1) [.int .i64 0, .int .i64 0, .int .i64 0] 108 ∧ Has W (Q + 1 + 1) [.bool false] 4) ∧ Fr Nil1 w1 W ∧ Q + 5 ≤ W.heap.size ∧ ∀ y ∈ pre, withinF (wsum xs (winF seg y.1) (2 ^ y.1)) y.1 h ≠ 0)
    (fun cc pre W => ∃ pre' x, cc = .exit 0 ∧ pre = pre' ++ [x] ∧ (Has W Q [.int .i64 h] 3 ∧ Has W (Q + 1) [.int .i64 (x.1 : Nat), .int .i64 (winF seg x.1 : Nat), .int .i64 (2 ^ x.1 : Nat)] 108 ∧ Has W (Q + 1 + 1) [.bool true] 4) ∧ Fr Nil1 w1 W ∧ Q + 5 ≤ W.heap.size ∧ (∀ y ∈ pre', withinF (wsum xs (winF seg y.1) (2 ^ y.1)) y.1 h ≠ 0) ∧ withinF (wsum xs (winF seg x.1) (2 ^ x.1)) x.1 h = 0)
    (fun s A B row hs hg hrow => ⟨⟨hs.1.1.grownBy hg (fun r e => (hrow r e).2), hs.1.2.1.grownBy hg (fun r e => (hrow r e).2), hs.1.2.2.grownBy hg (fun r e => (hrow r e).2)⟩, hs.2.1.grownBy hg hrow (by omega) hG1, Nat.le_trans hs.2.2.1 hg.size, hs.2.2.2⟩)
    (fun cc s A B row hs hg hrow => by
      obtain ⟨pre', x, e1, e2, h1, h2, h3, h4⟩ := hs
      exact ⟨pre', x, e1, e2, ⟨h1.1.grownBy hg (fun r e => (hrow r e).2), h1.2.1.grownBy hg (fun r e => (hrow r e).2), h1.2.2.grownBy hg (fun r e => (hrow r e).2)⟩, h2.grownBy hg hrow (by omega) hG1, Nat.le_trans h3 hg.size, h4⟩)
    ⟨⟨hb0, hb1, hb2⟩, hfr0, by omega, by simp⟩
    (fun x a' W => ∃ Bx, Q + 5 ≤ Bx ∧ Has W Bx [.int .i64 (x.1 : Nat), .int .i64 (winF seg x.1 : Nat), .int .i64 (2 ^ x.1 : Nat)] 108 ∧ a' = { tmps := #[.slice (some ad) xs.length c, .int .i64 (seg : Int), .pointer (some ⟨w.heap.size, 0, none⟩), undef, .pointer (some ⟨w.heap.size + 1, 0, none⟩), .int .i64 0, .bool false, .int .i64 0, .int .i64 0, .pointer (some ⟨Q, 0, none⟩), .int .i64 0, .pointer (some ⟨Q + 1, 0, none⟩), .pointer (some ⟨Q + 1 + 1, 0, none⟩), .pointer (some ⟨Bx, 0, none⟩), undef, undef, .slice (some ad) xs.length c, .int .i64 0, .int .i64 0, .bool false, undef, undef, .int .i64 (seg : Int), .bool (decide ((seg : Int) < 0)), .bool (decide ((seg : Int) < 0)), .int .i64 (seg : Int), .slice (some ad) xs.length c, .int .i64 (xs.length : Int), .bool false, .bool (decide ((seg : Int) < 0)), undef, .tuple #[.int .i64 (h : Int), .int .i64 0], .slice (some ad) xs.length c, .int .i64 (xs.length : Int), .int .i64 (8 * (xs.length : Int)), .tuple #[.int .i64 (h : Int), .int .i64 0], .int .i64 (h : Int), .int .i64 0, .int .i64 0, .bool false, undef, undef, .int .i64 (seg : Int), .int .i64 (h : Int), .func (.func 183) #[] #[.pointer (some ⟨Q + 1 + 1 + 1 + 1, 0, none⟩), .pointer (some ⟨Q + 1 + 1 + 1, 0, none⟩)], .agg #[.int .i64 (x.1 : Nat), .int .i64 (winF seg x.1 : Nat), .int .i64 (2 ^ x.1 : Nat)], undef, undef, undef, undef, undef, undef, undef, undef, undef, undef, undef, undef, undef, undef, undef, undef, undef, undef, undef, undef], defers := [] })
    (fun x a' s A B row hs hg hrow => by
      obtain ⟨Bx, h1, h2, h3⟩ := hs
      exact ⟨Bx, h1, h2.grownBy hg (fun r e => (hrow r e).2), h3⟩)
    ?assign ?body ?done ?stop
  case assign =>
    rintro l pre x W K ⟨⟨i0, i1, i2⟩, i3, i4, i5⟩ hK
    unfold encW
    gi_wp2
    exact hK _ _ ((KeepsOthers.alloc _ _).from _) (KeepC.of_fr ((Fr.refl Nil1 W).alloc _) (fun _ _ h => h)) ⟨⟨i0.alloc _, i1.alloc _, i2.alloc _⟩, i3.alloc _, Nat.le_trans i4 (by simp), i5⟩ ⟨W.heap.size, i4, Has.new W _ _, rfl⟩
  case body =>
    rintro l pre x a' W hl ⟨r, hr⟩ ⟨⟨i0, i1, i2⟩, i3, i4, i5⟩ ⟨Bx, hBx, bX, rfl⟩ hlt
    have HI := hid (And.intro i0 (And.intro i1 (And.intro i2 (And.intro i3 (And.intro i4 i5)))))
    have HBX := hid bX
    obtain ⟨x, hx⟩ := x
    dsimp only at HBX ⊢
    have hx512 : winF seg x + 2 ^ x ≤ xs.length ∧ 1 ≤ 2 ^ x := winF_in hx (by rw [← hlen.out]; exact hs) |> (hlen.out ▸ ·)
    have HCo := hid (fun W' (hf : Fr Nil1 w W') => pickCount_any xs ad c (x : Nat) (winF seg x) (2 ^ x) W' (HX.out.new hf) (by omega) H8.out hx512.1 hx512.2)
    have hwb := wsum_bound xs H8.out (winF seg x) (2 ^ x)
    have HWi := hid (fun W' => levelWithin_any (wsum xs (winF seg x) (2 ^ x)) x h hx h9 h2 hwb.1 (by omega) W')
    have FW := hid (show Fr Nil1 w W from F1.out.trans i3)
    have FD := hid (show Fr Nil1 w W.drew from (F1.out.trans i3).drew)
    have q1 : ∀ u : FrW W, u.u.cell? ⟨Bx, 0, none⟩ = some (.int .i64 (x : Nat)) := fun u => (bX.fr' u.h id).cell 0
    have q2 : ∀ u : FrW W, u.u.cell? ⟨Bx, 1, none⟩ = some (.int .i64 (winF seg x : Nat)) := fun u => (bX.fr' u.h id).cell 1
    have q3 : ∀ u : FrW W, u.u.cell? ⟨Bx, 2, none⟩ = some (.int .i64 (2 ^ x : Nat)) := fun u => (bX.fr' u.h id).cell 2
    have q4 : ∀ u : FrW W, u.u.cell? ⟨Q, 0, none⟩ = some (.int .i64 h) := fun u => (i0.fr' u.h id).cell 0
    have q5 : ∀ u : FrW W, u.u.cell? ⟨w.heap.size, 0, none⟩ = some (.slice (some ad) xs.length c) := fun u => (B1.out.fr' (i3.trans u.h) id).cell 0
    clear i0 i1 i2 i3 i5 bX hwb hb0 hb1 hb2 hb3 hb4 hfr0
    generalize hwv : withinF (wsum xs (winF seg x) (2 ^ x)) x h = wv at *
    have HWV := hid hwv
    clear hwv
    generalize hm : 2 ^ x = m at HBX HCo HWi HWV q3 hx512 ⊢
    have HM := hid hm
    clear hm
    gi_wp2_with fail
    refine wpIn_region_frR W (Fr.refl _ _) (by kernel_rfl) (by kernel_rfl) (by kernel_rfl) ?_
    repeat (go_big_quiet_step (first
      | (go_at_call 148; refine (HCo.out _ (FW.out.trans (FrW.h _))).mono ?_; rintro e wA ⟨rfl, hfA⟩; exact ⟨rfl, ⟨wA, (FrW.h _).trans hfA⟩, rfl⟩)
      | (go_at_call 84; refine (HWi.out _).mono ?_; rintro e wB ⟨rfl, rfl⟩; exact ⟨rfl, _, rfl⟩)))
    refine wpQuiet_nil ?_
    rintro _ ⟨u1, rfl⟩
    have J1 := hid (HI.out.2.1.fr' u1.h id)
    have J2 := hid (HI.out.2.2.1.fr' u1.h id)
    obtain ⟨c10, c11, c12, f1⟩ := J1.out.three
    obtain ⟨c20, f2⟩ := J2.out.one
    have K1 := hid (show KeepsOthers W u1.u from ⟨u1.h.size, fun k o hk ho => (u1.h.block k (Array.getElem?_eq_some_iff.1 (by first | exact ho | exact hk)).1 (fun s => s.elim)).trans (by first | exact ho | exact hk)⟩)
    by_cases hw0 : wv = 0
    · subst hw0
      gi_wp2
      have L1 := (((J1.out.set 0 (.int .i64 (x : Nat))).set 1 (.int .i64 (winF seg x : Nat))).set 2 (.int .i64 (m : Nat))).other (p := ⟨Q + 1 + 1, 0, none⟩) (.bool true) (by show Q + 1 ≠ Q + 1 + 1; omega)
      have L2 := (((J2.out.other (p := ⟨Q + 1, 0, none⟩) (.int .i64 (x : Nat)) (by show Q + 1 + 1 ≠ Q + 1; omega)).other (p := ⟨Q + 1, 1, none⟩) (.int .i64 (winF seg x : Nat)) (by show Q + 1 + 1 ≠ Q + 1; omega)).other (p := ⟨Q + 1, 2, none⟩) (.int .i64 (m : Nat)) (by show Q + 1 + 1 ≠ Q + 1; omega)).set 0 (.bool true)
      have L3 := ((((HI.out.1.fr' u1.h id).other (p := ⟨Q + 1, 0, none⟩) (.int .i64 (x : Nat)) (by show Q ≠ Q + 1; omega)).other (p := ⟨Q + 1, 1, none⟩) (.int .i64 (winF seg x : Nat)) (by show Q ≠ Q + 1; omega)).other (p := ⟨Q + 1, 2, none⟩) (.int .i64 (m : Nat)) (by show Q ≠ Q + 1; omega)).other (p := ⟨Q + 1 + 1, 0, none⟩) (.bool true) (by show Q ≠ Q + 1 + 1; omega)
      have L4 := ((((HI.out.2.2.2.1.trans u1.h).setNew ⟨Q + 1, 0, none⟩ (.int .i64 (x : Nat)) hG1 (by show _ ≤ Q + 1; omega)).setNew ⟨Q + 1, 1, none⟩ (.int .i64 (winF seg x : Nat)) hG1 (by show _ ≤ Q + 1; omega)).setNew ⟨Q + 1, 2, none⟩ (.int .i64 (m : Nat)) hG1 (by show _ ≤ Q + 1; omega)).setNew ⟨Q + 1 + 1, 0, none⟩ (.bool true) hG1 (by show _ ≤ Q + 1 + 1; omega)
      have L5 : Q + 5 ≤ ((((u1.u.setCell ⟨Q + 1, 0, none⟩ (.int .i64 (x : Nat))).setCell ⟨Q + 1, 1, none⟩ (.int .i64 (winF seg x : Nat))).setCell ⟨Q + 1, 2, none⟩ (.int .i64 (m : Nat))).setCell ⟨Q + 1 + 1, 0, none⟩ (.bool true)).heap.size := by
        simp only [World.size_setCell]
        exact Nat.le_trans HI.out.2.2.2.2.1 u1.h.size
      refine ⟨((((K1.out.trans (KeepsOthers.setCell _ _ _)).trans (KeepsOthers.setCell _ _ _)).trans (KeepsOthers.setCell _ _ _)).trans (KeepsOthers.setCell _ _ _)).from _, pre, ⟨x, hx⟩, rfl, rfl, ⟨L3, ?_, L2⟩, L4, L5, HI.out.2.2.2.2.2, ?_⟩
      · have := HM.out
        subst this
        exact L1
      · have := HM.out
        subst this
        exact HWV.out
    · have hb : (wv == 0) = false := by rw [beq_eq_false_iff_ne]; exact hw0
      have HW0 := hid hw0
      clear hw0
      gi_wp2
      refine ⟨K1.out.from _, KeepC.of_fr u1.h (fun _ _ h => h), ⟨HI.out.1.fr' u1.h id, J1.out, J2.out⟩, HI.out.2.2.2.1.trans u1.h, Nat.le_trans HI.out.2.2.2.2.1 u1.h.size, fun y hy => ?_⟩
      rcases List.mem_append.1 hy with hy | hy
      · exact HI.out.2.2.2.2.2 y hy
      · rw [List.mem_singleton.1 hy]
        show withinF (wsum xs (winF seg x) (2 ^ x)) x h ≠ 0
        rw [HM.out, HWV.out]
        exact HW0.out
  case done =>
    rintro D ys W hD rfl ⟨⟨i0, i1, i2⟩, i3, i4, i5⟩ hK
    obtain ⟨c10, c11, c12, f1⟩ := i1.three
    obtain ⟨c20, f2⟩ := i2.one
    obtain ⟨c00, f0⟩ := i0.one
    obtain ⟨r0, r1, r2, rf⟩ := (R1.out.fr' i3 id).three
    have HN := hid (show lvl xs seg h = none from findF_none xs seg h (h + 1) 0 (fun j h1 h2 => i5 ⟨j, by omega⟩ (lvTo_mem h (h + 1) (Nat.le_refl _) ⟨j, by omega⟩ (by show j < h + 1; omega))))
    gi_wp2_with fail
    have HR := hid (show Has W (w.heap.size + 1) [.int .i64 0, .int .i64 0, .int .i64 0] 108 from R1.out.fr' i3 id)
    have n1 : w.heap.size + 1 ≠ Q := by omega
    have n2 : w.heap.size ≠ Q := by omega
    have n3 : w.heap.size ≠ Q + 1 := by omega
    refine wpIn_wide.2 ?_
    go_region_held3 (fun w' => (w'.cell? ⟨Q, 0, none⟩ = some (.int .i64 h) ∧ w'.cell? ⟨Q + 1, 0, none⟩ = some (.int .i64 0) ∧ w'.cell? ⟨Q + 1, 1, none⟩ = some (.int .i64 0) ∧ w'.cell? ⟨Q + 1, 2, none⟩ = some (.int .i64 0)) ∧ w'.cell? ⟨Q + 1 + 1, 0, none⟩ = some (.bool false)) (go_keep) (fail)
    gi_wp2
    rw [Exit.noGoto_ret]
    have hKD : (((W.setCell ⟨w.heap.size + 1, 0, none⟩ (.int .i64 0)).setCell ⟨w.heap.size + 1, 1, none⟩ (.int .i64 0)).setCell ⟨w.heap.size + 1, 2, none⟩ (.int .i64 0)).drew.heap[D]? = some (.deferred (some [])) :=
      ((((KeepsOthers.setCell W ⟨w.heap.size + 1, 0, none⟩ _).trans (KeepsOthers.setCell _ ⟨w.heap.size + 1, 1, none⟩ _)).trans (KeepsOthers.setCell _ ⟨w.heap.size + 1, 2, none⟩ _)).trans (KeepsOthers.drew _)).same D _ hK rfl
    have hRF : Has (((W.setCell ⟨w.heap.size + 1, 0, none⟩ (.int .i64 0)).setCell ⟨w.heap.size + 1, 1, none⟩ (.int .i64 0)).setCell ⟨w.heap.size + 1, 2, none⟩ (.int .i64 0)).drew (w.heap.size + 1) [.int .i64 0, .int .i64 0, .int .i64 0] 108 := ((HR.out.set 0 (.int .i64 0)).set 1 (.int .i64 0)).set 2 (.int .i64 0)
    have hFF : Fr Nil1 w (((W.setCell ⟨w.heap.size + 1, 0, none⟩ (.int .i64 0)).setCell ⟨w.heap.size + 1, 1, none⟩ (.int .i64 0)).setCell ⟨w.heap.size + 1, 2, none⟩ (.int .i64 0)).drew :=
      ((((F1.out.trans i3).setNew ⟨w.heap.size + 1, 0, none⟩ (.int .i64 0) HG.out.size (by show _ ≤ w.heap.size + 1; omega)).setNew ⟨w.heap.size + 1, 1, none⟩ (.int .i64 0) HG.out.size (by show _ ≤ w.heap.size + 1; omega)).setNew ⟨w.heap.size + 1, 2, none⟩ (.int .i64 0) HG.out.size (by show _ ≤ w.heap.size + 1; omega)).drew
    obtain ⟨WF, hWF⟩ : ∃ WF, (((W.setCell ⟨w.heap.size + 1, 0, none⟩ (.int .i64 0)).setCell ⟨w.heap.size + 1, 1, none⟩ (.int .i64 0)).setCell ⟨w.heap.size + 1, 2, none⟩ (.int .i64 0)).drew = WF := ⟨_, rfl⟩
    rw [hWF] at hKD hRF hFF ⊢
    have hRE : Has (WF.putObj D (.deferred none)) (w.heap.size + 1) [.int .i64 0, .int .i64 0, .int .i64 0] 108 := (World.putObj_heap_other (show w.heap.size + 1 ≠ D by omega)).trans hRF
    obtain ⟨z0, z1, z2, zf⟩ := hRE.three
    refine ⟨by simp, .inl ⟨_, _, rfl, run_takeDeferred hKD, ?_⟩⟩
    refine ⟨.tuple #[.agg #[.int .i64 0, .int .i64 0, .int .i64 0], .int .i64 h, .bool false, .int .i64 0], ?_, ?_, hFF.putObj D _ (by omega) HG.out.size⟩
    · simp [results, Tryz.f83, go_sem, z0, z1, z2]
    · rw [HN.out]; rfl
  case stop =>
    rintro D cc pre W hD hSp ⟨pre', x, rfl, rfl, ⟨i0, i1, i2⟩, i3, i4, i5, i6⟩ hK
    have hpre := lvTo_pre h _ hSp
    rw [List.length_append] at hpre
    have hpl : pre'.length ≤ h := by
      have := hSp.length_le
      rw [List.length_append, lvTo_length] at this
      simp at this
      exact this
    rw [show pre'.length + [x].length = pre'.length + 1 from rfl, lvTo_last h _ hpl] at hpre
    obtain ⟨e1, e2⟩ := List.append_inj' hpre rfl
    have e3 : x = ⟨pre'.length, hpl⟩ := by injection e2
    have HN := hid (show lvl xs seg h = some x.1 from findF_some xs seg h x.1 i6 (h + 1) 0 (by omega) (by have := x.2; omega) (fun j h1 h2 => i5 ⟨j, by have := x.2; omega⟩ (by
      rw [e1]
      exact lvTo_mem h _ (by omega) _ (by rw [e3] at h2; exact h2))))
    have HWv := hid (show winV seg (some x.1) = .agg #[.int .i64 (x.1 : Nat), .int .i64 (winF seg x.1 : Nat), .int .i64 (2 ^ x.1 : Nat)] from rfl)
    clear hpre e1 e2 e3 i5 i6
    obtain ⟨a, ha⟩ : ∃ a : Int, ((x.1 : Nat) : Int) = a := ⟨_, rfl⟩
    obtain ⟨b, hb⟩ : ∃ b : Int, ((winF seg x.1 : Nat) : Int) = b := ⟨_, rfl⟩
    obtain ⟨c', hc⟩ : ∃ c : Int, ((2 ^ x.1 : Nat) : Int) = c := ⟨_, rfl⟩
    rw [ha, hb, hc] at i1 HWv
    clear ha hb hc
    obtain ⟨c10, c11, c12, f1⟩ := i1.three
    obtain ⟨c20, f2⟩ := i2.one
    obtain ⟨c00, f0⟩ := i0.one
    obtain ⟨r0, r1, r2, rf⟩ := (R1.out.fr' i3 id).three
    have HR := hid (show Has W (w.heap.size + 1) [.int .i64 0, .int .i64 0, .int .i64 0] 108 from R1.out.fr' i3 id)
    have n1 : w.heap.size + 1 ≠ Q := by omega
    have n2 : w.heap.size ≠ Q := by omega
    have n3 : w.heap.size ≠ Q + 1 := by omega
    gi_wp2_with fail
    refine wpIn_wide.2 ?_
    go_region_held3 (fun w' => (w'.cell? ⟨Q, 0, none⟩ = some (.int .i64 h) ∧ w'.cell? ⟨Q + 1, 0, none⟩ = some (.int .i64 a) ∧ w'.cell? ⟨Q + 1, 1, none⟩ = some (.int .i64 b) ∧ w'.cell? ⟨Q + 1, 2, none⟩ = some (.int .i64 c')) ∧ w'.cell? ⟨Q + 1 + 1, 0, none⟩ = some (.bool true)) (go_keep) (fail)
    gi_wp2
    rw [Exit.noGoto_ret]
    have hKD : (((W.setCell ⟨w.heap.size + 1, 0, none⟩ (.int .i64 a)).setCell ⟨w.heap.size + 1, 1, none⟩ (.int .i64 b)).setCell ⟨w.heap.size + 1, 2, none⟩ (.int .i64 c')).drew.heap[D]? = some (.deferred (some [])) :=
      ((((KeepsOthers.setCell W ⟨w.heap.size + 1, 0, none⟩ _).trans (KeepsOthers.setCell _ ⟨w.heap.size + 1, 1, none⟩ _)).trans (KeepsOthers.setCell _ ⟨w.heap.size + 1, 2, none⟩ _)).trans (KeepsOthers.drew _)).same D _ hK rfl
    have hRF : Has (((W.setCell ⟨w.heap.size + 1, 0, none⟩ (.int .i64 a)).setCell ⟨w.heap.size + 1, 1, none⟩ (.int .i64 b)).setCell ⟨w.heap.size + 1, 2, none⟩ (.int .i64 c')).drew (w.heap.size + 1) [.int .i64 a, .int .i64 b, .int .i64 c'] 108 := ((HR.out.set 0 (.int .i64 a)).set 1 (.int .i64 b)).set 2 (.int .i64 c')
    have hFF : Fr Nil1 w (((W.setCell ⟨w.heap.size + 1, 0, none⟩ (.int .i64 a)).setCell ⟨w.heap.size + 1, 1, none⟩ (.int .i64 b)).setCell ⟨w.heap.size + 1, 2, none⟩ (.int .i64 c')).drew :=
      ((((F1.out.trans i3).setNew ⟨w.heap.size + 1, 0, none⟩ (.int .i64 a) HG.out.size (by show _ ≤ w.heap.size + 1; omega)).setNew ⟨w.heap.size + 1, 1, none⟩ (.int .i64 b) HG.out.size (by show _ ≤ w.heap.size + 1; omega)).setNew ⟨w.heap.size + 1, 2, none⟩ (.int .i64 c') HG.out.size (by show _ ≤ w.heap.size + 1; omega)).drew
    obtain ⟨WF, hWF⟩ : ∃ WF, (((W.setCell ⟨w.heap.size + 1, 0, none⟩ (.int .i64 a)).setCell ⟨w.heap.size + 1, 1, none⟩ (.int .i64 b)).setCell ⟨w.heap.size + 1, 2, none⟩ (.int .i64 c')).drew = WF := ⟨_, rfl⟩
    rw [hWF] at hKD hRF hFF ⊢
    have hRE : Has (WF.putObj D (.deferred none)) (w.heap.size + 1) [.int .i64 a, .int .i64 b, .int .i64 c'] 108 := (World.putObj_heap_other (show w.heap.size + 1 ≠ D by omega)).trans hRF
    obtain ⟨z0, z1, z2, zf⟩ := hRE.three
    refine ⟨by simp, .inl ⟨_, _, rfl, run_takeDeferred hKD, ?_⟩⟩
    refine ⟨.tuple #[.agg #[.int .i64 a, .int .i64 b, .int .i64 c'], .int .i64 h, .bool true, .int .i64 0], ?_, ?_, hFF.putObj D _ (by omega) HG.out.size⟩
    · simp [results, Tryz.f83, go_sem, z0, z1, z2]
    · rw [HN.out, HWv.out]; rfl
end Go.Proofs.YtechphliifginaaGreatDoor

/- pick.Pick. -/
set_option linter.unusedVariables false
set_option linter.unusedSimpArgs false
namespace Go.Proofs.YtechphliifginaaGreatDoor
open Go.RowKit

/-- A step: its kind, its first segment, its segments, its capacity. -/
structure St where
  k : Int
  f : Int
  s : Int
  c : Int
deriving DecidableEq
def stV (s : St) : Value := .agg #[.int .i64 s.k, .int .i64 s.f, .int .i64 s.s, .int .i64 s.c]
def st0 : St := ⟨0, 0, 0, 0⟩
/-- What a change does: its step, and the error. -/
def pickS (xs : List Int) (seg h : Nat) : St × Int :=
  match lvl xs seg h with
  | some k => (⟨1, (winF seg k : Nat), (2 ^ k : Nat), 8 * xs.length⟩, 0)
  | none => if withinF (sumI xs) h h < 0 then (⟨3, 0, (xs.length / 2 : Nat), 4 * xs.length⟩, 0) else if xs.length = 512 then (st0, 16) else (⟨2, 0, 2 * xs.length, 16 * xs.length⟩, 0)

theorem withinF_cases (n : Int) (k h : Nat) : withinF n k h = 1 ∨ withinF n k h = 0 ∨ withinF n k h = -1 := by
  unfold withinF
  split
  · exact .inl rfl
  · split
    · exact .inr (.inr rfl)
    · exact .inr (.inl rfl)
/-- A struct of four numbers is written. -/
theorem Has.set4 {w : World} {b : Nat} {a0 a1 a2 a3 : Value} {T : TypeId} (h : Has w b [a0, a1, a2, a3] T) (x0 x1 x2 x3 : Value) :
    Has ((((w.setCell ⟨b, 0, none⟩ x0).setCell ⟨b, 1, none⟩ x1).setCell ⟨b, 2, none⟩ x2).setCell ⟨b, 3, none⟩ x3) b [x0, x1, x2, x3] T := (((h.set 0 x0).set 1 x1).set 2 x2).set 3 x3
theorem Fr.new4 {a w : World} {b : Nat} (h : Fr Nil1 a w) (hg : NG ≤ a.heap.size) (hb : a.heap.size ≤ b) (x0 x1 x2 x3 : Value) :
    Fr Nil1 a ((((w.setCell ⟨b, 0, none⟩ x0).setCell ⟨b, 1, none⟩ x1).setCell ⟨b, 2, none⟩ x2).setCell ⟨b, 3, none⟩ x3) := (((h.setNew ⟨b, 0, none⟩ x0 hg hb).setNew ⟨b, 1, none⟩ x1 hg hb).setNew ⟨b, 2, none⟩ x2 hg hb).setNew ⟨b, 3, none⟩ x3 hg hb
theorem Has.four {w : World} {b : Nat} {a0 a1 a2 a3 : Value} {T : TypeId} (h : Has w b [a0, a1, a2, a3] T) : w.cell? ⟨b, 0, none⟩ = some a0 ∧ w.cell? ⟨b, 1, none⟩ = some a1 ∧ w.cell? ⟨b, 2, none⟩ = some a2 ∧ w.cell? ⟨b, 3, none⟩ = some a3 ∧ ∀ i, w.frozen? ⟨b, i, none⟩ = false := ⟨h.cell 0, h.cell 1, h.cell 2, h.cell 3, h.frozen⟩

set_option maxRecDepth 100000 in
set_option maxHeartbeats 1000000 in
theorem pickPick_ok (xs : List Int) (h seg : Nat) (ad : Addr) (c : Nat) (w : World) (hx : RdC w ad c xs) (H : CntOK xs h) (hs : seg < xs.length) (hg : GW w) :
    Calls Tryz.prog 28 #[.slice (some ad) xs.length c, .int .i64 seg] w fun e w' => e = .returned (.tuple #[stV (pickS xs seg h).1, .int .i64 (pickS xs seg h).2]) ∧ Fr Nil1 w w' := by
  obtain ⟨l1, l2⟩ := H.len'
  have F0 := hid (show Fr Nil1 w (w.alloc (.cells #[.int .i64 0, .int .i64 0, .int .i64 0, .int .i64 0] 35)) from (Fr.refl _ _).alloc _)
  have hR0 : Has (w.alloc (.cells #[.int .i64 0, .int .i64 0, .int .i64 0, .int .i64 0] 35)) w.heap.size [.int .i64 0, .int .i64 0, .int .i64 0, .int .i64 0] 35 := Has.new w _ _
  have HR0 := hid hR0
  have HF := hid (pickFind_ok xs h seg ad c _ (hx.new F0.out) H hs (hg.fr F0.out))
  have hsum := wsum_bound xs H.all 0 xs.length
  rw [show wsum xs 0 xs.length = sumI xs by unfold wsum; rw [List.drop_zero, List.take_length]] at hsum
  obtain ⟨hs1, hs2⟩ := hsum
  have HS := hid (fun w' (hf : Fr Nil1 w w') => pickSum_any xs ad c w' (hx.new hf) (by omega) H.all)
  have HW := hid (fun w' => levelWithin_any (sumI xs) h h (Nat.le_refl _) H.h9 H.h2 hs1 (by omega) w')
  have HG := hid hg.size
  have hwc := withinF_cases (sumI xs) h h
  cases hl : lvl xs seg h with
  | some k =>
    have HP := hid (show pickS xs seg h = (⟨1, (winF seg k : Nat), (2 ^ k : Nat), 8 * xs.length⟩, 0) by unfold pickS; rw [hl])
    rw [hl] at HF
    obtain ⟨a, ha⟩ : ∃ a : Int, ((winF seg k : Nat) : Int) = a := ⟨_, rfl⟩
    obtain ⟨b, hb⟩ : ∃ b : Int, ((2 ^ k : Nat) : Int) = b := ⟨_, rfl⟩
    have hwv : winV seg (some k) = .agg #[.int .i64 (k : Nat), .int .i64 a, .int .i64 b] := by rw [← ha, ← hb]; rfl
    rw [hwv] at HF
    rw [ha, hb] at HP
    clear hx H hg hl hwv ha hb hwc hs1 hs2
    go_enter Tryz.func28, Tryz.ntmps28
    go_wp2_with (first
      | (go_at_call 83; refine HF.out.mono ?_; rintro e w1 ⟨rfl, hF1⟩; have F1 := hid (F0.out.trans hF1); have HR1 := hid (HR0.out.fr' hF1 id); have r1 := HR1.out.cell 0; have r2 := HR1.out.cell 1; have r3 := HR1.out.cell 2; have r4 := HR1.out.cell 3; have rf := HR1.out.frozen; have hlt := HR1.out.lt; clear hF1))
    have hRF := (HR1.out.set4 (.int .i64 1) (.int .i64 a) (.int .i64 b) (.int .i64 (8 * (xs.length : Int)))).alloc (.cells #[.int .i64 (k : Int), .int .i64 a, .int .i64 b] 108)
    have hFF := (F1.out.new4 HG.out (Nat.le_refl _) (.int .i64 1) (.int .i64 a) (.int .i64 b) (.int .i64 (8 * (xs.length : Int)))).alloc (.cells #[.int .i64 (k : Int), .int .i64 a, .int .i64 b] 108)
    obtain ⟨WF, hWF⟩ : ∃ WF, (((((w1.setCell ⟨w.heap.size, 0, none⟩ (.int .i64 1)).setCell ⟨w.heap.size, 1, none⟩ (.int .i64 a)).setCell ⟨w.heap.size, 2, none⟩ (.int .i64 b)).setCell ⟨w.heap.size, 3, none⟩ (.int .i64 (8 * (xs.length : Int)))).alloc (.cells #[.int .i64 (k : Int), .int .i64 a, .int .i64 b] 108)) = WF := ⟨_, rfl⟩
    rw [hWF] at hRF hFF ⊢
    obtain ⟨z0, z1, z2, z3, zf⟩ := hRF.four
    refine bodyPost_ret (v := .tuple #[.agg #[.int .i64 1, .int .i64 a, .int .i64 b, .int .i64 (8 * (xs.length : Int))], .int .i64 0]) (by simp [results, Tryz.f28, go_sem, z0, z1, z2, z3]) rfl ?_
    rw [HP.out]
    exact ⟨rfl, hFF⟩
  | none =>
    rw [hl] at HF
    have hwv : winV seg none = .agg #[.int .i64 0, .int .i64 0, .int .i64 0] := rfl
    rw [hwv] at HF
    have HP0 := hid (show pickS xs seg h = if withinF (sumI xs) h h < 0 then (⟨3, 0, (xs.length / 2 : Nat), 4 * xs.length⟩, 0) else if xs.length = 512 then (st0, 16) else (⟨2, 0, 2 * xs.length, 16 * xs.length⟩, 0) by unfold pickS; rw [hl])
    clear hx H hg hl hwv
    generalize withinF (sumI xs) h h = wv at *
    generalize sumI xs = sm at *
    by_cases c1 : wv < 0
    · have HP := hid (HP0.out.trans (if_pos c1))
      have e1 : ((xs.length / 2 : Nat) : Int) = (xs.length : Int) / 2 := by omega
      have e2 : 4 * (xs.length : Int) = 8 * (xs.length : Int) / 2 := by omega
      rw [e1, e2] at HP
      clear HP0 hwc e1 e2
      go_enter Tryz.func28, Tryz.ntmps28
      go_wp2_with (first
        | (go_at_call 83; refine HF.out.mono ?_; rintro e w1 ⟨rfl, hF1⟩; have F1 := hid (F0.out.trans hF1); have HR1 := hid (HR0.out.fr' hF1 id); have r1 := HR1.out.cell 0; have r2 := HR1.out.cell 1; have r3 := HR1.out.cell 2; have r4 := HR1.out.cell 3; have rf := HR1.out.frozen; have hlt := HR1.out.lt; clear hF1)
        | (go_at_call 85; refine (HS.out _ (F1.out.alloc _)).mono ?_; rintro e w2 ⟨rfl, rfl⟩)
        | (go_at_call 84; refine (HW.out _).mono ?_; rintro e w3 ⟨rfl, rfl⟩))
      have hRF := (HR1.out.set4 (.int .i64 3) (.int .i64 0) (.int .i64 ((xs.length : Int) / 2)) (.int .i64 (8 * (xs.length : Int) / 2))).alloc (.cells #[.int .i64 0, .int .i64 0, .int .i64 0] 108)
      have hFF := (F1.out.new4 HG.out (Nat.le_refl _) (.int .i64 3) (.int .i64 0) (.int .i64 ((xs.length : Int) / 2)) (.int .i64 (8 * (xs.length : Int) / 2))).alloc (.cells #[.int .i64 0, .int .i64 0, .int .i64 0] 108)
      obtain ⟨WF, hWF⟩ : ∃ WF, (((((w1.setCell ⟨w.heap.size, 0, none⟩ (.int .i64 3)).setCell ⟨w.heap.size, 1, none⟩ (.int .i64 0)).setCell ⟨w.heap.size, 2, none⟩ (.int .i64 ((xs.length : Int) / 2))).setCell ⟨w.heap.size, 3, none⟩ (.int .i64 (8 * (xs.length : Int) / 2))).alloc (.cells #[.int .i64 0, .int .i64 0, .int .i64 0] 108)) = WF := ⟨_, rfl⟩
      rw [hWF] at hRF hFF ⊢
      obtain ⟨z0, z1, z2, z3, zf⟩ := hRF.four
      refine bodyPost_ret (v := .tuple #[.agg #[.int .i64 3, .int .i64 0, .int .i64 ((xs.length : Int) / 2), .int .i64 (8 * (xs.length : Int) / 2)], .int .i64 0]) (by simp [results, Tryz.f28, go_sem, z0, z1, z2, z3]) rfl ?_
      rw [HP.out]
      exact ⟨rfl, hFF⟩
    · have hb0 : 0 ≤ wv := by omega
      by_cases c2 : xs.length = 512
      · have HP := hid (HP0.out.trans ((if_neg c1).trans (if_pos c2)))
        have hb : (8 * (xs.length : Int) == 4096) = true := by rw [beq_iff_eq]; omega
        clear HP0 hwc c2
        go_enter Tryz.func28, Tryz.ntmps28
        go_wp2_with (first
          | (go_at_call 83; refine HF.out.mono ?_; rintro e w1 ⟨rfl, hF1⟩; have F1 := hid (F0.out.trans hF1); have HR1 := hid (HR0.out.fr' hF1 id); have r1 := HR1.out.cell 0; have r2 := HR1.out.cell 1; have r3 := HR1.out.cell 2; have r4 := HR1.out.cell 3; have rf := HR1.out.frozen; have hlt := HR1.out.lt; clear hF1)
          | (go_at_call 85; refine (HS.out _ (F1.out.alloc _)).mono ?_; rintro e w2 ⟨rfl, rfl⟩)
          | (go_at_call 84; refine (HW.out _).mono ?_; rintro e w3 ⟨rfl, rfl⟩))
        have hRF := (HR1.out.set4 (.int .i64 0) (.int .i64 0) (.int .i64 0) (.int .i64 0)).alloc (.cells #[.int .i64 0, .int .i64 0, .int .i64 0] 108)
        have hFF := (F1.out.new4 HG.out (Nat.le_refl _) (.int .i64 0) (.int .i64 0) (.int .i64 0) (.int .i64 0)).alloc (.cells #[.int .i64 0, .int .i64 0, .int .i64 0] 108)
        obtain ⟨WF, hWF⟩ : ∃ WF, (((((w1.setCell ⟨w.heap.size, 0, none⟩ (.int .i64 0)).setCell ⟨w.heap.size, 1, none⟩ (.int .i64 0)).setCell ⟨w.heap.size, 2, none⟩ (.int .i64 0)).setCell ⟨w.heap.size, 3, none⟩ (.int .i64 0)).alloc (.cells #[.int .i64 0, .int .i64 0, .int .i64 0] 108)) = WF := ⟨_, rfl⟩
        rw [hWF] at hRF hFF ⊢
        obtain ⟨z0, z1, z2, z3, zf⟩ := hRF.four
        refine bodyPost_ret (v := .tuple #[.agg #[.int .i64 0, .int .i64 0, .int .i64 0, .int .i64 0], .int .i64 16]) (by simp [results, Tryz.f28, go_sem, z0, z1, z2, z3]) rfl ?_
        rw [HP.out]
        exact ⟨rfl, hFF⟩
      · have HP := hid (HP0.out.trans ((if_neg c1).trans (if_neg c2)))
        have hb : (8 * (xs.length : Int) == 4096) = false := by rw [beq_eq_false_iff_ne]; omega
        have e2 : 16 * (xs.length : Int) = 2 * (8 * (xs.length : Int)) := by omega
        rw [e2] at HP
        clear HP0 hwc c2 e2
        go_enter Tryz.func28, Tryz.ntmps28
        go_wp2_with (first
          | (go_at_call 83; refine HF.out.mono ?_; rintro e w1 ⟨rfl, hF1⟩; have F1 := hid (F0.out.trans hF1); have HR1 := hid (HR0.out.fr' hF1 id); have r1 := HR1.out.cell 0; have r2 := HR1.out.cell 1; have r3 := HR1.out.cell 2; have r4 := HR1.out.cell 3; have rf := HR1.out.frozen; have hlt := HR1.out.lt; clear hF1)
          | (go_at_call 85; refine (HS.out _ (F1.out.alloc _)).mono ?_; rintro e w2 ⟨rfl, rfl⟩)
          | (go_at_call 84; refine (HW.out _).mono ?_; rintro e w3 ⟨rfl, rfl⟩))
        have hRF := (HR1.out.set4 (.int .i64 2) (.int .i64 0) (.int .i64 (2 * (xs.length : Int))) (.int .i64 (2 * (8 * (xs.length : Int))))).alloc (.cells #[.int .i64 0, .int .i64 0, .int .i64 0] 108)
        have hFF := (F1.out.new4 HG.out (Nat.le_refl _) (.int .i64 2) (.int .i64 0) (.int .i64 (2 * (xs.length : Int))) (.int .i64 (2 * (8 * (xs.length : Int))))).alloc (.cells #[.int .i64 0, .int .i64 0, .int .i64 0] 108)
        obtain ⟨WF, hWF⟩ : ∃ WF, (((((w1.setCell ⟨w.heap.size, 0, none⟩ (.int .i64 2)).setCell ⟨w.heap.size, 1, none⟩ (.int .i64 0)).setCell ⟨w.heap.size, 2, none⟩ (.int .i64 (2 * (xs.length : Int)))).setCell ⟨w.heap.size, 3, none⟩ (.int .i64 (2 * (8 * (xs.length : Int))))).alloc (.cells #[.int .i64 0, .int .i64 0, .int .i64 0] 108)) = WF := ⟨_, rfl⟩
        rw [hWF] at hRF hFF ⊢
        obtain ⟨z0, z1, z2, z3, zf⟩ := hRF.four
        refine bodyPost_ret (v := .tuple #[.agg #[.int .i64 2, .int .i64 0, .int .i64 (2 * (xs.length : Int)), .int .i64 (2 * (8 * (xs.length : Int)))], .int .i64 0]) (by simp [results, Tryz.f28, go_sem, z0, z1, z2, z3]) rfl ?_
        rw [HP.out]
        exact ⟨rfl, hFF⟩
end Go.Proofs.YtechphliifginaaGreatDoor
