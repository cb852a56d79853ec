/- In one: AP, EA, EB, EC, ED. -/
import Derived.Test.YtechphliifginaaGreatDoorGS
import Derived.Test.YtechphliifginaaGreatDoorGN
import Derived.Test.YtechphliifginaaGreatDoorGP
import Derived.Test.YtechphliifginaaGreatDoorGV
import Derived.Laws.AppendOwnNone
/- Appends of slices of int (from YJ, YK, free of law 09's own). -/
set_option linter.unusedVariables false
set_option linter.unusedSimpArgs false
namespace Go.Proofs.YtechphliifginaaGreatDoor
open Go.RowKit

set_option maxRecDepth 100000 in
/-- 'append(v, u...)', v a row of the call's own, u any slice of numbers. -/
theorem append_rd {ops : Array Oper} {rest : List Oper} {o : Oper} {a : Act} {Q : Exit → Act → World → Prop} {w : World} (hgd : o.guard = none) (s x : Operand)
    (ho : o.op = .call { callee := .builtin .append, args := #[s, x], argTypes := #[30, 30] }) {base : Nat} {v u : Value} {xs ys : List Int} (hs : a.eval s = v) (hv : RowI w base v xs) (hx : a.eval x = u) (hu : Rd w u (ints' ys))
    (hn : xs.length + ys.length ≤ 100000) (hb : base ≤ w.heap.size)
    (h : ∀ v' w', RowI w' base v' (xs ++ ys) → w.grownBy w' v.ownBlock → (v' = .slice none 0 0 ↔ v = .slice none 0 0 ∧ ys.length = 0) → wpList Tryz.prog ops Q rest (a.put o.dst v') w') : wpList Tryz.prog ops Q (o :: rest) a w := by
  obtain ⟨i0, hi, hz0, hz1, hz2⟩ := info_parts info_int
  obtain ⟨A, c, rfl, _, hA⟩ := hu
  rw [ints'_length] at hA hx
  cases A with
  | some ad =>
    have hc : ∀ j u, (ints' ys)[j]? = some u → w.cell? (ad.add j) = some u := fun j u hj => by
      have hl : 0 < ys.length := by
        have := (List.getElem?_eq_some_iff.1 hj).1
        rw [ints'_length] at this
        omega
      obtain ⟨ad', e, hc⟩ := hA hl
      injection e with e
      subst e
      exact hc j u hj
    refine wpList_append_own w hgd s x 30 ho base 3 i0 (.int .i64 0) 1 8 Tryz.underlying30 hi hz0 hz1 hz2 rfl (by decide) v xs.length (xs.map (Value.int .i64)) hs hv ad ys.length c (ints' ys) hx (by rw [ints'_length]; omega) hc (by intro u hu; obtain ⟨n, _, rfl⟩ := List.mem_map.1 hu; rfl) (by unfold maxLen; omega) (by omega) hb ?_
    intro v' w' hown hg hnil
    refine h v' w' ?_ hg hnil
    unfold RowI
    rw [List.length_append, List.map_append]
    exact hown
  | none =>
    have hl : ys.length = 0 := by
      rcases Nat.eq_zero_or_pos ys.length with e | e
      · exact e
      · obtain ⟨ad', e', _⟩ := hA e
        cases e'
    obtain rfl : ys = [] := List.eq_nil_of_length_eq_zero hl
    have hrun : (Builtin.append_ #[30, 30] o.type #[v, .slice none 0 c]).run Tryz.prog w = .ok v w := by
      rcases hv.2 with ⟨rfl, _⟩ | ⟨g, cap, cur, rfl, _, _, hnc, _⟩
      · simp [Builtin.append_, run_underlying Tryz.underlying30, sizeOf, typeInfo, hi, Builtin.lenOf, Builtin.firstCells]
      · simp [Builtin.append_, run_underlying Tryz.underlying30, sizeOf, typeInfo, hi, Builtin.lenOf, Builtin.firstCells, hnc, storeCells]
    refine wpList_plain hgd fun K hK => ?_
    have hh := h v w (by rw [List.append_nil]; exact hv) (World.grownBy.refl w _) (by simp)
    unfold Oper.wp
    simp only [List.length_nil] at hx
    simp [execOp, ho, resolve, invoke, builtin, hs, hx, hrun, Result.andThen]
    exact hK _ _ hh
theorem rd_take {w : World} {A : Option Addr} {n c : Nat} {xs : List Int} (h : Rd w (.slice A n c) (ints' xs)) (k : Nat) (hk : k ≤ xs.length) : Rd w (.slice A k c) (ints' (xs.take k)) := by
  obtain ⟨A', c', e, hb, hA⟩ := h
  injection e with e1 e2 e3
  subst e1 e3
  refine ⟨A, c, by rw [ints'_length, List.length_take, Nat.min_eq_left hk], by rw [ints'_length, List.length_take] at *; omega, fun hp => ?_⟩
  rw [ints'_length, List.length_take] at hp
  obtain ⟨ad, rfl, hc⟩ := hA (by rw [ints'_length]; omega)
  refine ⟨ad, rfl, fun j u hj => hc j u ?_⟩
  unfold ints' at hj ⊢
  rw [List.map_take] at hj
  obtain ⟨h1, h2⟩ := List.getElem?_eq_some_iff.1 hj
  rw [List.getElem_take] at h2
  rw [List.length_take] at h1
  exact List.getElem?_eq_some_iff.2 ⟨by omega, h2⟩
theorem rd_drop {w : World} {g n c : Nat} {xs : List Int} (h : Rd w (.slice (some ⟨g, 0, none⟩) n c) (ints' xs)) (k : Nat) (hk : k ≤ xs.length) (hn : n = xs.length) (B : Option Addr) (hB : k < xs.length → B = some ⟨g, k, none⟩) (c' : Nat) : Rd w (.slice B (n - k) c') (ints' (xs.drop k)) := by
  obtain ⟨A', c0, e, hb, hA⟩ := h
  injection e with e1 e2 e3
  subst e1 e3
  subst hn
  refine ⟨B, c', by rw [ints'_length, List.length_drop], by rw [ints'_length, List.length_drop]; rw [ints'_length] at hb; omega, fun hp => ?_⟩
  rw [ints'_length, List.length_drop] at hp
  obtain ⟨ad, e, hc⟩ := hA (by rw [ints'_length]; omega)
  injection e with e
  subst e
  refine ⟨_, hB (by omega), fun j u hj => ?_⟩
  rw [add_flat]
  have := hc (k + j) u (by
    unfold ints' at hj ⊢
    rw [List.map_drop, List.getElem?_drop] at hj
    exact hj)
  rwa [add_flat, Nat.zero_add] at this
theorem RowI.shape {w : World} {base : Nat} {v : Value} {xs : List Int} (h : RowI w base v xs) (hne : 0 < xs.length) : ∃ g cap, v = .slice (some ⟨g, 0, none⟩) xs.length cap ∧ xs.length ≤ cap ∧ ∀ j, j < xs.length → w.cell? ⟨g, j, none⟩ = some (.int .i64 (xs.getD j 0)) := by
  rcases h.2 with ⟨_, e⟩ | ⟨g, cap, cur, e, _, hg, hc, _, hs, ht⟩
  · omega
  · refine ⟨g, cap, e, hc, fun j hj => ?_⟩
    subst e
    have h1 := h.cells (g := g) rfl
    have h2 := h1 j _ (ints'_get xs j hj)
    rwa [add_flat, Nat.zero_add] at h2
theorem own_lt {w : World} {base : Nat} {v : Value} {xs : List Int} (h : RowI w base v xs) : ∀ g, v.ownBlock = some g → base ≤ g ∧ g < w.heap.size := fun g hg => by
  have := h.own_lt g hg
  exact ⟨this.2, this.1⟩
/-- A slice that is built by appends, from nil. -/
structure ApI (W : World) (xs : List Int) (v : Value) (w : World) : Prop where
  row : RowI w W.heap.size v xs
  fr : Fr Nil1 W w
  nil : xs = [] → v = .slice none 0 0
theorem ApI.start (W : World) : ApI W [] (.slice none 0 0) W := ⟨RowI.nil _ _, Fr.refl _ _, fun _ => rfl⟩
theorem ApI.new {W w w' : World} {xs : List Int} {v : Value} (H : ApI W xs v w) (hf : Fr Nil1 w w') : ApI W xs v w' := ⟨H.row.new hf, H.fr.trans hf, H.nil⟩
theorem ApI.step {W w w' : World} {xs ys : List Int} {v v' : Value} (H : ApI W xs v w) (hG : NG ≤ W.heap.size) (hr : RowI w' W.heap.size v' (xs ++ ys)) (hg : w.grownBy w' v.ownBlock) (hn : v' = .slice none 0 0 ↔ v = .slice none 0 0 ∧ ys.length = 0) : ApI W (xs ++ ys) v' w' := by
  refine ⟨hr, H.fr.grown hg (fun k e => by have := (own_lt H.row k e).1; omega) (fun k e hk => by have := (own_lt H.row k e).1; omega), fun h => ?_⟩
  obtain ⟨h1, h2⟩ := List.append_eq_nil_iff.1 h
  exact hn.2 ⟨H.nil h1, by rw [h2]; rfl⟩
theorem rd_one (w : World) (x : Int) : Rd (w.alloc (.cells #[.int .i64 x] 3)) (.slice (some ⟨w.heap.size, 0, none⟩) 1 1) (ints' [x]) := by
  refine ⟨_, 1, rfl, by rw [ints'_length, List.length_singleton]; omega, fun _ => ⟨_, rfl, fun j u hj => ?_⟩⟩
  rw [add_flat, Nat.zero_add]
  exact ((Has.new w [.int .i64 x] 3).cell j).trans hj
theorem rd_zero {w : World} (A : Option Addr) (c : Nat) {xs : List Int} (h : xs = []) : Rd w (.slice A 0 c) (ints' xs) := by
  subst h
  exact ⟨A, c, rfl, by decide, fun h => by simp [ints'] at h⟩
end Go.Proofs.YtechphliifginaaGreatDoor

/- level.For: the least array in which so many elements may be. -/
set_option linter.unusedVariables false
set_option linter.unusedSimpArgs false
namespace Go.Proofs.YtechphliifginaaGreatDoor
open Go.RowKit

/-- Its height. -/
def forH (n : Nat) : Nat := if n ≤ 20 then 2 else if n ≤ 40 then 3 else if n ≤ 80 then 4 else if n ≤ 160 then 5 else if n ≤ 320 then 6 else if n ≤ 640 then 7 else if n ≤ 1280 then 8 else 9
theorem pow5 : ∀ h : Nat, 2 ≤ h → h ≤ 9 → (h = 2 ∧ 2 ^ h = 4) ∨ (h = 3 ∧ 2 ^ h = 8) ∨ (h = 4 ∧ 2 ^ h = 16) ∨ (h = 5 ∧ 2 ^ h = 32) ∨ (h = 6 ∧ 2 ^ h = 64) ∨ (h = 7 ∧ 2 ^ h = 128) ∨ (h = 8 ∧ 2 ^ h = 256) ∨ (h = 9 ∧ 2 ^ h = 512) := by
  intro h h2 h9
  have : h = 2 ∨ h = 3 ∨ h = 4 ∨ h = 5 ∨ h = 6 ∨ h = 7 ∨ h = 8 ∨ h = 9 := by omega
  rcases this with rfl | rfl | rfl | rfl | rfl | rfl | rfl | rfl <;> decide
theorem forH_lo (n : Nat) : 2 ≤ forH n := by unfold forH; split <;> (try split) <;> (try split) <;> (try split) <;> (try split) <;> (try split) <;> (try split) <;> omega
theorem forH_hi (n : Nat) : forH n ≤ 9 := by unfold forH; split <;> (try split) <;> (try split) <;> (try split) <;> (try split) <;> (try split) <;> (try split) <;> omega
/-- It is the first height whose root has room. -/
theorem forH_iff {n : Nat} (hn : n ≤ 2560) {h : Nat} (h2 : 2 ≤ h) (h9 : h ≤ 9) : n ≤ 5 * 2 ^ h ↔ forH n ≤ h := by
  unfold forH
  rcases pow5 h h2 h9 with ⟨a, b⟩ | ⟨a, b⟩ | ⟨a, b⟩ | ⟨a, b⟩ | ⟨a, b⟩ | ⟨a, b⟩ | ⟨a, b⟩ | ⟨a, b⟩ <;> rw [b] <;> split <;> (try split) <;> (try split) <;> (try split) <;> (try split) <;> (try split) <;> (try split) <;> omega
/-- What is laid in it may be. -/
theorem forH_dn {l : List Int} (hn : l.length ≤ 2560) {υ : List (Option Int)} (hL : LaidR l (2 ^ forH l.length) υ) : Dn υ (forH l.length) := by
  have e : its υ = l := hL.items
  have h1 := forH_lo l.length
  have h2 := forH_hi l.length
  have h3 := (forH_iff hn h1 h2).2 (Nat.le_refl _)
  refine laid_dn (τ := υ) h1 h2 (by rw [e]; exact hL) (by rw [e]; omega) (fun hlt => ?_)
  rw [e]
  have h4 := mt (forH_iff hn (h := forH l.length - 1) (by omega) (by omega)).1 (by omega)
  have h5 : 2 ^ forH l.length = 2 * 2 ^ (forH l.length - 1) := by
    conv => lhs; rw [show forH l.length = (forH l.length - 1) + 1 by omega, Nat.pow_succ]
    omega
  omega
theorem manyHH (h : Nat) : manyF h h = 5 * h * 2 ^ h := by
  unfold manyF
  have : (7 * (h : Int) - 2 * h) = 5 * h := by omega
  rw [this]
theorem for1_any (n : Nat) (hn : n ≤ 2560) (h : Nat) (h2 : 2 ≤ h) (h9 : h ≤ 9) (b : Nat) (w : World) (hb : w.cell? ⟨b, 0, none⟩ = some (.int .i64 n)) :
    Calls Tryz.prog 217 #[.int .i64 h, .pointer (some ⟨b, 0, none⟩)] w fun e w' => e = .returned (.bool (decide (forH n ≤ h))) ∧ Fr Nil1 w w' := by
  have HM := hid (fun w' => levelMany_any h h (Nat.le_refl _) h9 w')
  have e : decide ((h : Int) * n ≤ manyF h h) = decide (forH n ≤ h) := decide_eq_decide.2 (by
    rw [← forH_iff hn h2 h9, manyHH]
    rcases pow5 h h2 h9 with ⟨a, b⟩ | ⟨a, b⟩ | ⟨a, b⟩ | ⟨a, b⟩ | ⟨a, b⟩ | ⟨a, b⟩ | ⟨a, b⟩ | ⟨a, b⟩ <;> subst a <;> omega)
  have HE := hid e
  have hw : IntKind.i64.wrap ((h : Int) * n) = (h : Int) * n := IntWalk.i64_in _ (by
    have : (h : Int) * n ≤ 9 * 2560 := Int.mul_le_mul (by omega) (by omega) (by omega) (by omega)
    have : (0 : Int) ≤ (h : Int) * n := Int.mul_nonneg (by omega) (by omega)
    omega)
  clear e
  generalize manyF h h = m at *
  go_enter Tryz.func217, Tryz.ntmps217
  go_wp2_with fail
  go_quiet ((go_at_call 150; exact quiet_eq (HM.out _)))
  go_wp2_with fail
  go_ret
  exact ⟨by rw [← HE.out]; rfl, (Fr.refl _ _).drewN _⟩
set_option maxHeartbeats 1000000 in
theorem levelFor_ok (n : Nat) (hn : n ≤ 2560) (w : World) (hg : GW w) :
    Calls Tryz.prog 209 #[.int .i64 n] w fun e w' => e = .returned (.tuple #[.int .i64 (8 * 2 ^ forH n : Nat), .int .i64 0]) ∧ Fr Nil1 w w' := by
  have hb := Has.new w [.int .i64 n] 3
  have c0 := hb.cell 0
  have HB := hid hb
  have HF0 := hid (show Fr Nil1 w (w.alloc (.cells #[.int .i64 n] 3)) from (Fr.refl _ _).alloc _)
  have n0 : (0 : Int) ≤ n := by omega
  have n1 : (n : Int) ≤ 2560 := by omega
  obtain ⟨R, hR⟩ : ∃ R, w.heap.size = R := ⟨_, rfl⟩
  have HR := hid hR
  rw [hR] at c0
  clear hb hg
  have HC1 := hid (fun (k : Nat) (hk : k < 7) (wr : World) (hf : Fr Nil1 (w.alloc (.cells #[.int .i64 n] 3)) wr) => by
    have := for1_any n hn (2 + k) (by omega) (by omega) R wr (hf.cell c0 id)
    rwa [show ((2 + k : Nat) : Int) = 2 + (k : Int) by omega] at this)
  have hent : ∀ (args : Array Value) (W : World), Sem.run Tryz.prog (callFunc 217 args) W = .ok (.enter 217 args) W := enters_of Tryz.func217 (by kernel_rfl) rfl
  have hlo := forH_lo n
  have hhi := forH_hi n
  have HFN := hid (And.intro hlo hhi)
  clear hn hlo hhi
  go_enter Tryz.func209, Tryz.ntmps209
  go_wp2_with fail
  go_loopw [4, 5, 6, 13] (fun _ _ _ i wr => ∃ k : Nat, k ≤ 7 ∧ k + 2 ≤ forH n ∧ i = .int .i64 k ∧ Hid (Fr Nil1 (w.alloc (.cells #[.int .i64 n] 3)) wr)) (fun _ _ _ i _ => 7 - (intOf i).toNat)
  case atStart => exact ⟨0, by omega, by have := HFN.out; omega, rfl, hid (Fr.refl _ _)⟩
  case round =>
    obtain ⟨k, hk, hk2, rfl, HW⟩ := hrel
    by_cases hlt : k < 7
    · have hltI : (k : Int) < 7 := by omega
      have HC := hid (HC1.out k hlt wr HW.out)
      have HK2 := hid hk2
      clear hk2
      have hw : IntKind.i64.wrap (2 + (k : Int)) = 2 + (k : Int) := IntWalk.i64_in _ (by omega)
      by_cases he : forH n ≤ 2 + k
      · have hd : decide (forH n ≤ 2 + k) = true := decide_eq_true he
        have HE := hid he
        clear he
        have q0 : (8 * 2 ^ (2 + k) : Int) = ((8 * 2 ^ (2 + k) : Nat) : Int) := by rw [Int.natCast_mul, Int.natCast_pow]; rfl
        have q1 : wrap64 (8 * 2 ^ (2 + k)) = ((8 * 2 ^ (2 + k) : Nat) : Int) := by
          rw [q0]
          exact IntWalk.wrap64_in _ (by
            rcases pow5 (2 + k) (by omega) (by omega) with ⟨a, b⟩ | ⟨a, b⟩ | ⟨a, b⟩ | ⟨a, b⟩ | ⟨a, b⟩ | ⟨a, b⟩ | ⟨a, b⟩ | ⟨a, b⟩ <;> rw [b] <;> decide)
        clear q0
        have q2 : (0 : Int) ≤ 2 + (k : Int) := by omega
        have q3 : (2 + (k : Int)).toNat = 2 + k := by omega
        go_wp2_with (go_at_fn 217; refine HC.out.mono ?_; rintro e w1 ⟨rfl, H1⟩; have HF1 := hid H1; clear H1)
        go_ret2
        have e1 : forH n = 2 + k := by have := HE.out; have := HK2.out; omega
        exact ⟨by rw [e1, ← q1]; rfl, (HF0.out.trans HW.out).trans HF1.out⟩
      · have hd : decide (forH n ≤ 2 + k) = false := decide_eq_false he
        have HE := hid he
        clear he
        go_wp2_with (go_at_fn 217; refine HC.out.mono ?_; rintro e w1 ⟨rfl, H1⟩; have HF1 := hid H1; clear H1)
        exact ⟨⟨k + 1, by omega, by have := HE.out; omega, by go_num, hid (HW.out.trans HF1.out)⟩, by simp [intOf]; omega⟩
    · have HK2 := hid (And.intro hk2 hlt)
      clear hk2
      go_wp2_with fail
      go_ret2
      have e1 : forH n = 9 := by have := HK2.out; have := HFN.out; omega
      exact ⟨by rw [e1]; rfl, HF0.out.trans HW.out⟩
end Go.Proofs.YtechphliifginaaGreatDoor

/- size.Of: the least array of elements, evenly spread. -/
set_option linter.unusedVariables false
set_option linter.unusedSimpArgs false
namespace Go.Proofs.YtechphliifginaaGreatDoor
open Go.RowKit

/-- Behind some rounds. -/
structure OfW (w w2 : World) (f : SF) (v : Value) (N : Nat) (ps vs : List Int) (wr : World) : Prop where
  sl : ∃ τ, LayI N ps vs τ ∧ SlotsR wr f τ
  row : RowI wr w.heap.size v ps
  fr : Fr Nil1 w wr
set_option maxRecDepth 100000 in
set_option maxHeartbeats 4000000 in
theorem sizeOf_ok (l : List Int) (hn : l.length ≤ 2560) {u : Value} {w : World} (hu : Rd w u (ints' l)) (hg : GW w) :
    Calls Tryz.prog 191 #[u] w fun e w' => ∃ f : SF, e = .returned (.tuple #[.pointer (some ⟨f.s, 0, none⟩), .int .i64 0]) ∧ Hid ((∃ τ, LaidR l (2 ^ forH l.length) τ ∧ SlotsR w' f τ) ∧ Fr Nil1 w w' ∧ ∀ k, f.mem k → w.heap.size ≤ k) := by
  obtain ⟨A, c, rfl, hb, hA⟩ := hu
  rw [ints'_length] at hb hA ⊢
  have hlo := forH_lo l.length
  have hhi := forH_hi l.length
  have hfit := (forH_iff hn hlo hhi).2 (Nat.le_refl _)
  have hz0 : 0 < 2 ^ forH l.length := Nat.pow_pos (by omega)
  have hpll := plcL_length l.length 0 (2 ^ forH l.length) hz0
  have hpok := plcL_ok l.length 0 (2 ^ forH l.length) hz0 (by omega)
  rw [Nat.mul_zero] at hpok
  have HA := hid (fun (wr : World) (hf : Fr Nil1 w wr) (k : Nat) (hk : k < l.length) => show ∃ ad, A = some ad ∧ wr.cell? (ad.add k) = some (.int .i64 (l.getD k 0)) from by
    obtain ⟨ad, rfl, hc⟩ := hA (by omega)
    exact ⟨ad, rfl, hf.cell (hc k _ (ints'_get l k hk)) id⟩)
  have HFor := hid (levelFor_ok l.length hn w hg)
  have HEm := hid (fun w' (hf : Fr Nil1 w w') => (sizeEmpty_ok l.length (forH l.length) hlo hhi (by omega) w' (hg.fr hf)).mono (fun e w2 hh => show ∃ (f2 : SF) (g : Nat) (cc : Nat) (v : Value), e = .returned (.tuple #[.pointer (some ⟨f2.s, 0, none⟩), v, .int .i64 0]) ∧ (∃ A' cc, v = .slice A' l.length cc) ∧
      Hid (SlotsR w2 f2 (List.replicate (8 * 2 ^ forH l.length) none) ∧ RowI w2 w'.heap.size v (plcL l.length 0 (2 ^ forH l.length)) ∧ Fr Nil1 w' w2 ∧ (∀ k, f2.mem k → w'.heap.size ≤ k) ∧ ∀ k, f2.mem k → v.ownBlock ≠ some k) from by
    obtain ⟨f2, v, he, h1, h2, h3, h4, h5⟩ := hh
    obtain ⟨A', cc, hv, _, _⟩ := h2.rd (by rw [hpll]; omega)
    rw [ints'_length, hpll] at hv
    exact ⟨f2, 0, cc, v, he, ⟨A', cc, hv⟩, hid ⟨h1, h2, h3, h4, h5⟩⟩))
  have HDn := hid (fun τ => LayI.done (n := l.length) (segs := 2 ^ forH l.length) (vs := l) (τ := τ) hz0 rfl (by omega))
  have HPl := hid hpll
  have HPok := hid hpok
  clear hA hlo hhi hfit hz0 hpll hpok
  generalize 2 ^ forH l.length = Z at *
  generalize plcL l.length 0 Z = ps at *
  obtain ⟨y, hy⟩ : ∃ y : Int, ((8 * Z : Nat) : Int) = y := ⟨_, rfl⟩
  rw [hy] at HFor HEm
  clear hy
  have HG := hid hg.size
  clear hg
  go_enter Tryz.func191, Tryz.ntmps191
  go_wp2_with (first
    | (go_at_call 209; refine HFor.out.mono ?_; rintro e w1 ⟨rfl, H1⟩; have HF1 := hid H1; clear H1)
    | (go_at_call 177; refine (HEm.out _ HF1.out).mono ?_; rintro e w2 ⟨f, _, _, v, rfl, ⟨A', cc, rfl⟩, H2⟩))
  have h0 := hid (show OfW w w2 f (.slice A' l.length cc) (8 * Z) ps [] w2 from ⟨⟨_, LayI.start _ _, H2.out.1⟩, H2.out.2.1.mono HF1.out.size, HF1.out.trans H2.out.2.2.1⟩)
  go_loopw [8, 9, 10, 33] (fun _ _ _ i wr => ∃ k : Nat, k ≤ l.length ∧ i = .int .i64 k ∧ Hid (OfW w w2 f (.slice A' l.length cc) (8 * Z) ps (l.take k) wr)) (fun _ _ _ i _ => l.length - (intOf i).toNat)
  case atStart => exact ⟨0, by omega, rfl, h0⟩
  case round =>
    obtain ⟨k, hk, rfl, HW⟩ := hrel
    by_cases hlt : k < l.length
    · have hltI : (k : Int) < l.length := by omega
      have hk0 : (0 : Int) ≤ k := by omega
      obtain ⟨ad, rfl, hc⟩ := HA.out wr HW.out.fr k hlt
      have htl : (l.take k).length = k := by rw [List.length_take]; omega
      obtain ⟨τ, hLay, hSl⟩ := HW.out.sl
      have hpl : k < ps.length := by rw [HPl.out]; exact hlt
      obtain ⟨q, hq, hqN, hqf⟩ := hLay.free HPok.out (by rw [htl]; exact hpl)
      have hstep := hLay.step HPok.out (by rw [htl]; exact hpl) (l.getD k 0) hq
      rw [htl] at hq
      have htk : l.take k ++ [l.getD k 0] = l.take (k + 1) := by
        rw [List.take_succ_eq_append_getElem hlt, List.getD_eq_getElem?_getD, List.getElem?_eq_getElem hlt]; rfl
      rw [htk] at hstep
      have hτl : τ.length = 8 * Z := hLay.len
      have HPut := hid (show Calls Tryz.prog 80 #[.pointer (some ⟨f.s, 0, none⟩), .int .i64 (q : Int), .int .i64 (l.getD k 0)] wr fun e w'' => e = .returned (.int .i64 0) ∧ SlotsR w'' f (τ.set q (some (l.getD k 0))) ∧ Fr f.chg wr w'' from by
        have := gapsPut_ok hSl (q : Int) (l.getD k 0) (by omega) (by omega) (by rw [Int.toNat_natCast]; exact hqf)
        rwa [Int.toNat_natCast] at this)
      obtain ⟨A2, c2, e2, _, hcA⟩ := HW.out.row.rd (by rw [HPl.out]; omega)
      rw [ints'_length, HPl.out] at e2 hcA
      injection e2 with e3 e4 e5
      subst e3
      subst e5
      obtain ⟨ad2, rfl, hc2⟩ := hcA (by omega)
      have d1 := hc2 k _ (ints'_get ps k hpl)
      rw [hq] at d1
      have HStep := hid hstep
      clear hLay hSl hqf hstep htk hτl hcA hc2 hpl htl hq
      have HQ := hid (And.intro hqN HStep.out)
      clear hqN
      generalize hx : l.getD k 0 = x at *
      have HXX := hid hx
      clear hx
      go_wp2_with (go_at_call 80; refine HPut.out.mono ?_; rintro e w3 ⟨rfl, h31, h32⟩; have H3 := hid (And.intro h31 h32); clear h31 h32)
      refine ⟨⟨k + 1, by omega, by go_num, hid ⟨⟨_, HStep.out, H3.out.1⟩, HW.out.row.frO H3.out.2 (fun g hg hh => H2.out.2.2.2.2 g (SF.chg_mem hh) hg), HW.out.fr.trans' H3.out.2 (fun j _ hj hh => ?_)⟩⟩, by simp [intOf]; omega⟩
      have := H2.out.2.2.2.1 j (SF.chg_mem hh)
      have := HF1.out.size
      omega
    · have HK := hid (show k = l.length by omega)
      go_wp2_with fail
      go_ret2
      obtain ⟨τ, hLay, hSl⟩ := HW.out.sl
      rw [HK.out, List.take_of_length_le (Nat.le_refl _)] at hLay
      exact ⟨f, rfl, hid ⟨⟨τ, HDn.out τ hLay, hSl⟩, HW.out.fr, fun k hk => by have := H2.out.2.2.2.1 k hk; have := HF1.out.size; omega⟩⟩
end Go.Proofs.YtechphliifginaaGreatDoor

/- pma.Of (nobody is told), set.Of. -/
set_option linter.unusedVariables false
set_option linter.unusedSimpArgs false
namespace Go.Proofs.YtechphliifginaaGreatDoor
open Go.RowKit Go.Shelf
attribute [local go_sem] Oper.semAt_some

set_option maxRecDepth 100000 in
set_option maxHeartbeats 4000000 in
theorem pmaOfNil_ok (l : List Int) (hn : l.length ≤ 2560) {u : Value} {w : World} (hu : Rd w u (ints' l)) (hg : GW w) :
    Calls Tryz.prog 159 #[u, Value.nilFunc] w fun e w' => ∃ (F : PF) (τ : List (Option Int)), e = .returned (.tuple #[.pointer (some ⟨F.p, 0, none⟩), .int .i64 0]) ∧
      Hid (LaidR l (2 ^ forH l.length) τ ∧ PmaR w' F τ (forH l.length) Value.nilFunc ∧ Fr Nil1 w w' ∧ ∀ k, F.mem k → w.heap.size ≤ k) := by
  refine (callsIn_wide (n := 3)).1 ?_
  have hlo := forH_lo l.length
  have hhi := forH_hi l.length
  have HOf := hid (sizeOf_ok l hn hu hg)
  have hG := hg.size
  obtain ⟨A, c, rfl, hb, hA⟩ := hu
  rw [ints'_length] at HOf ⊢
  have HUs := hid (fun (w1 wz : World) (f : SF) (τ : List (Option Int)) (hL : LaidR l (2 ^ forH l.length) τ) (hS : SlotsR wz f τ) (hp : Has wz w1.heap.size [.pointer none, .pointer none, Value.nilFunc] 95) (gp : NG ≤ w1.heap.size) =>
    pmaUse_ok (h := forH l.length) hS hlo hhi (by rw [hL.len]) hp gp ⟨_, rfl⟩ ⟨_, rfl⟩)
  clear hA hb hg hn hlo hhi
  generalize hh : forH l.length = h at *
  (refine callsIn_of_wp_marks Tryz.func159 rfl trivial ?_ rfl; simp only [Tryz.ntmps159, List.size_toArray, List.length_cons, List.length_nil, Nat.reduceAdd, Nat.reduceSub, Array.replicate_succ, Array.replicate_zero, List.push_toArray, List.append_toArray, List.nil_append, List.cons_append])
  gi_wp2_with (first
    | ((first | refine ⟨trivial, wideNo, ?_⟩ | refine ⟨trivial, ?_⟩); gi_at_call 191; refine (callsIn_wide.2 HOf.out).mono ?_; rintro e w1 ⟨f, rfl, H1⟩; obtain ⟨τ, hL, hS⟩ := H1.out.1; have HL := hid hL; have HS := hid hS; have hs1 := H1.out.2.1.size; have hb0 := (Has.new w1 [.pointer none, .pointer none, Value.nilFunc] 95).alloc (.cells #[.pointer (some ⟨w1.heap.size, 0, none⟩)] 24); have HB0 := hid hb0; have hb1 := Has.new (w1.alloc (.cells #[.pointer none, .pointer none, Value.nilFunc] 95)) [.pointer (some ⟨w1.heap.size, 0, none⟩)] 24; have HB1 := hid hb1; clear hL hS hb0 hb1)
    | ((first | refine ⟨trivial, wideNo, ?_⟩ | refine ⟨trivial, ?_⟩); gi_at_call 70; refine (callsIn_wide.2 (HUs.out w1 _ f τ HL.out (HS.out.new (((Fr.refl Nil1 w1).alloc _).alloc _)) HB0.out (by omega))).mono ?_; rintro e w2 ⟨⟨v, rfl⟩, t, d, hp, ht, hd, hf⟩; have H2 := hid (And.intro hp (And.intro ht (And.intro hd hf))); clear hp ht hd hf)
    | ((first | refine ⟨trivial, wideNo, ?_⟩ | refine ⟨trivial, ?_⟩); gi_at_call 72; refine (callsIn_wide.2 (gapsAll_any f.s _)).mono ?_; rintro e w3 ⟨rfl, rfl⟩))
  obtain ⟨Q, hQ⟩ : ∃ Q, w1.heap.size = Q := ⟨_, rfl⟩
  obtain ⟨R, hR⟩ : ∃ R, w2.heap.size = R := ⟨_, rfl⟩
  have s2 := H2.out.2.2.2.size
  have HPm := hid (show PmaR w2 ⟨Q, f, t, d⟩ τ h Value.nilFunc from hQ ▸ H2.out.1)
  have hf2 : Fr (fun k => k = Q) w1 w2 := by
    have a : Fr (fun k => k = Q) w1 ((w1.alloc (.cells #[.pointer none, .pointer none, Value.nilFunc] 95)).alloc (.cells #[.pointer (some ⟨w1.heap.size, 0, none⟩)] 24)) := ((Fr.refl _ _).alloc _).alloc _
    exact a.trans (H2.out.2.2.2.mono (fun _ _ e => e.trans hQ))
  have hbx : Has w2 (Q + 1) [.pointer (some ⟨Q, 0, none⟩)] 24 := by
    have := HB1.out.fr' H2.out.2.2.2 (by simp)
    simp only [World.size_alloc] at this
    rw [hQ] at this
    exact this
  have s2' : Q + 2 ≤ R := by simp at s2; omega
  have ht2 : Q + 2 ≤ t := by have := H2.out.2.1; simp at this; omega
  have hd2 : Q + 2 ≤ d := by have := H2.out.2.2.1; simp at this; omega
  have hN : Has (w2.alloc (.cells #[.pointer (some ⟨f.s, 0, none⟩)] 31)) R [.pointer (some ⟨f.s, 0, none⟩)] 31 := hR ▸ Has.new w2 _ _
  have hF0 : Fr Nil1 w2 (w2.alloc (.cells #[.pointer (some ⟨f.s, 0, none⟩)] 31)) := (Fr.refl _ _).alloc _
  have hsz0 : (w2.alloc (.cells #[.pointer (some ⟨f.s, 0, none⟩)] 31)).heap.size = R + 1 := by simp [hR]
  obtain ⟨W0, hW0⟩ : ∃ W0, w2.alloc (.cells #[.pointer (some ⟨f.s, 0, none⟩)] 31) = W0 := ⟨_, rfl⟩
  rw [hW0] at hN hF0 hsz0 ⊢
  rw [hQ, hR]
  have HP0 := hid (HPm.out.new hF0)
  have HX0 := hid (hbx.fr' hF0 id)
  have hG0 : NG ≤ W0.heap.size := by omega
  have hGQ : NG ≤ Q := by omega
  have hlt2 := HPm.out.sl.lt
  have hnm : ∀ k, f.mem k → k < R := fun k hk => hR ▸ hlt2 k hk
  have HFin := hid (show Fr Nil1 w W0 from (H1.out.2.1.trans' (S' := fun k => k = Q) hf2 (fun j _ hj e => by have e' : j = Q := e; omega)).trans hF0)
  have HMem := hid (show ∀ k, PF.mem ⟨Q, f, t, d⟩ k → w.heap.size ≤ k from by
    rintro k (e | hk | e | e)
    · have e' : k = Q := e; omega
    · exact H1.out.2.2 k hk
    · have e' : k = t := e; omega
    · have e' : k = d := e; omega)
  clear hW0 hbx hf2 hF0 hlt2 HPm
  refine wpIn_rangeFunc_ownG rfl (by omega) (gf := 132) (lb := #[.pointer (some ⟨R, 0, none⟩)]) rfl trivial (enters_of Tryz.func132 (by kernel_rfl) rfl)
    (gapsAll_stops _ R f τ W0 hN HP0.out.sl) (fun h k => h.trans k) (fun W l o o' hl ho hc hw => KeepT.putObj W0 (fun k hk => by
      rcases hk with hk | hk | hk
      · omega
      · omega
      · have := hnm k hk; omega) W l o o' hl ho hc hw) (Below.refl _ _) (fun _ => rfl)
    (fun pre W => Fr Nil1 W0 W ∧ W0.heap.size ≤ W.heap.size)
    (fun _ _ _ => False)
    (fun s A B row hs hg hrow => ⟨hs.1.grownBy hg hrow (Nat.le_refl _) hG0, Nat.le_trans hs.2 hg.size⟩)
    (fun _ _ _ _ _ hs _ _ => hs)
    ⟨Fr.refl _ _, Nat.le_refl _⟩
    (fun x => { tmps := #[.slice A l.length c, Value.nilFunc, undef, undef, .pointer none, .int .i64 0, .pointer (some ⟨f.s, 0, none⟩), .int .i64 0, .pointer (some ⟨Q + 1, 0, none⟩), .int .i64 (x.1 : Int), .int .i64 x.2,
      .tuple #[.pointer (some ⟨f.s, 0, none⟩), .int .i64 0], .slice A l.length c, .tuple #[.pointer (some ⟨f.s, 0, none⟩), .int .i64 0], .pointer (some ⟨f.s, 0, none⟩), .int .i64 0, .int .i64 0, .bool false, undef, Value.nilFunc, .agg #[.pointer none, .pointer none, Value.nilFunc],
      .pointer (some ⟨Q, 0, none⟩), .pointer (some ⟨Q, 0, none⟩), .pointer (some ⟨f.s, 0, none⟩), v, .pointer (some ⟨f.s, 0, none⟩), .func (.func 132) #[] #[.pointer (some ⟨R, 0, none⟩)], .int .i64 (x.1 : Int), .int .i64 x.2, undef, undef, undef, undef, undef], defers := [] }) ?assign ?body ?done ?stop
  case assign =>
    intro l x W K hK
    unfold encIx
    gi_wp2
    exact hK
  case body =>
    rintro l' pre x W ⟨HF, hWs⟩ hlt
    obtain ⟨c0, cf⟩ := (HX0.out.fr' HF id).one
    have HFF := hid HF
    have HTl := hid (pmaTell_ok hearN (p := Q) (fun h => h) [] x.2 (-1) (x.1 : Int) W ⟨trivial, (HP0.out.new HF).row⟩)
    gi_wp2_with ((first | refine ⟨trivial, wideNo, ?_⟩ | refine ⟨trivial, ?_⟩); gi_at_call 75; refine (callsIn_wide.2 HTl.out).mono ?_; rintro e w4 ⟨⟨v', rfl⟩, _, h5⟩; have H5 := hid h5; clear h5)
    have h6 : Fr Nil1 W w4 := H5.out.mono (fun _ _ h => h)
    exact ⟨KeepsFrom.of_fr h6 (fun _ _ h => h), KeepT.of_fr h6 (fun _ _ h => h), HFF.out.trans h6, Nat.le_trans hWs h6.size⟩
  case done =>
    rintro D ys W hD rfl ⟨HF, hWs⟩ hK
    obtain ⟨c0, cf⟩ := (HX0.out.fr' HF id).one
    have HFF := hid HF
    have HKK := hid hK
    gi_wp2_with fail
    have hf9 : Fr Nil1 W0 (W.putObj D (.deferred none)) := HFF.out.putObj D _ hD hG0
    refine ⟨by simp, .inl ⟨_, _, rfl, run_takeDeferred HKK.out, ?_⟩⟩
    exact ⟨.tuple #[.pointer (some ⟨Q, 0, none⟩), .int .i64 0], by simp [results, Tryz.f159, go_sem], ⟨Q, f, t, d⟩, τ, rfl, hid ⟨HL.out, HP0.out.new hf9, HFin.out.trans hf9, HMem.out⟩⟩
  case stop =>
    rintro D c pre W _ _ h _
    exact h.elim
end Go.Proofs.YtechphliifginaaGreatDoor

/- set.Of: keys that rise. -/
set_option linter.unusedVariables false
set_option linter.unusedSimpArgs false
namespace Go.Proofs.YtechphliifginaaGreatDoor
open Go.RowKit

theorem up_getD {l : List Int} (H : Up l) {i : Nat} (h : i + 1 < l.length) : l.getD i 0 < l.getD (i + 1) 0 := by
  have h1 : l[i]? = some (l.getD i 0) := by rw [List.getD_eq_getElem?_getD, List.getElem?_eq_getElem (show i < l.length by omega)]; rfl
  have h2 : l[i + 1]? = some (l.getD (i + 1) 0) := by rw [List.getD_eq_getElem?_getD, List.getElem?_eq_getElem h]; rfl
  exact (up_get H h1 h2).2 (by omega)
set_option maxRecDepth 100000 in
set_option maxHeartbeats 2000000 in
theorem setOf_any (l : List Int) (hU : Up l) (hn : l.length ≤ 2560) {u : Value} {w : World} (hu : Rd w u (ints' l)) (hg : GW w) :
    Calls Tryz.prog 94 #[u] w fun e w' => ∃ (s p : Nat) (F : PF) (τ : List (Option Int)), e = .returned (.tuple #[.pointer (some ⟨s, 0, none⟩), .int .i64 0]) ∧ Hid (SetS w s p F τ (forH l.length) [] w' ∧ Fr Nil1 w w' ∧ LaidR l (2 ^ forH l.length) τ) := by
  have HO := hid (fun (m : Nat) => pmaOfNil_ok l hn (hu.new ((Fr.refl Nil1 w).drewN m)) (hg.fr ((Fr.refl Nil1 w).drewN m)))
  obtain ⟨A, c, rfl, hb, hA⟩ := hu
  rw [ints'_length] at hb hA HO ⊢
  have HA := hid hA
  have HU := hid hU
  have HN := hid hn
  have HG := hid hg
  clear hA hU hn hg hb
  go_enter Tryz.func94, Tryz.ntmps94
  go_wp2_with fail
  go_loopw [4] (fun i wr => ∃ (k m : Nat), 1 ≤ k ∧ (k ≤ l.length ∨ k = 1) ∧ i = .int .i64 k ∧ wr = w.drewN m) (fun i _ => (l.length - intOf i).toNat)
  case atStart => exact ⟨1, 0, by omega, .inr rfl, rfl, rfl⟩
  case round =>
    obtain ⟨k, m, hk1, hk, rfl, rfl⟩ := hrel
    by_cases hlt : k < l.length
    · have hltI : (k : Int) < l.length := by omega
      obtain ⟨ad, rfl, hc⟩ := HA.out (by omega)
      obtain ⟨j, hj⟩ : ∃ j, k = j + 1 := ⟨k - 1, by omega⟩
      have c1 := hc k _ (ints'_get l k hlt)
      have c0 := hc j _ (ints'_get l j (by omega))
      have hup : l.getD j 0 < l.getD k 0 := by rw [hj]; exact up_getD HU.out (by omega)
      have e2 : IntKind.i64.wrap ((k : Int) - 1) = (j : Int) := by rw [show (k : Int) - 1 = (j : Int) by omega]; exact IntWalk.i64_in _ (by have := HN.out; omega)
      have j0 : (0 : Int) ≤ (j : Int) := by omega
      have hkb : (k : Int) < 2560 := by have := HN.out; omega
      have j1 : (j : Int) < (l.length : Int) := by omega
      have hd : decide (l.getD k 0 ≤ l.getD j 0) = false := decide_eq_false (by omega)
      have HX := hid (And.intro hk1 (And.intro hk hj))
      clear hk1 hk hc hup hj
      generalize l.getD k 0 = x at *
      generalize l.getD j 0 = y at *
      go_wp2_with fail
      go_quiet (fail)
      go_wp2_with fail
      exact ⟨⟨k + 1, m + nq, by omega, .inl (by omega), by go_num, rfl⟩, by simp [intOf]; omega⟩
    · have HX := hid (And.intro hk1 hk)
      have hltI : ¬ (k : Int) < l.length := by omega
      clear hk1 hk
      go_wp2_with (go_at_call 159; refine (HO.out m).mono ?_; rintro e w1 ⟨F, τ, rfl, H1⟩)
      go_ret2
      have hf : Fr Nil1 w w1 := ((Fr.refl Nil1 w).drewN m).trans H1.out.2.2.1
      have hs := hf.size
      have hlt1 := H1.out.2.1.lt
      have hmem : ∀ k, F.mem k → w.heap.size ≤ k := fun k hk => by have := H1.out.2.2.2 k hk; simpa using this
      exact ⟨w1.heap.size, F.p, F, τ, rfl, hid ⟨⟨⟨rfl, H1.out.2.1.new ((Fr.refl _ _).alloc _), forH_dn HN.out H1.out.1, trivial, hf.alloc _, hmem, fun k hk => hk.elim⟩, Has.new w1 _ _, fun hk => by have := hlt1 _ hk; omega, hs, by have := HG.out.size; omega, by rw [H1.out.1.items]; exact HU.out⟩, hf.alloc _, H1.out.1⟩⟩
theorem SS.of (l : List Int) (hU : Up l) (hn : l.length ≤ 2560) {u : Value} {w : World} (hu : Rd w u (ints' l)) (hg : GW w) :
    Calls Tryz.prog 94 #[u] w fun e w' => ∃ s : Nat, e = .returned (.tuple #[.pointer (some ⟨s, 0, none⟩), .int .i64 0]) ∧ Hid (SS w s l w') := by
  refine (setOf_any l hU hn hu hg).mono ?_
  rintro e w' ⟨s, p, F, τ, rfl, H⟩
  exact ⟨s, rfl, hid ⟨⟨p, F, τ, _, [], H.out.1, H.out.2.2.items⟩, hU, H.out.2.1⟩⟩
end Go.Proofs.YtechphliifginaaGreatDoor
