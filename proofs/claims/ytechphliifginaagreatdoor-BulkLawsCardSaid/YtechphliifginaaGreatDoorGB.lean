/- In one: B1, B2, B3, B4. -/
import Derived.Test.YtechphliifginaaGreatDoorProg
import Derived.Test.YtechphliifginaaGreatDoorGA
import Derived.Shelf.Spec.TrailingZeros
/- The rows of bits: what lies in memory, and what New, Len, Set and Has do. -/
set_option linter.unusedVariables false
set_option linter.unusedSimpArgs false
namespace Go.Proofs.YtechphliifginaaGreatDoor
open Go.RowKit

def words (ws : List Nat) : List Value := ws.map fun (v : Nat) => Value.int .u64 (v : Int)
/-- The library's table lies where it lay. -/
def Tab (w : World) : Prop := Go.Proofs.TabAt 0 Lib.deBruijn64tab w
/-- What every call may lean on: the package-level variables. -/
structure GW (w : World) : Prop where
  size : NG ≤ w.heap.size
  tab : Tab w
theorem GW.fr {S : Nat → Prop} {w w' : World} (h : GW w) (hf : Fr S w w') : GW w' :=
  ⟨Nat.le_trans h.size hf.size, fun j hj => (World.cell?_of_block (w := w) (a := ⟨0, j, none⟩) (hf.block 0 (Nat.lt_of_lt_of_le (by decide) h.size) (fun _ => by decide))).trans (h.tab j hj)⟩

/-- Block b is a row of n bits, its words in block c. -/
structure BitsR (w : World) (b c : Nat) (n : Nat) (on : Nat → Bool) : Prop where
  g : GW w
  gb : NG ≤ b
  gc : NG ≤ c
  n1 : 1 ≤ n
  n2 : n ≤ 65536
  row : ∃ (ws : List Nat) (ex : List Value), Has w b [.int .i64 n, .slice (some ⟨c, 0, none⟩) ws.length (ws.length + ex.length)] 170 ∧ Has w c (words ws ++ ex) 167 ∧ WOK ws n on

theorem BitsR.ne {w : World} {b c n : Nat} {on : Nat → Bool} (h : BitsR w b c n on) : b ≠ c := by
  obtain ⟨ws, ex, h1, h2, _⟩ := h.row
  exact h1.ne h2 (by decide)
theorem BitsR.fr {w w' : World} {b c n : Nat} {on : Nat → Bool} {S : Nat → Prop} (h : BitsR w b c n on) (hf : Fr S w w') (hb : ¬ S b) (hc : ¬ S c) : BitsR w' b c n on := by
  obtain ⟨ws, ex, h1, h2, h3⟩ := h.row
  exact ⟨h.g.fr hf, h.gb, h.gc, h.n1, h.n2, ws, ex, h1.fr' hf hb, h2.fr' hf hc, h3⟩
theorem words_get (ws : List Nat) (ex : List Value) (k : Nat) (hk : k < ws.length) : (words ws ++ ex)[k]? = some (.int .u64 (ws.getD k 0 : Nat)) := by
  rw [List.getElem?_append_left (by simpa [words] using hk)]
  simp [words, List.getD_eq_getElem?_getD, List.getElem?_eq_getElem hk]
theorem words_set (ws : List Nat) (ex : List Value) (k u : Nat) (hk : k < ws.length) : (words ws ++ ex).set k (.int .u64 u) = words (ws.set k u) ++ ex := by
  rw [List.set_append_left _ _ (by simpa [words] using hk)]
  simp [words, List.map_set]

theorem info_u64 : (Tryz.prog.info? 167).map (fun i => (i.zero, i.size, i.bytes)) = some (some (.int .u64 0), 1, 8) := by kernel_rfl

set_option maxHeartbeats 400000 in
set_option maxRecDepth 100000 in
theorem bitsNew_ok (n : Int) (w : World) (h0 : 1 ≤ n) (hn : n ≤ 65536) (hg : GW w) :
    Calls Tryz.prog 129 #[.int .i64 n] w fun e w' => ∃ b c, e = .returned (.tuple #[.pointer (some ⟨b, 0, none⟩), .int .i64 0]) ∧ BitsR w' b c n.toNat (fun _ => false) ∧ Fr Nil1 w w' ∧ w.heap.size ≤ b ∧ w.heap.size ≤ c := by
  have hmk := mk_row (P := Tryz.prog) 168 167 (.int .u64 0) 8 Tryz.underlying168 info_u64 rfl (by decide) ((n + 64 - 1) / 64) (by omega) (by omega)
  have H : Hid (WOK (List.replicate ((n.toNat + 63) / 64) 0) n.toNat fun _ => false) := hid (WOK.new n.toNat)
  have Hg := hid hg
  clear hg
  go_enter Tryz.func129, Tryz.ntmps129
  go_wp2
  go_ret2
  have hs : ((n + 64 - 1) / 64).toNat = (n.toNat + 63) / 64 := by omega
  have fr1 : Fr Nil1 w (w.alloc (.cells (madeCells #[.int .u64 0] ((n + 64 - 1) / 64).toNat) 167)) := (Fr.refl _ _).alloc _
  refine ⟨w.heap.size + 1, w.heap.size, rfl, ⟨(Hg.out.fr fr1).fr ((Fr.refl Nil1 _).alloc _), by have := Hg.out.size; omega, Hg.out.size, by omega, by omega, List.replicate ((n.toNat + 63) / 64) 0, [], ?_, ?_, H.out⟩, fr1.alloc _, by omega, by omega⟩
  · have := Has.new (w.alloc (.cells (madeCells #[.int .u64 0] ((n + 64 - 1) / 64).toNat) 167)) [.int .i64 n, .slice (some ⟨w.heap.size, 0, none⟩) ((n + 64 - 1) / 64).toNat ((n + 64 - 1) / 64).toNat] 170
    rw [World.size_alloc] at this
    simpa [hs, Int.toNat_of_nonneg (show 0 ≤ n by omega)] using this
  · have this := Has.made w (.int .u64 0) ((n + 64 - 1) / 64).toNat 167
    have e : words (List.replicate ((n.toNat + 63) / 64) 0) ++ [] = List.replicate ((n.toNat + 63) / 64) (.int .u64 0) := by simp [words]
    rw [e]
    rw [← hs]
    exact this.alloc _

set_option maxHeartbeats 400000 in
set_option maxRecDepth 100000 in
theorem bitsNew_bad (n : Int) (w : World) (hn : n < 1 ∨ 65536 < n) :
    Calls Tryz.prog 129 #[.int .i64 n] w fun e w' => e = .returned (.tuple #[.pointer none, .int .i64 10]) ∧ w = w' := by
  rcases hn with hn | hn
  all_goals
    go_enter Tryz.func129, Tryz.ntmps129
    go_wp2
    go_ret2
    exact ⟨rfl, rfl⟩

set_option maxHeartbeats 400000 in
theorem bitsLen_any {b c n : Nat} {on : Nat → Bool} {w : World} (h : BitsR w b c n on) :
    Calls Tryz.prog 162 #[.pointer (some ⟨b, 0, none⟩)] w fun e w' => e = .returned (.int .i64 n) ∧ w = w' := by
  obtain ⟨ws, ex, h1, h2, h3⟩ := h.row
  obtain ⟨c0, c1, f0⟩ := h1.two
  clear h
  go_enter Tryz.func162, Tryz.ntmps162
  go_wp2
  go_ret
  exact ⟨rfl, rfl⟩

set_option maxHeartbeats 400000 in
theorem bitsHas_any {b c n : Nat} {on : Nat → Bool} {w : World} (h : BitsR w b c n on) (i : Int) :
    Calls Tryz.prog 101 #[.pointer (some ⟨b, 0, none⟩), .int .i64 i] w fun e w' => e = .returned (.bool (decide (0 ≤ i) && on i.toNat)) ∧ w = w' := by
  have hlen := fun w' => @bitsLen_any b c n on w'
  have H := hid h
  have n2 := h.n2
  obtain ⟨ws, ex, h1, h2, h3⟩ := h.row
  obtain ⟨c0, c1, f0⟩ := h1.two
  clear h hlen
  by_cases hi0 : 0 ≤ i
  · by_cases hin : i < n
    · have hl : i / 64 < ws.length := by rw [h3.len]; omega
      have hc := h2.cell (i / 64).toNat
      rw [words_get ws ex _ (by omega)] at hc
      have hv := h3.lt (i / 64).toNat
      have hbit : on i.toNat = (ws.getD (i / 64).toNat 0).testBit (i % 64).toNat := by
        rw [h3.bit, bitAt, show (i / 64).toNat = i.toNat / 64 by omega, show (i % 64).toNat = i.toNat % 64 by omega]
      generalize ws.getD (i / 64).toNat 0 = v at *
      have Hb := hid hbit
      have Hv := hid hv
      clear hbit hv h1 h2 h3 f0
      have hm0 : 0 ≤ i % 64 := by omega
      have hm1 : i % 64 < 64 := by omega
      have v0 : (0 : Int) ≤ v := by omega
      go_enter Tryz.func101, Tryz.ntmps101
      go_wp2_with (first | (go_at_call 162; refine (bitsLen_any H.out).mono ?_; rintro e w' ⟨rfl, rfl⟩))
      go_ret
      refine ⟨?_, rfl⟩
      rw [Hb.out, ← has_word v _ Hv.out]
      simp [hi0]
    · have ho : on i.toNat = false := h3.out _ (by omega)
      have Ho := hid ho
      clear ho h1 h2 h3 f0
      go_enter Tryz.func101, Tryz.ntmps101
      go_wp2_with (first | (go_at_call 162; refine (bitsLen_any H.out).mono ?_; rintro e w' ⟨rfl, rfl⟩))
      go_ret
      refine ⟨?_, rfl⟩
      rw [Ho.out]
      simp
  · clear h1 h2 h3 f0
    go_enter Tryz.func101, Tryz.ntmps101
    go_wp2_with (first | (go_at_call 162; refine (bitsLen_any H.out).mono ?_; rintro e w' ⟨rfl, rfl⟩))
    go_ret
    refine ⟨?_, rfl⟩
    rw [decide_eq_false (by omega)]
    rfl

set_option maxHeartbeats 400000 in
theorem bitsSet_ok {b c n : Nat} {on : Nat → Bool} {w : World} (h : BitsR w b c n on) (i : Int) (v : Bool) (hi0 : 0 ≤ i) (hin : i < n) :
    Calls Tryz.prog 135 #[.pointer (some ⟨b, 0, none⟩), .int .i64 i, .bool v] w fun e w' => e = .returned (.int .i64 0) ∧ BitsR w' b c n (upd on i.toNat v) ∧ Fr (fun k => k = c) w w' := by
  have H := hid h
  have n2 := h.n2
  obtain ⟨ws, ex, h1, h2, h3⟩ := h.row
  obtain ⟨c0, c1, f0⟩ := h1.two
  have f1 := h2.frozen
  have hl : i / 64 < ws.length := by rw [h3.len]; omega
  have hc := h2.cell (i / 64).toNat
  rw [words_get ws ex _ (by omega)] at hc
  have hv := h3.lt (i / 64).toNat
  have e1 : (i / 64).toNat = i.toNat / 64 := by omega
  have e2 : (i % 64).toNat = i.toNat % 64 := by omega
  have fin : ∀ u : Nat, u < 18446744073709551616 → (∀ j, j < 64 → u.testBit j = if j = i.toNat % 64 then v else (ws.getD (i.toNat / 64) 0).testBit j) →
      BitsR (w.setCell ⟨c, (i / 64).toNat, none⟩ (.int .u64 u)) b c n (upd on i.toNat v) ∧ Fr (fun k => k = c) w (w.setCell ⟨c, (i / 64).toNat, none⟩ (.int .u64 u)) := by
    intro u hu hub
    have hf : Fr (fun k => k = c) w (w.setCell ⟨c, (i / 64).toNat, none⟩ (.int .u64 u)) := (Fr.refl _ _).setCell _ _ H.out.gc (fun _ => rfl)
    refine ⟨⟨H.out.g.fr hf, H.out.gb, H.out.gc, H.out.n1, H.out.n2, ws.set (i.toNat / 64) u, ex, ?_, ?_, h3.set i.toNat (by omega) v u hu hub⟩, hf⟩
    · rw [List.length_set]
      exact h1.fr' hf H.out.ne
    · rw [e1, ← words_set _ _ _ _ (by omega)]
      exact h2.set _ _
  have Hf := hid fin
  have He1 := hid e1
  have He2 := hid e2
  clear fin e1 e2 h1 h2 h3 f0 h
  generalize hv' : ws.getD (i / 64).toNat 0 = x at *
  have Hv := hid hv
  have Hv' := hid hv'
  clear hv hv'
  have hm0 : 0 ≤ i % 64 := by omega
  have hm1 : i % 64 < 64 := by omega
  have v0 : (0 : Int) ≤ x := by omega
  cases v
  · go_enter Tryz.func135, Tryz.ntmps135
    go_wp2
    go_ret
    refine ⟨rfl, ?_⟩
    rw [andNot_word x _ Hv.out (by omega)]
    refine Hf.out _ (andNot_lt _ _ Hv.out) (fun j hj => ?_)
    rw [andNot_bit _ _ _ (by omega) hj, He2.out, ← He1.out, Hv'.out]
  · go_enter Tryz.func135, Tryz.ntmps135
    go_wp2
    go_ret
    refine ⟨rfl, ?_⟩
    rw [or_word x _ Hv.out (by omega)]
    refine Hf.out _ (or_lt _ _ Hv.out (by omega)) (fun j hj => ?_)
    rw [or_bit, He2.out, ← He1.out, Hv'.out]
end Go.Proofs.YtechphliifginaaGreatDoor

/- The library's OnesCount64 and TrailingZeros64; the first bit from one on. -/
set_option linter.unusedVariables false
set_option linter.unusedSimpArgs false
namespace Go.Proofs.YtechphliifginaaGreatDoor
open Go.RowKit

set_option maxHeartbeats 400000 in
theorem ones64_any (v : Nat) (hv : v < 18446744073709551616) (w : World) :
    Calls Tryz.prog 190 #[.int .u64 (v : Int)] w fun e w' => e = .returned (.int .i64 (Pop.cnt v 64 : Nat)) ∧ w = w' := by
  have H := hid (ones_eq v hv)
  clear hv
  go_enter Tryz.func190, Tryz.ntmps190
  go_wp2
  go_ret
  refine ⟨?_, rfl⟩
  rw [← H.out]
  rfl

theorem tz64_any0 (w : World) : Calls Tryz.prog 204 #[.int .u64 0] w fun e w' => e = .returned (.int .i64 64) ∧ w = w' := by
  go_enter Tryz.func204, Tryz.ntmps204
  go_wp2
  go_ret
  exact ⟨rfl, rfl⟩
set_option maxHeartbeats 400000 in
theorem tz64_core (x k idx : Nat) (w : World) (hx0 : ((x : Int) == 0) = false)
    (key : IntKind.u64.wrap (bits BinOp.and IntKind.u64 (x : Int) (IntKind.u64.wrap (-(x : Int))) * 285870213051353865) / 288230376151711744 = (idx : Int))
    (hi : idx < 64) (hk : k < 64) (hcell : w.cell? ⟨0, idx, none⟩ = some (.int .u8 k)) :
    Calls Tryz.prog 204 #[.int .u64 x] w fun e w' => e = .returned (.int .i64 k) ∧ w = w' := by
  go_enter Tryz.func204, Tryz.ntmps204
  go_wp2
  go_ret
  exact ⟨rfl, rfl⟩
/-- The library's TrailingZeros64. -/
theorem tz64_any (x : Nat) (hx : x < 18446744073709551616) (h0 : x ≠ 0) (w : World) (hT : Tab w) :
    Calls Tryz.prog 204 #[.int .u64 (x : Int)] w fun e w' => e = .returned (.int .i64 (Lib.ctz 64 x)) ∧ w = w' := by
  obtain ⟨hlow, hk⟩ := Lib.lowest_bit 64 x h0 hx
  obtain ⟨hi, htab⟩ := Lib.deBruijn64_at _ hk
  have hcell := hT _ hi
  rw [htab] at hcell
  exact tz64_core x _ _ w (by simp; omega) (Go.Proofs.tz64_key x _ hx h0 hlow) hi hk hcell

set_option maxHeartbeats 400000 in
theorem bitsNext_neg {b c n : Nat} {on : Nat → Bool} {w : World} (h : BitsR w b c n on) (i : Int) (hi : (n : Int) ≤ i) :
    Calls Tryz.prog 174 #[.pointer (some ⟨b, 0, none⟩), .int .i64 i] w fun e w' => e = .returned (.int .i64 (-1)) ∧ w = w' := by
  have H := hid h
  have n1 := h.n1
  clear h
  go_enter Tryz.func174, Tryz.ntmps174
  go_wp2_with (first | (go_at_call 162; refine (bitsLen_any H.out).mono ?_; rintro e w' ⟨rfl, rfl⟩))
  go_ret
  exact ⟨rfl, rfl⟩

/-- In the loop of Next: the word that is held has the bits of word k from i on; ahead of word k there is none. -/
def NextRel (on : Nat → Bool) (len : Nat) (i : Nat) (x k : Value) : Prop :=
  ∃ (v kk : Nat), x = .int .u64 v ∧ k = .int .i64 kk ∧ kk < len ∧ i / 64 ≤ kk ∧ v < 18446744073709551616 ∧ (∀ j, j < 64 → v.testBit j = (decide (i ≤ 64 * kk + j) && on (64 * kk + j))) ∧ ∀ j, i ≤ j → j < 64 * kk → on j = false


theorem nextRel_start {on : Nat → Bool} {ws : List Nat} {n : Nat} (h3 : WOK ws n on) (m : Nat) (hmn : m < n) (hl : m / 64 < ws.length) :
    NextRel on ws.length m (.int .u64 ((ws.getD (m / 64) 0 / 2 ^ (m % 64) * 2 ^ (m % 64) % 18446744073709551616 : Nat) : Int)) (.int .i64 ((m / 64 : Nat) : Int)) := by
  refine ⟨_, m / 64, rfl, rfl, hl, Nat.le_refl _, Nat.mod_lt _ (by omega), fun j hj => ?_, fun j h1 h2 => by omega⟩
  rw [high_bits _ _ _ (by omega) hj, h3.bit, bitAt, show (64 * (m / 64) + j) / 64 = m / 64 by omega, show (64 * (m / 64) + j) % 64 = j by omega]
  congr 1
  rw [decide_eq_decide]
  omega

set_option maxHeartbeats 1000000 in
theorem bitsNext_in {b c n : Nat} {on : Nat → Bool} {w : World} (h : BitsR w b c n on) (m : Nat) (i : Int) (hi : i = m) (hmn : i < n) :
    Calls Tryz.prog 174 #[.pointer (some ⟨b, 0, none⟩), .int .i64 i] w fun e w' => e = .returned (.int .i64 (nxt on n i)) ∧ w = w' := by
  have H := hid h
  have n1 := h.n1
  have n2 := h.n2
  have ht := hid h.g.tab
  obtain ⟨ws, ex, h1, h2, h3⟩ := h.row
  obtain ⟨c0, c1, f0⟩ := h1.two
  have hl : m / 64 < ws.length := by rw [h3.len]; omega
  have hc := h2.cell (m / 64)
  rw [words_get ws ex _ hl] at hc
  have H3 := hid h3
  have HC := hid (fun k hk => (h2.cell k).trans (words_get ws ex k hk))
  have hlen : ws.length ≤ 1024 := by rw [h3.len]; omega
  have hl0 : i / 64 < ws.length := by omega
  have HS := hid (nextRel_start h3 m (by omega) hl)
  rw [show m / 64 = (i / 64).toNat by omega] at hc
  have HI := hid hi
  have hi0 : 0 ≤ i := by omega
  generalize hxx : ws.getD (i / 64).toNat 0 = x at *
  have hxx' := hid hxx
  have v0 : (0 : Int) ≤ x := by omega
  have hr0 : 0 ≤ i % 64 := by omega
  have hr1 : i % 64 < 64 := by omega
  clear h1 h2 h3 h f0 hi hxx
  go_enter Tryz.func174, Tryz.ntmps174
  go_wp2_with (first | (go_at_call 162; refine (bitsLen_any H.out).mono ?_; rintro e w' ⟨rfl, rfl⟩))
  go_loop [5, 6] (fun x k => NextRel on ws.length m x k) (fun _ k => ws.length - (intOf k).toNat)
  case atStart =>
    have h := HS.out
    rw [show m / 64 = (i / 64).toNat by have := HI.out; omega, hxx'.out, ← high_eq, show m % 64 = (i % 64).toNat by have := HI.out; omega, show (((i / 64).toNat : Nat) : Int) = i / 64 by omega] at h
    exact h
  case round =>
    obtain ⟨v, k, rfl, rfl, hk, hk2, hv, hbit, hbelow⟩ := hrel
    have HB := hid hbit
    have HW := hid hbelow
    clear hbit hbelow HS
    by_cases hz : v = 0
    · subst hz
      have none_here : ∀ j, i.toNat ≤ j → j < 64 * (k + 1) → on j = false := by
        intro j h1 h2
        have e := HI.out
        rcases Nat.lt_or_ge j (64 * k) with g | g
        · exact HW.out j (by omega) g
        · have := HB.out (j - 64 * k) (by omega)
          rw [Nat.zero_testBit, show 64 * k + (j - 64 * k) = j by omega] at this
          rw [decide_eq_true (by omega), Bool.true_and] at this
          exact this.symm
      have HN := hid none_here
      clear none_here
      by_cases hend : k + 1 < ws.length
      · have hcell := HC.out (k + 1) hend
        have hxs := hid (H3.out.lt (k + 1))
        have hbs := hid (fun j (hj : j < 64) => show (ws.getD (k + 1) 0).testBit j = (decide (m ≤ 64 * (k + 1) + j) && on (64 * (k + 1) + j)) by
          rw [H3.out.bit, bitAt, show (64 * (k + 1) + j) / 64 = k + 1 by omega, show (64 * (k + 1) + j) % 64 = j by omega, decide_eq_true (by omega), Bool.true_and])
        generalize ws.getD (k + 1) 0 = y at *
        go_wp2
        go_round
        case rel => exact ⟨y, k + 1, rfl, by go_num, hend, by omega, hxs.out, hbs.out, fun j h1 h2 => HN.out j (by have := HI.out; omega) h2⟩
        case measure => simp [intOf]; omega
      · have hnn : n ≤ 64 * (k + 1) := by have := H3.out.len; omega
        go_wp2
        go_ret
        refine ⟨?_, rfl⟩
        rw [nxt_none (fun j h1 h2 => HN.out j h1 (by omega))]
        rfl
    · obtain ⟨z1, z2, z3⟩ := ctz_spec v hv hz
      have Z2 := hid z2
      have Z3 := hid z3
      have hz0 : ((v : Int) == 0) = false := by simp; omega
      have hz1 : ((v : Int) != 0) = true := by simp; omega
      have hq0 : (0 : Int) ≤ (Lib.ctz 64 v : Int) := by omega
      have HV := hid hv
      have HZ := hid hz
      have htz := fun w' => tz64_any v HV.out HZ.out w'
      clear z2 z3 hv hz hc
      generalize Lib.ctz 64 v = q at *
      go_wp2_with (first | (go_at_call 204; refine (htz _ ht.out).mono ?_; rintro e w' ⟨rfl, rfl⟩))
      go_ret
      refine ⟨?_, rfl⟩
      have hb1 := HB.out q z1
      rw [Z2.out] at hb1
      have hb4 := hb1.symm
      rw [Bool.and_eq_true] at hb4
      have hb2 := hb4.2
      have hb3 := of_decide_eq_true hb4.1
      have e := HI.out
      have hr : 64 * k + q < n := by
        rcases Nat.lt_or_ge (64 * k + q) n with g | g
        · exact g
        · have := H3.out.out _ g; rw [this] at hb2; cases hb2
      rw [nxt_some (64 * k + q) (by omega) hr hb2 (fun j h1 h2 => ?_)]
      · show Ending.returned (.int .i64 _) = _
        congr 2
        omega
      · rcases Nat.lt_or_ge j (64 * k) with g | g
        · exact HW.out j (by omega) g
        · have h5 := HB.out (j - 64 * k) (by omega)
          rw [Z3.out _ (by omega), show 64 * k + (j - 64 * k) = j by omega, decide_eq_true (by omega), Bool.true_and] at h5
          exact h5.symm

theorem bitsNext_any {b c n : Nat} {on : Nat → Bool} {w : World} (h : BitsR w b c n on) (i : Int) (hi : 0 ≤ i) :
    Calls Tryz.prog 174 #[.pointer (some ⟨b, 0, none⟩), .int .i64 i] w fun e w' => e = .returned (.int .i64 (nxt on n i)) ∧ w = w' := by
  by_cases hn : i < n
  · exact bitsNext_in h i.toNat i (by omega) hn
  · refine (bitsNext_neg h i (by omega)).mono ?_
    rintro e w' ⟨rfl, rfl⟩
    rw [nxt_none (fun j h1 h2 => by omega)]
    exact ⟨rfl, rfl⟩
end Go.Proofs.YtechphliifginaaGreatDoor

/- How many bits are set ahead of one; Count. -/
set_option linter.unusedVariables false
set_option linter.unusedSimpArgs false
namespace Go.Proofs.YtechphliifginaaGreatDoor
open Go.RowKit

set_option maxHeartbeats 1000000 in
theorem bitsAhead_any {b c n : Nat} {on : Nat → Bool} {w : World} (h : BitsR w b c n on) (to : Int) (h0 : 0 ≤ to) (hto : to ≤ n) :
    Calls Tryz.prog 179 #[.pointer (some ⟨b, 0, none⟩), .int .i64 to] w fun e w' => e = .returned (.int .i64 (cntOn on to.toNat : Nat)) ∧ w = w' := by
  have n2 := h.n2
  obtain ⟨ws, ex, h1, h2, h3⟩ := h.row
  obtain ⟨c0, c1, f0⟩ := h1.two
  have H3 := hid h3
  have HC := hid (fun k hk => (h2.cell k).trans (words_get ws ex k hk))
  have hlen := h3.len
  have hlen : ws.length ≤ 1024 := by omega
  have hlw : to / 64 ≤ ws.length := by rw [h3.len]; omega
  have HL := hid h3.len
  clear h1 h2 h3 h f0
  go_enter Tryz.func179, Tryz.ntmps179
  go_wp2_with fail
  go_loop [5, 6, 10] (fun s x i => ∃ k : Nat, k ≤ to / 64 ∧ i = .int .i64 k ∧ s = .int .i64 (cntOn on (64 * k) : Nat)) (fun _ _ i => (to / 64 - intOf i).toNat)
  case atStart => exact ⟨0, by omega, rfl, rfl⟩
  case round =>
    obtain ⟨k, hk, rfl, rfl⟩ := hrel
    have hcl := cntOn_le on (64 * k)
    by_cases hlt : (k : Int) < to / 64
    · have hcell := HC.out k (by omega)
      have hones := fun w' => ones64_any (ws.getD k 0) (H3.out.lt k) w'
      have hc64 := Pop.cnt_le (ws.getD k 0) 64
      have hstep := cntOn_word on (64 * k) (ws.getD k 0) 64 (fun j hj => by rw [H3.out.bit, bitAt, show (64 * k + j) / 64 = k by omega, show (64 * k + j) % 64 = j by omega])
      have HS := hid hstep
      clear hstep
      generalize ws.getD k 0 = y at *
      have hcc : 0 ≤ ((Pop.cnt y 64 : Nat) : Int) := by omega
      generalize hp : Pop.cnt y 64 = p at *
      have HP := hid hp
      clear hp
      generalize hz : cntOn on (64 * k) = z at *
      have HZ := hid hz
      clear hz
      have hones' := fun w' => (hones w')
      clear hones
      go_wp2_with (first | (go_at_call 190; refine (hones' _).mono ?_; rintro e w' ⟨rfl, rfl⟩))
      go_round
      case rel => exact ⟨k + 1, by omega, by go_num, by rw [show 64 * (k + 1) = 64 * k + 64 by omega, HS.out]; go_num⟩
      case measure => simp [intOf]; omega
    · have hkk : to / 64 = k := by omega
      have hkn : k = to.toNat / 64 := by omega
      have HKK := hid hkk
      have HKN := hid hkn
      have hr0 : 0 ≤ to % 64 := by omega
      have hr1 : to % 64 < 64 := by omega
      clear hkk hkn
      by_cases hleft : to % 64 = 0
      · have hl0 : ((to % 64 : Int) == 0) = true := by simp; omega
        have HE := hid hleft
        have hle : to % 64 ≤ 0 := by omega
        clear hl0 hleft
        generalize hz : cntOn on (64 * k) = z at *
        have HZ := hid hz
        clear hz
        go_wp2_with fail
        go_ret
        refine ⟨?_, rfl⟩
        have := HKN.out
        have := HE.out
        rw [show to.toNat = 64 * k by omega, HZ.out]
        rfl
      · have hgt : 0 < to % 64 := by omega
        clear hleft
        have hkl : k < ws.length := by have := HL.out; have := HKK.out; omega
        have hcell := HC.out k hkl
        rw [show k = (to / 64).toNat by have := HKK.out; omega] at hcell
        have hkl2 : to / 64 < ws.length := by have := HKK.out; omega
        have hv := H3.out.lt (to / 64).toNat
        have hstep := cntOn_word on (64 * k) (ws.getD (to / 64).toNat 0) (to % 64).toNat (fun j hj => by have := HKK.out; rw [H3.out.bit, bitAt, show (64 * k + j) / 64 = (to / 64).toNat by omega, show (64 * k + j) % 64 = j by omega])
        rw [show 64 * k + (to % 64).toNat = to.toNat by have := HKK.out; omega, ← low_cnt _ _ (by omega)] at hstep
        have HS := hid hstep
        have hcb := cntOn_le on to.toNat
        have hcb2 : cntOn on to.toNat ≤ 65536 := by omega
        clear hstep hcb
        generalize ws.getD (to / 64).toNat 0 = y at *
        have hsh : ∀ w', Calls Tryz.prog 190 #[.int .u64 (IntKind.u64.wrap ((y : Int) * 2 ^ (64 - to % 64).toNat))] w' fun e w'' => e = .returned (.int .i64 (Pop.cnt (y * 2 ^ (64 - (to % 64).toNat) % 18446744073709551616) 64 : Nat)) ∧ w' = w'' := by
          intro w'
          rw [shl_eq, show (64 - to % 64).toNat = 64 - (to % 64).toNat by omega]
          exact ones64_any _ (Nat.mod_lt _ (by omega)) w'
        have hq := Pop.cnt_le (y * 2 ^ (64 - (to % 64).toNat) % 18446744073709551616) 64
        generalize Pop.cnt (y * 2 ^ (64 - (to % 64).toNat) % 18446744073709551616) 64 = p at *
        generalize cntOn on (64 * k) = z at *
        have hz : 0 ≤ (z : Int) := by omega
        have hp : 0 ≤ (p : Int) := by omega
        have hs0 : 0 ≤ 64 - to % 64 := by omega
        have hs1 : 64 - to % 64 < 64 := by omega
        have HSH := hid hsh
        clear hsh
        go_wp2_with (first | (go_at_call 190; refine (HSH.out _).mono ?_; rintro e w' ⟨rfl, rfl⟩))
        go_ret
        refine ⟨?_, rfl⟩
        rw [HS.out]
        rfl

set_option maxHeartbeats 400000 in
theorem bitsCount_any {b c n : Nat} {on : Nat → Bool} {w : World} (h : BitsR w b c n on) :
    Calls Tryz.prog 142 #[.pointer (some ⟨b, 0, none⟩)] w fun e w' => e = .returned (.int .i64 (cntOn on n : Nat)) ∧ w = w' := by
  have H := hid h
  clear h
  go_enter Tryz.func142, Tryz.ntmps142
  go_wp2_with (first | (go_at_call 162; refine (bitsLen_any H.out).mono ?_; rintro e w' ⟨rfl, rfl⟩) | (go_at_call 179; refine (bitsAhead_any H.out _ (by omega) (by omega)).mono ?_; rintro e w' ⟨rfl, rfl⟩))
  go_ret
  exact ⟨rfl, rfl⟩
end Go.Proofs.YtechphliifginaaGreatDoor

/- Arrays with gaps: what lies in memory; New, Cap, look, Put, At, Next, Len. -/
set_option linter.unusedVariables false
set_option linter.unusedSimpArgs false
namespace Go.Proofs.YtechphliifginaaGreatDoor
open Go.RowKit

/-- The cell of a slot: what is free holds the zero value. -/
def cellI : Option Int → Value
  | some x => .int .i64 x
  | none => .int .i64 0
def onOf {α : Type} (σ : List (Option α)) (i : Nat) : Bool := (σ.getD i none).isSome
theorem onOf_set {α : Type} (σ : List (Option α)) (i : Nat) (x : Option α) (hi : i < σ.length) : onOf (σ.set i x) = upd (onOf σ) i x.isSome := by
  funext j
  unfold onOf upd
  rw [List.getD_eq_getElem?_getD, List.getElem?_set]
  by_cases h : i = j
  · subst h; simp [hi]
  · rw [if_neg h, if_neg (fun e => h e.symm)]
    show _ = (σ.getD j none).isSome
    rw [List.getD_eq_getElem?_getD]
theorem onOf_out {α : Type} (σ : List (Option α)) (i : Nat) (hi : σ.length ≤ i) : onOf σ i = false := by
  unfold onOf
  rw [List.getD_eq_getElem?_getD, List.getElem?_eq_none hi]
  rfl
theorem onOf_none {α : Type} (n : Nat) : onOf (List.replicate n (none : Option α)) = fun _ => false := by
  funext j
  unfold onOf
  rw [List.getD_eq_getElem?_getD, List.getElem?_replicate]
  split <;> rfl

/-- What a slot's element is told to be; whether it is occupied. -/
def atV (σ : List (Option Int)) (i : Int) : Int := if 0 ≤ i then (σ.getD i.toNat none).getD 0 else 0
def atB {α : Type} (σ : List (Option α)) (i : Int) : Bool := decide (0 ≤ i) && onOf σ i.toNat

/-- The blocks of an array with gaps: its struct, its slots, its bits' struct, their words. -/
structure SF where
  s : Nat
  d : Nat
  b : Nat
  c : Nat
def SF.mem (f : SF) (k : Nat) : Prop := k = f.s ∨ k = f.d ∨ k = f.b ∨ k = f.c
/-- What a change of a slot turns. -/
def SF.chg (f : SF) (k : Nat) : Prop := k = f.d ∨ k = f.c
theorem SF.chg_mem {f : SF} {k : Nat} (h : f.chg k) : f.mem k := by rcases h with h | h <;> simp [SF.mem, h]

structure SlotsR (w : World) (f : SF) (σ : List (Option Int)) : Prop where
  bits : BitsR w f.b f.c σ.length (onOf σ)
  gs : NG ≤ f.s
  gd : NG ≤ f.d
  row : ∃ ex : List Value, Has w f.s [.slice (some ⟨f.d, 0, none⟩) σ.length (σ.length + ex.length), .pointer (some ⟨f.b, 0, none⟩)] 128 ∧ Has w f.d (σ.map cellI ++ ex) 3

theorem SlotsR.g {w : World} {f : SF} {σ : List (Option Int)} (h : SlotsR w f σ) : GW w := h.bits.g
theorem SlotsR.fr {w w' : World} {f : SF} {σ : List (Option Int)} {S : Nat → Prop} (h : SlotsR w f σ) (hf : Fr S w w') (hS : ∀ k, f.mem k → ¬ S k) : SlotsR w' f σ := by
  obtain ⟨ex, h1, h2⟩ := h.row
  exact ⟨h.bits.fr hf (hS _ (by simp [SF.mem])) (hS _ (by simp [SF.mem])), h.gs, h.gd, ex, h1.fr' hf (hS _ (by simp [SF.mem])), h2.fr' hf (hS _ (by simp [SF.mem]))⟩
theorem SlotsR.new {w w' : World} {f : SF} {σ : List (Option Int)} (h : SlotsR w f σ) (hf : Fr Nil1 w w') : SlotsR w' f σ := h.fr hf (fun _ _ h => h)
theorem SlotsR.ne {w : World} {f : SF} {σ : List (Option Int)} (h : SlotsR w f σ) : f.s ≠ f.d ∧ f.s ≠ f.b ∧ f.s ≠ f.c ∧ f.d ≠ f.b ∧ f.d ≠ f.c ∧ f.b ≠ f.c := by
  obtain ⟨ex, h1, h2⟩ := h.row
  obtain ⟨ws, ex', h3, h4, _⟩ := h.bits.row
  exact ⟨h1.ne h2 (by decide), h1.ne h3 (by decide), h1.ne h4 (by decide), h2.ne h3 (by decide), h2.ne h4 (by decide), h3.ne h4 (by decide)⟩
theorem SlotsR.lt {w : World} {f : SF} {σ : List (Option Int)} (h : SlotsR w f σ) : ∀ k, f.mem k → k < w.heap.size := by
  obtain ⟨ex, h1, h2⟩ := h.row
  obtain ⟨ws, ex', h3, h4, _⟩ := h.bits.row
  rintro k (rfl | rfl | rfl | rfl)
  · exact h1.lt
  · exact h2.lt
  · exact h3.lt
  · exact h4.lt
theorem SlotsR.ge {w : World} {f : SF} {σ : List (Option Int)} (h : SlotsR w f σ) : ∀ k, f.mem k → NG ≤ k := by
  rintro k (rfl | rfl | rfl | rfl)
  · exact h.gs
  · exact h.gd
  · exact h.bits.gb
  · exact h.bits.gc
theorem slots_get (σ : List (Option Int)) (ex : List Value) (k : Nat) (hk : k < σ.length) : (σ.map cellI ++ ex)[k]? = some (cellI (σ.getD k none)) := by
  rw [List.getElem?_append_left (by simpa using hk)]
  simp [List.getD_eq_getElem?_getD, List.getElem?_eq_getElem hk]
theorem cellI_form (o : Option Int) : cellI o = .int .i64 (o.getD 0) := by cases o <;> rfl
theorem slots_set (σ : List (Option Int)) (ex : List Value) (k : Nat) (x : Option Int) (hk : k < σ.length) : (σ.map cellI ++ ex).set k (cellI x) = (σ.set k x).map cellI ++ ex := by
  rw [List.set_append_left _ _ (by simpa using hk), List.map_set]

theorem info_int : (Tryz.prog.info? 3).map (fun i => (i.zero, i.size, i.bytes)) = some (some (.int .i64 0), 1, 8) := by kernel_rfl

set_option maxHeartbeats 400000 in
theorem gapsNew_ok (n : Int) (w : World) (h0 : 1 ≤ n) (hn : n ≤ 65536) (hg : GW w) :
    Calls Tryz.prog 69 #[.int .i64 n] w fun e w' => ∃ f : SF, e = .returned (.tuple #[.pointer (some ⟨f.s, 0, none⟩), .int .i64 0]) ∧ SlotsR w' f (List.replicate n.toNat none) ∧ Fr Nil1 w w' ∧ ∀ k, f.mem k → w.heap.size ≤ k := by
  have hmk := mk_row (P := Tryz.prog) 30 3 (.int .i64 0) 8 Tryz.underlying30 info_int rfl (by decide) n (by omega) (by omega)
  have Hg := hid hg
  have hG := hg.size
  clear hg
  go_enter Tryz.func69, Tryz.ntmps69
  go_wp2_with (first | (go_at_call 129; refine (bitsNew_ok n _ h0 hn Hg.out).mono ?_; rintro e w1 ⟨b, c, rfl, hb, hf, hb1, hc1⟩))
  go_ret2
  have fr1 := (hf.alloc (.cells (madeCells #[.int .i64 0] n.toNat) 3)).alloc (.cells #[.slice (some ⟨w1.heap.size, 0, none⟩) n.toNat n.toNat, .pointer (some ⟨b, 0, none⟩)] 128)
  have hs := hf.size
  refine ⟨⟨w1.heap.size + 1, w1.heap.size, b, c⟩, rfl, ⟨?_, by show NG ≤ w1.heap.size + 1; omega, by show NG ≤ w1.heap.size; omega, [], ?_, ?_⟩, fr1, ?_⟩
  · rw [onOf_none, List.length_replicate]
    exact hb.fr (((Fr.refl Nil1 w1).alloc _).alloc _) id id
  · have := Has.new (w1.alloc (.cells (madeCells #[.int .i64 0] n.toNat) 3)) [.slice (some ⟨w1.heap.size, 0, none⟩) n.toNat n.toNat, .pointer (some ⟨b, 0, none⟩)] 128
    rw [World.size_alloc] at this
    simpa using this
  · have := Has.made w1 (.int .i64 0) n.toNat 3
    have e : (List.replicate n.toNat (none : Option Int)).map cellI ++ [] = List.replicate n.toNat (.int .i64 0) := by simp [cellI]
    rw [e]
    exact this.alloc _
  · rintro k (rfl | rfl | rfl | rfl)
    · show _ ≤ w1.heap.size + 1; omega
    · exact hs
    · exact hb1
    · exact hc1

set_option maxHeartbeats 400000 in
theorem gapsNew_bad (n : Int) (w : World) (hn : n < 1 ∨ 65536 < n) :
    Calls Tryz.prog 69 #[.int .i64 n] w fun e w' => e = .returned (.tuple #[.pointer none, .int .i64 10]) ∧ w = w' := by
  have H := hid hn
  clear hn
  go_enter Tryz.func69, Tryz.ntmps69
  go_wp2_with (first | (go_at_call 129; refine (bitsNew_bad n _ H.out).mono ?_; rintro e w1 ⟨rfl, rfl⟩))
  go_ret2
  exact ⟨rfl, rfl⟩

set_option maxHeartbeats 400000 in
theorem gapsCap_any {f : SF} {σ : List (Option Int)} {w : World} (h : SlotsR w f σ) :
    Calls Tryz.prog 38 #[.pointer (some ⟨f.s, 0, none⟩)] w fun e w' => e = .returned (.int .i64 (σ.length : Nat)) ∧ w = w' := by
  obtain ⟨ex, h1, h2⟩ := h.row
  obtain ⟨c0, c1, f0⟩ := h1.two
  clear h h1 h2
  go_enter Tryz.func38, Tryz.ntmps38
  go_wp2
  go_ret
  exact ⟨rfl, rfl⟩

theorem gapsCap_nil (w : World) :
    Calls Tryz.prog 38 #[.pointer none] w fun e w' => e = .returned (.int .i64 0) ∧ w = w' := by
  go_enter Tryz.func38, Tryz.ntmps38
  go_wp2
  go_ret
  exact ⟨rfl, rfl⟩

set_option maxHeartbeats 400000 in
theorem gapsLook1_in {f : SF} {σ : List (Option Int)} {w : World} (h : SlotsR w f σ) (g : Nat) (i : Int) (hg : Has w g [.int .i64 i] 3) (h0 : 0 ≤ i) (h1 : i < σ.length) :
    Calls Tryz.prog 134 #[.pointer (some ⟨f.s, 0, none⟩), .slice (some ⟨g, 0, none⟩) 1 1] w fun e w' => e = .returned (.int .i64 0) ∧ w = w' := by
  obtain ⟨ex, r1, r2⟩ := h.row
  obtain ⟨c0, c1, f0⟩ := r1.two
  obtain ⟨g0, gf⟩ := hg.one
  clear h r1 r2 hg
  go_enter Tryz.func134, Tryz.ntmps134
  go_wp2_with fail
  go_loop [6, 11] (fun x k => ∃ j : Nat, j ≤ 1 ∧ k = .int .i64 j) (fun _ k => 1 - (intOf k).toNat)
  case atStart => exact ⟨0, by omega, rfl⟩
  case round =>
    obtain ⟨j, hj, rfl⟩ := hrel
    rcases (by omega : j = 0 ∨ j = 1) with rfl | rfl
    · go_wp2_with fail
      go_round
      case rel => exact ⟨1, by omega, rfl⟩
      case measure => simp [intOf]
    · go_wp2_with fail
      go_ret
      exact ⟨rfl, rfl⟩

set_option maxHeartbeats 400000 in
theorem gapsLook1_out {f : SF} {σ : List (Option Int)} {w : World} (h : SlotsR w f σ) (g : Nat) (i : Int) (hg : Has w g [.int .i64 i] 3) (h0 : i < 0 ∨ σ.length ≤ i) :
    Calls Tryz.prog 134 #[.pointer (some ⟨f.s, 0, none⟩), .slice (some ⟨g, 0, none⟩) 1 1] w fun e w' => e = .returned (.int .i64 10) ∧ w = w' := by
  obtain ⟨ex, r1, r2⟩ := h.row
  obtain ⟨c0, c1, f0⟩ := r1.two
  obtain ⟨g0, gf⟩ := hg.one
  clear h r1 r2 hg
  rcases h0 with h0 | h0
  all_goals
    go_enter Tryz.func134, Tryz.ntmps134
    go_wp2_with fail
    go_loop [6, 11] (fun x k => k = .int .i64 0) (fun _ k => 1)
    case atStart => rfl
    case round =>
      obtain rfl := hrel
      go_wp2_with fail
      go_ret
      exact ⟨rfl, rfl⟩

set_option maxHeartbeats 400000 in
theorem gapsAt_any {f : SF} {σ : List (Option Int)} {w : World} (h : SlotsR w f σ) (i : Int) :
    Calls Tryz.prog 39 #[.pointer (some ⟨f.s, 0, none⟩), .int .i64 i] w fun e w' => e = .returned (.tuple #[.int .i64 (atV σ i), .bool (atB σ i)]) ∧ w = w' := by
  have H := hid h.bits
  obtain ⟨ex, r1, r2⟩ := h.row
  obtain ⟨c0, c1, f0⟩ := r1.two
  cases hon : atB σ i
  · have hv : atV σ i = 0 := by
      unfold atV
      unfold atB at hon
      split
      · rename_i hi
        rw [decide_eq_true hi, Bool.true_and] at hon
        unfold onOf at hon
        cases e : σ.getD i.toNat none with
        | none => rfl
        | some x => rw [e] at hon; cases hon
      · rfl
    have HV := hid hv
    have hcall := bitsHas_any h.bits i
    rw [show (decide (0 ≤ i) && onOf σ i.toNat) = false from hon] at hcall
    have HC := hid hcall
    clear hon hv hcall h r1 r2
    go_enter Tryz.func39, Tryz.ntmps39
    go_wp2_with (first | (go_at_call 101; refine HC.out.mono ?_; rintro e w1 ⟨rfl, rfl⟩))
    go_ret2
    rw [HV.out]
    exact ⟨rfl, rfl⟩
  · have hi : 0 ≤ i := by
      unfold atB at hon
      rw [Bool.and_eq_true] at hon
      exact of_decide_eq_true hon.1
    have hlt : i < σ.length := by
      rcases Int.lt_or_le i σ.length with g | g
      · exact g
      · unfold atB at hon
        rw [onOf_out _ _ (by omega)] at hon
        simp at hon
    have hcell := r2.cell i.toNat
    rw [slots_get _ _ _ (by omega), cellI_form] at hcell
    have hcall := bitsHas_any h.bits i
    rw [show (decide (0 ≤ i) && onOf σ i.toNat) = true from hon] at hcall
    have HC := hid hcall
    clear hon hcall h r1 r2
    unfold atV
    rw [if_pos hi]
    generalize (σ.getD i.toNat none).getD 0 = x at *
    go_enter Tryz.func39, Tryz.ntmps39
    go_wp2_with (first | (go_at_call 101; refine HC.out.mono ?_; rintro e w1 ⟨rfl, rfl⟩))
    go_ret2
    exact ⟨rfl, rfl⟩

set_option maxHeartbeats 400000 in
theorem gapsNext_any {f : SF} {σ : List (Option Int)} {w : World} (h : SlotsR w f σ) (i : Int) (h0 : 0 ≤ i) :
    Calls Tryz.prog 133 #[.pointer (some ⟨f.s, 0, none⟩), .int .i64 i] w fun e w' => e = .returned (.int .i64 (nxt (onOf σ) σ.length i)) ∧ w = w' := by
  have H := hid h.bits
  obtain ⟨ex, r1, r2⟩ := h.row
  obtain ⟨c0, c1, f0⟩ := r1.two
  clear h r1 r2
  go_enter Tryz.func133, Tryz.ntmps133
  go_wp2_with (first | (go_at_call 174; refine (bitsNext_any H.out i h0).mono ?_; rintro e w1 ⟨rfl, rfl⟩))
  go_ret
  exact ⟨rfl, rfl⟩

set_option maxHeartbeats 400000 in
theorem gapsLen_any {f : SF} {σ : List (Option Int)} {w : World} (h : SlotsR w f σ) :
    Calls Tryz.prog 78 #[.pointer (some ⟨f.s, 0, none⟩)] w fun e w' => e = .returned (.int .i64 (cntOn (onOf σ) σ.length : Nat)) ∧ w = w' := by
  have H := hid h.bits
  obtain ⟨ex, r1, r2⟩ := h.row
  obtain ⟨c0, c1, f0⟩ := r1.two
  clear h r1 r2
  go_enter Tryz.func78, Tryz.ntmps78
  go_wp2_with (first | (go_at_call 142; refine (bitsCount_any H.out).mono ?_; rintro e w1 ⟨rfl, rfl⟩))
  go_ret
  exact ⟨rfl, rfl⟩

set_option maxHeartbeats 400000 in
theorem gapsPut_ok {f : SF} {σ : List (Option Int)} {w : World} (h : SlotsR w f σ) (i x : Int) (h0 : 0 ≤ i) (h1 : i < σ.length) (hfree : onOf σ i.toNat = false) :
    Calls Tryz.prog 80 #[.pointer (some ⟨f.s, 0, none⟩), .int .i64 i, .int .i64 x] w fun e w' => e = .returned (.int .i64 0) ∧ SlotsR w' f (σ.set i.toNat (some x)) ∧ Fr f.chg w w' := by
  have hfr : Fr Nil1 w (w.alloc (.cells #[.int .i64 i] 3)) := (Fr.refl _ _).alloc _
  have HR := hid (h.new hfr)
  have HG := hid (show Has (w.alloc (.cells #[.int .i64 i] 3)) w.heap.size [.int .i64 i] 3 from Has.new w _ _)
  obtain ⟨ex, r1, r2⟩ := HR.out.row
  obtain ⟨c0, c1, f0⟩ := r1.two
  have hcell := r2.cell i.toNat
  rw [slots_get _ _ _ (by omega), cellI_form] at hcell
  have hfz := r2.frozen
  obtain ⟨n1, n2, n3, n4, n5, n6⟩ := HR.out.ne
  have HF := hid hfree
  have HE := hid (⟨ex, r1, r2⟩ : ∃ ex : List Value, Has (w.alloc (.cells #[.int .i64 i] 3)) f.s [.slice (some ⟨f.d, 0, none⟩) σ.length (σ.length + ex.length), .pointer (some ⟨f.b, 0, none⟩)] 128 ∧ Has (w.alloc (.cells #[.int .i64 i] 3)) f.d (σ.map cellI ++ ex) 3)
  have HFr := hid hfr
  have hc0 : ((w.alloc (.cells #[.int .i64 i] 3)).setCell ⟨f.d, i.toNat, none⟩ (.int .i64 x)).cell? ⟨f.s, 1, none⟩ = some (.pointer (some ⟨f.b, 0, none⟩)) := ((r1.other _ n1).cell 1)
  have HB := hid (HR.out.bits.fr ((Fr.refl (fun k => k = f.d) _).setCell ⟨f.d, i.toNat, none⟩ (.int .i64 x) HR.out.gd (fun _ => rfl)) (fun e => n4 e.symm) (fun e => n5 e.symm))
  clear h hfree hfr r1 r2
  go_enter Tryz.func80, Tryz.ntmps80
  go_wp2_with (first | (go_at_call 134; refine (gapsLook1_in HR.out _ _ HG.out h0 h1).mono ?_; rintro e w1 ⟨rfl, rfl⟩) | (go_at_call 101; refine (bitsHas_any HR.out.bits i).mono ?_; rintro e w1 ⟨rfl, rfl⟩; rw [HF.out, Bool.and_false]) | (go_at_call 135; refine (bitsSet_ok HB.out i true h0 h1).mono ?_; rintro e w2 ⟨rfl, hb2, hf2⟩))
  go_ret
  obtain ⟨ex, r1, r2⟩ := HE.out
  have hs := (r2.set i.toNat (.int .i64 x))
  have e1 := slots_set σ ex i.toNat (some x) (by omega)
  rw [show cellI (some x) = Value.int .i64 x from rfl] at e1
  rw [e1] at hs
  have hfd : Fr (fun k => k = f.d) (w.alloc (.cells #[.int .i64 i] 3)) ((w.alloc (.cells #[.int .i64 i] 3)).setCell ⟨f.d, i.toNat, none⟩ (.int .i64 x)) := (Fr.refl (fun k => k = f.d) _).setCell ⟨f.d, i.toNat, none⟩ (.int .i64 x) HR.out.gd (fun _ => rfl)
  refine ⟨rfl, ⟨?_, HR.out.gs, HR.out.gd, ex, ?_, ?_⟩, ?_⟩
  · rw [List.length_set, onOf_set _ _ _ (by omega)]
    exact hb2
  · rw [List.length_set]
    exact (r1.other _ n1).fr' hf2 n3
  · exact hs.fr' hf2 n5
  · exact ((HFr.out.mono (fun _ _ h => h.elim)).trans' hfd (fun j _ _ h => .inl h)).trans' hf2 (fun j _ _ h => .inr h)

set_option maxHeartbeats 400000 in
theorem gapsPut_there {f : SF} {σ : List (Option Int)} {w : World} (h : SlotsR w f σ) (i x : Int) (h0 : 0 ≤ i) (h1 : i < σ.length) (hfree : onOf σ i.toNat = true) :
    Calls Tryz.prog 80 #[.pointer (some ⟨f.s, 0, none⟩), .int .i64 i, .int .i64 x] w fun e w' => e = .returned (.int .i64 15) ∧ Fr Nil1 w w' := by
  have hfr : Fr Nil1 w (w.alloc (.cells #[.int .i64 i] 3)) := (Fr.refl _ _).alloc _
  have HR := hid (h.new hfr)
  have HG := hid (show Has (w.alloc (.cells #[.int .i64 i] 3)) w.heap.size [.int .i64 i] 3 from Has.new w _ _)
  obtain ⟨ex, r1, r2⟩ := HR.out.row
  obtain ⟨c0, c1, f0⟩ := r1.two
  have HF := hid hfree
  have HFr := hid hfr
  have hd : decide (0 ≤ i) = true := decide_eq_true h0
  clear h hfree hfr r1 r2
  go_enter Tryz.func80, Tryz.ntmps80
  go_wp2_with (first | (go_at_call 134; refine (gapsLook1_in HR.out _ _ HG.out h0 h1).mono ?_; rintro e w1 ⟨rfl, rfl⟩) | (go_at_call 101; refine (bitsHas_any HR.out.bits i).mono ?_; rintro e w1 ⟨rfl, rfl⟩; rw [HF.out, hd]))
  go_ret
  exact ⟨rfl, HFr.out⟩

set_option maxHeartbeats 400000 in
theorem gapsPut_out {f : SF} {σ : List (Option Int)} {w : World} (h : SlotsR w f σ) (i x : Int) (h0 : i < 0 ∨ σ.length ≤ i) :
    Calls Tryz.prog 80 #[.pointer (some ⟨f.s, 0, none⟩), .int .i64 i, .int .i64 x] w fun e w' => e = .returned (.int .i64 10) ∧ Fr Nil1 w w' := by
  have hfr : Fr Nil1 w (w.alloc (.cells #[.int .i64 i] 3)) := (Fr.refl _ _).alloc _
  have HR := hid (h.new hfr)
  have HG := hid (show Has (w.alloc (.cells #[.int .i64 i] 3)) w.heap.size [.int .i64 i] 3 from Has.new w _ _)
  have HFr := hid hfr
  have H0 := hid h0
  clear h hfr h0
  go_enter Tryz.func80, Tryz.ntmps80
  go_wp2_with (first | (go_at_call 134; refine (gapsLook1_out HR.out _ _ HG.out H0.out).mono ?_; rintro e w1 ⟨rfl, rfl⟩))
  go_ret
  exact ⟨rfl, HFr.out⟩
end Go.Proofs.YtechphliifginaaGreatDoor
