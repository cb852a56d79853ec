/- The rows of bits: what lies in memory, and what New, Len, Set and Has do. -/
import Derived.Test.YtonoaklajnfmiaaDoorProg
import Derived.Test.YtonoaklajnfmiaaDoorK0
import Derived.Test.YtonoaklajnfmiaaDoorKBit
import Derived.Shelf.Spec.TrailingZeros
set_option linter.unusedVariables false
set_option linter.unusedSimpArgs false
namespace Go.Proofs.YtonoaklajnfmiaaDoor
open Go.RowKit

def words (ws : List Nat) : List Value := ws.map fun (v : Nat) => Value.int .u64 (v : Int)
/-- The library's table lies where it lay. -/
def Tab (w : World) : Prop := Go.Proofs.TabAt 0 Lib.deBruijn64tab w
/-- What every call may lean on: the package-level variables. -/
structure GW (w : World) : Prop where
  size : NG ≤ w.heap.size
  tab : Tab w
theorem GW.fr {S : Nat → Prop} {w w' : World} (h : GW w) (hf : Fr S w w') : GW w' :=
  ⟨Nat.le_trans h.size hf.size, fun j hj => (World.cell?_of_block (w := w) (a := ⟨0, j, none⟩) (hf.block 0 (Nat.lt_of_lt_of_le (by decide) h.size) (fun _ => by decide))).trans (h.tab j hj)⟩

/-- Block b is a row of n bits, its words in block c. -/
structure BitsR (w : World) (b c : Nat) (n : Nat) (on : Nat → Bool) : Prop where
  g : GW w
  gb : NG ≤ b
  gc : NG ≤ c
  n1 : 1 ≤ n
  n2 : n ≤ 65536
  row : ∃ (ws : List Nat) (ex : List Value), Has w b [.int .i64 n, .slice (some ⟨c, 0, none⟩) ws.length (ws.length + ex.length)] 105 ∧ Has w c (words ws ++ ex) 106 ∧ WOK ws n on

theorem BitsR.ne {w : World} {b c n : Nat} {on : Nat → Bool} (h : BitsR w b c n on) : b ≠ c := by
  obtain ⟨ws, ex, h1, h2, _⟩ := h.row
  exact h1.ne h2 (by decide)
theorem BitsR.fr {w w' : World} {b c n : Nat} {on : Nat → Bool} {S : Nat → Prop} (h : BitsR w b c n on) (hf : Fr S w w') (hb : ¬ S b) (hc : ¬ S c) : BitsR w' b c n on := by
  obtain ⟨ws, ex, h1, h2, h3⟩ := h.row
  exact ⟨h.g.fr hf, h.gb, h.gc, h.n1, h.n2, ws, ex, h1.fr' hf hb, h2.fr' hf hc, h3⟩
theorem words_get (ws : List Nat) (ex : List Value) (k : Nat) (hk : k < ws.length) : (words ws ++ ex)[k]? = some (.int .u64 (ws.getD k 0 : Nat)) := by
  rw [List.getElem?_append_left (by simpa [words] using hk)]
  simp [words, List.getD_eq_getElem?_getD, List.getElem?_eq_getElem hk]
theorem words_set (ws : List Nat) (ex : List Value) (k u : Nat) (hk : k < ws.length) : (words ws ++ ex).set k (.int .u64 u) = words (ws.set k u) ++ ex := by
  rw [List.set_append_left _ _ (by simpa [words] using hk)]
  simp [words, List.map_set]

theorem info_u64 : (Tryd.prog.info? 106).map (fun i => (i.zero, i.size, i.bytes)) = some (some (.int .u64 0), 1, 8) := by kernel_rfl

set_option maxHeartbeats 400000 in
set_option maxRecDepth 100000 in
theorem bitsNew_ok (n : Int) (w : World) (h0 : 1 ≤ n) (hn : n ≤ 65536) (hg : GW w) :
    Calls Tryd.prog 50 #[.int .i64 n] w fun e w' => ∃ b c, e = .returned (.tuple #[.pointer (some ⟨b, 0, none⟩), .int .i64 0]) ∧ BitsR w' b c n.toNat (fun _ => false) ∧ Fr Nil1 w w' ∧ w.heap.size ≤ b ∧ w.heap.size ≤ c := by
  have hmk := mk_row (P := Tryd.prog) 103 106 (.int .u64 0) 8 Tryd.underlying103 info_u64 rfl (by decide) ((n + 64 - 1) / 64) (by omega) (by omega)
  have H : Hid (WOK (List.replicate ((n.toNat + 63) / 64) 0) n.toNat fun _ => false) := hid (WOK.new n.toNat)
  have Hg := hid hg
  clear hg
  go_enter Tryd.func50, Tryd.ntmps50
  go_wp2
  go_ret2
  have hs : ((n + 64 - 1) / 64).toNat = (n.toNat + 63) / 64 := by omega
  have fr1 : Fr Nil1 w (w.alloc (.cells (madeCells #[.int .u64 0] ((n + 64 - 1) / 64).toNat) 106)) := (Fr.refl _ _).alloc _
  refine ⟨w.heap.size + 1, w.heap.size, rfl, ⟨(Hg.out.fr fr1).fr ((Fr.refl Nil1 _).alloc _), by have := Hg.out.size; omega, Hg.out.size, by omega, by omega, List.replicate ((n.toNat + 63) / 64) 0, [], ?_, ?_, H.out⟩, fr1.alloc _, by omega, by omega⟩
  · have := Has.new (w.alloc (.cells (madeCells #[.int .u64 0] ((n + 64 - 1) / 64).toNat) 106)) [.int .i64 n, .slice (some ⟨w.heap.size, 0, none⟩) ((n + 64 - 1) / 64).toNat ((n + 64 - 1) / 64).toNat] 105
    rw [World.size_alloc] at this
    simpa [hs, Int.toNat_of_nonneg (show 0 ≤ n by omega)] using this
  · have this := Has.made w (.int .u64 0) ((n + 64 - 1) / 64).toNat 106
    have e : words (List.replicate ((n.toNat + 63) / 64) 0) ++ [] = List.replicate ((n.toNat + 63) / 64) (.int .u64 0) := by simp [words]
    rw [e]
    rw [← hs]
    exact this.alloc _

set_option maxHeartbeats 400000 in
set_option maxRecDepth 100000 in
theorem bitsNew_bad (n : Int) (w : World) (hn : n < 1 ∨ 65536 < n) :
    Calls Tryd.prog 50 #[.int .i64 n] w fun e w' => e = .returned (.tuple #[.pointer none, .int .i64 10]) ∧ w = w' := by
  rcases hn with hn | hn
  all_goals
    go_enter Tryd.func50, Tryd.ntmps50
    go_wp2
    go_ret2
    exact ⟨rfl, rfl⟩

set_option maxHeartbeats 400000 in
theorem bitsLen_any {b c n : Nat} {on : Nat → Bool} {w : World} (h : BitsR w b c n on) :
    Calls Tryd.prog 68 #[.pointer (some ⟨b, 0, none⟩)] w fun e w' => e = .returned (.int .i64 n) ∧ w = w' := by
  obtain ⟨ws, ex, h1, h2, h3⟩ := h.row
  obtain ⟨c0, c1, f0⟩ := h1.two
  clear h
  go_enter Tryd.func68, Tryd.ntmps68
  go_wp2
  go_ret
  exact ⟨rfl, rfl⟩

set_option maxHeartbeats 400000 in
theorem bitsHas_any {b c n : Nat} {on : Nat → Bool} {w : World} (h : BitsR w b c n on) (i : Int) :
    Calls Tryd.prog 52 #[.pointer (some ⟨b, 0, none⟩), .int .i64 i] w fun e w' => e = .returned (.bool (decide (0 ≤ i) && on i.toNat)) ∧ w = w' := by
  have hlen := fun w' => @bitsLen_any b c n on w'
  have H := hid h
  have n2 := h.n2
  obtain ⟨ws, ex, h1, h2, h3⟩ := h.row
  obtain ⟨c0, c1, f0⟩ := h1.two
  clear h hlen
  by_cases hi0 : 0 ≤ i
  · by_cases hin : i < n
    · have hl : i / 64 < ws.length := by rw [h3.len]; omega
      have hc := h2.cell (i / 64).toNat
      rw [words_get ws ex _ (by omega)] at hc
      have hv := h3.lt (i / 64).toNat
      have hbit : on i.toNat = (ws.getD (i / 64).toNat 0).testBit (i % 64).toNat := by
        rw [h3.bit, bitAt, show (i / 64).toNat = i.toNat / 64 by omega, show (i % 64).toNat = i.toNat % 64 by omega]
      generalize ws.getD (i / 64).toNat 0 = v at *
      have Hb := hid hbit
      have Hv := hid hv
      clear hbit hv h1 h2 h3 f0
      have hm0 : 0 ≤ i % 64 := by omega
      have hm1 : i % 64 < 64 := by omega
      have v0 : (0 : Int) ≤ v := by omega
      go_enter Tryd.func52, Tryd.ntmps52
      go_wp2_with (first | (go_at_call 68; refine (bitsLen_any H.out).mono ?_; rintro e w' ⟨rfl, rfl⟩))
      go_ret
      refine ⟨?_, rfl⟩
      rw [Hb.out, ← has_word v _ Hv.out]
      simp [hi0]
    · have ho : on i.toNat = false := h3.out _ (by omega)
      have Ho := hid ho
      clear ho h1 h2 h3 f0
      go_enter Tryd.func52, Tryd.ntmps52
      go_wp2_with (first | (go_at_call 68; refine (bitsLen_any H.out).mono ?_; rintro e w' ⟨rfl, rfl⟩))
      go_ret
      refine ⟨?_, rfl⟩
      rw [Ho.out]
      simp
  · clear h1 h2 h3 f0
    go_enter Tryd.func52, Tryd.ntmps52
    go_wp2_with (first | (go_at_call 68; refine (bitsLen_any H.out).mono ?_; rintro e w' ⟨rfl, rfl⟩))
    go_ret
    refine ⟨?_, rfl⟩
    rw [decide_eq_false (by omega)]
    rfl

set_option maxHeartbeats 400000 in
theorem bitsSet_ok {b c n : Nat} {on : Nat → Bool} {w : World} (h : BitsR w b c n on) (i : Int) (v : Bool) (hi0 : 0 ≤ i) (hin : i < n) :
    Calls Tryd.prog 53 #[.pointer (some ⟨b, 0, none⟩), .int .i64 i, .bool v] w fun e w' => e = .returned (.int .i64 0) ∧ BitsR w' b c n (upd on i.toNat v) ∧ Fr (fun k => k = c) w w' := by
  have H := hid h
  have n2 := h.n2
  obtain ⟨ws, ex, h1, h2, h3⟩ := h.row
  obtain ⟨c0, c1, f0⟩ := h1.two
  have f1 := h2.frozen
  have hl : i / 64 < ws.length := by rw [h3.len]; omega
  have hc := h2.cell (i / 64).toNat
  rw [words_get ws ex _ (by omega)] at hc
  have hv := h3.lt (i / 64).toNat
  have e1 : (i / 64).toNat = i.toNat / 64 := by omega
  have e2 : (i % 64).toNat = i.toNat % 64 := by omega
  have fin : ∀ u : Nat, u < 18446744073709551616 → (∀ j, j < 64 → u.testBit j = if j = i.toNat % 64 then v else (ws.getD (i.toNat / 64) 0).testBit j) →
      BitsR (w.setCell ⟨c, (i / 64).toNat, none⟩ (.int .u64 u)) b c n (upd on i.toNat v) ∧ Fr (fun k => k = c) w (w.setCell ⟨c, (i / 64).toNat, none⟩ (.int .u64 u)) := by
    intro u hu hub
    have hf : Fr (fun k => k = c) w (w.setCell ⟨c, (i / 64).toNat, none⟩ (.int .u64 u)) := (Fr.refl _ _).setCell _ _ H.out.gc (fun _ => rfl)
    refine ⟨⟨H.out.g.fr hf, H.out.gb, H.out.gc, H.out.n1, H.out.n2, ws.set (i.toNat / 64) u, ex, ?_, ?_, h3.set i.toNat (by omega) v u hu hub⟩, hf⟩
    · rw [List.length_set]
      exact h1.fr' hf H.out.ne
    · rw [e1, ← words_set _ _ _ _ (by omega)]
      exact h2.set _ _
  have Hf := hid fin
  have He1 := hid e1
  have He2 := hid e2
  clear fin e1 e2 h1 h2 h3 f0 h
  generalize hv' : ws.getD (i / 64).toNat 0 = x at *
  have Hv := hid hv
  have Hv' := hid hv'
  clear hv hv'
  have hm0 : 0 ≤ i % 64 := by omega
  have hm1 : i % 64 < 64 := by omega
  have v0 : (0 : Int) ≤ x := by omega
  cases v
  · go_enter Tryd.func53, Tryd.ntmps53
    go_wp2
    go_ret
    refine ⟨rfl, ?_⟩
    rw [andNot_word x _ Hv.out (by omega)]
    refine Hf.out _ (andNot_lt _ _ Hv.out) (fun j hj => ?_)
    rw [andNot_bit _ _ _ (by omega) hj, He2.out, ← He1.out, Hv'.out]
  · go_enter Tryd.func53, Tryd.ntmps53
    go_wp2
    go_ret
    refine ⟨rfl, ?_⟩
    rw [or_word x _ Hv.out (by omega)]
    refine Hf.out _ (or_lt _ _ Hv.out (by omega)) (fun j hj => ?_)
    rw [or_bit, He2.out, ← He1.out, Hv'.out]
end Go.Proofs.YtonoaklajnfmiaaDoor
