/- Words on worlds: 'Has' (a block holds these cells), 'Fr' (nothing has turned but the blocks of S, and new ones). No program in sight. -/
import Derived.WalkKit
import Derived.WalkSpells
import Derived.WalkLawsBesides
import Derived.BigQuiet
import Derived.Deep.QuietTactic
import Derived.Deep.OwnRows
set_option linter.unusedVariables false
set_option linter.unusedSimpArgs false
namespace Go.Proofs.YtonoaklajnfmiaaDoor
open Go.RowKit

theorem hid {p : Prop} (h : p) : Hid p := h

/-- How many package-level variables there are: they lie in the first blocks. -/
def NG : Nat := 1
/-- From w to w' nothing has turned but the blocks of S beyond the package-level variables, and new blocks. -/
structure Fr (S : Nat → Prop) (w w' : World) : Prop where
  os : w'.os = w.os
  tape : w'.tape = w.tape
  output : w'.output = w.output
  size : w.heap.size ≤ w'.heap.size
  block : ∀ k, k < w.heap.size → (S k → k < NG) → w'.heap[k]? = w.heap[k]?

/-- Block b holds just these cells, of this type, none of them frozen. -/
def Has (w : World) (b : Nat) (c : List Value) (T : TypeId) : Prop := w.heap[b]? = some (.cells c.toArray T (0, 0))

def Nil1 (_ : Nat) : Prop := False

namespace Fr
variable {S S' : Nat → Prop} {a b c w w' : World}
theorem refl (S : Nat → Prop) (w : World) : Fr S w w := ⟨rfl, rfl, rfl, Nat.le_refl _, fun _ _ _ => rfl⟩
theorem mono (h : Fr S w w') (hs : ∀ k, k < w.heap.size → S k → S' k) : Fr S' w w' := ⟨h.os, h.tape, h.output, h.size, fun k hk hn => h.block k hk (fun s => hn (hs k hk s))⟩
theorem trans' (h : Fr S a b) (k : Fr S' b c) (hs : ∀ j, NG ≤ j → j < a.heap.size → S' j → S j) : Fr S a c :=
  ⟨k.os.trans h.os, k.tape.trans h.tape, k.output.trans h.output, Nat.le_trans h.size k.size,
    fun j hj hn => (k.block j (Nat.lt_of_lt_of_le hj h.size) (fun s => by
      rcases Nat.lt_or_ge j NG with g | g
      · exact g
      · exact hn (hs j g hj s))).trans (h.block j hj hn)⟩
theorem trans (h : Fr S a b) (k : Fr S b c) : Fr S a c := h.trans' k (fun _ _ _ s => s)
theorem of_below (h : Below w.heap.size w w') : Fr S w w' := ⟨h.os, h.tape, h.output, h.size, fun k hk _ => h.block k hk⟩
theorem below (h : Fr Nil1 w w') : Below w.heap.size w w' := ⟨h.os, h.tape, h.output, h.size, fun k hk => h.block k hk (fun s => s.elim)⟩
theorem alloc (h : Fr S a w) (o : Obj) : Fr S a (w.alloc o) := h.trans (of_below ((Below.refl _ _).alloc (Nat.le_refl _) _))
theorem drew (h : Fr S a w) : Fr S a w.drew := ⟨h.os, h.tape, h.output, h.size, h.block⟩
theorem drewN (h : Fr S a w) (n : Nat) : Fr S a (w.drewN n) := ⟨h.os, h.tape, h.output, h.size, h.block⟩
theorem setCell (h : Fr S a w) (p : Addr) (v : Value) (hg : NG ≤ p.block) (hp : p.block < a.heap.size → S p.block) : Fr S a (w.setCell p v) :=
  h.trans' (S' := fun k => k = p.block) ⟨rfl, rfl, rfl, by simp [World.setCell], fun k _ hn => Below.heap_setCell w p v k (fun e => by have := hn e; omega)⟩ (fun j _ hj e => by subst e; exact hp hj)
/-- A store into a block of one's own. -/
theorem setNew (h : Fr S a w) (p : Addr) (v : Value) (hg : NG ≤ a.heap.size) (hp : a.heap.size ≤ p.block) : Fr S a (w.setCell p v) := h.setCell p v (Nat.le_trans hg hp) (fun h => by omega)
theorem grown (h : Fr S a w) {row : Option Nat} (hg : w.grownBy w' row) (hG : ∀ k, row = some k → NG ≤ k) (hr : ∀ k, row = some k → k < a.heap.size → S k) : Fr S a w' :=
  h.trans' (S' := fun k => row = some k) ⟨hg.os, hg.tape, hg.output, hg.size, fun k hk hn => hg.block k hk (fun e => by have := hG k e.symm; have := hn e.symm; omega)⟩ (fun j _ hj e => hr j e hj)
end Fr

namespace Has
variable {w w' : World} {b b' : Nat} {c c' : List Value} {T T' : TypeId}
theorem lt (h : Has w b c T) : b < w.heap.size := (Array.getElem?_eq_some_iff.1 h).1
theorem cell (h : Has w b c T) (i : Nat) : w.cell? ⟨b, i, none⟩ = c[i]? := by
  unfold Has at h
  simp [World.cell?, h]
theorem frozen (h : Has w b c T) (i : Nat) : w.frozen? ⟨b, i, none⟩ = false := by
  unfold Has at h
  simp [World.frozen?, h]
theorem set (h : Has w b c T) (i : Nat) (v : Value) : Has (w.setCell ⟨b, i, none⟩ v) b (c.set i v) T := by
  unfold Has at h ⊢
  simp [World.setCell, Array.getElem?_modify, h]
theorem other (h : Has w b c T) {p : Addr} (v : Value) (hne : b ≠ p.block) : Has (w.setCell p v) b c T := (Below.heap_setCell w p v b hne).trans h
theorem alloc (h : Has w b c T) (o : Obj) : Has (w.alloc o) b c T := (Below.heap_alloc w o b h.lt).trans h
theorem drew (h : Has w b c T) : Has w.drew b c T := h
theorem drewN (h : Has w b c T) (n : Nat) : Has (w.drewN n) b c T := h
theorem new (w : World) (c : List Value) (T : TypeId) : Has (w.alloc (.cells c.toArray T (0, 0))) w.heap.size c T := by
  show (w.heap.push _)[w.heap.size]? = _
  simp
theorem ne (h : Has w b c T) (h' : Has w b' c' T') (hT : T ≠ T') : b ≠ b' := by
  rintro rfl
  unfold Has at h h'
  rw [h] at h'
  injection h' with h'
  injection h' with _ ht
  exact hT ht
theorem ne_len (h : Has w b c T) (h' : Has w b' c' T') (hT : c.length ≠ c'.length) : b ≠ b' := by
  rintro rfl
  unfold Has at h h'
  rw [h] at h'
  injection h' with h'
  injection h' with hc ht
  exact hT (by rw [← List.size_toArray, hc, List.size_toArray])
theorem fr {S : Nat → Prop} (h : Has w b c T) (hf : Fr S w w') (hs : S b → b < NG) : Has w' b c T := (hf.block b h.lt hs).trans h
theorem fr' {S : Nat → Prop} (h : Has w b c T) (hf : Fr S w w') (hs : ¬ S b) : Has w' b c T := h.fr hf (fun s => (hs s).elim)
theorem below {B : Nat} (h : Has w b c T) (hf : Below B w w') (hs : b < B) : Has w' b c T := (hf.block b hs).trans h
theorem one {x : Value} (h : Has w b [x] T) : w.cell? ⟨b, 0, none⟩ = some x ∧ ∀ i, w.frozen? ⟨b, i, none⟩ = false := ⟨h.cell 0, h.frozen⟩
theorem two {x y : Value} (h : Has w b [x, y] T) : w.cell? ⟨b, 0, none⟩ = some x ∧ w.cell? ⟨b, 1, none⟩ = some y ∧ ∀ i, w.frozen? ⟨b, i, none⟩ = false := ⟨h.cell 0, h.cell 1, h.frozen⟩
theorem three {x y z : Value} (h : Has w b [x, y, z] T) : w.cell? ⟨b, 0, none⟩ = some x ∧ w.cell? ⟨b, 1, none⟩ = some y ∧ w.cell? ⟨b, 2, none⟩ = some z ∧ ∀ i, w.frozen? ⟨b, i, none⟩ = false := ⟨h.cell 0, h.cell 1, h.cell 2, h.frozen⟩
end Has

theorem quiet_eq {P : Program} {f : FuncId} {args : Array Value} {w : World} {n : Nat} {v : Value}
    (h : Calls P f args (w.drewN n) fun e w' => e = .returned v ∧ w.drewN n = w') : Calls P f args (w.drewN n) fun e w'' => e = .returned v ∧ ∃ m, w'' = w.drewN m :=
  h.mono fun _ _ ⟨he, hm⟩ => ⟨he, n, hm.symm⟩
theorem madeCells_one (z : Value) (n : Nat) : madeCells #[z] n = (List.replicate n z).toArray := by
  apply Array.ext
  · simp [madeCells]
  · intro i h1 h2
    simp [madeCells, Nat.mod_one]
theorem Has.made (w : World) (z : Value) (n : Nat) (T : TypeId) : Has (w.alloc (.cells (madeCells #[z] n) T (0, 0))) w.heap.size (List.replicate n z) T := by
  rw [madeCells_one]; exact Has.new w _ T
/-- 'make([]T, m)', laid ahead of a walk. -/
theorem mk_row {P : Program} (t e : TypeId) (z : Value) (bytes : Nat) (ht : P.underlying t = some (.slice e)) (hinfo : (P.info? e).map (fun i => (i.zero, i.size, i.bytes)) = some (some z, 1, bytes)) (hz : z.cells = #[z]) (hb : bytes ≤ 64)
    (m : Int) (h0 : 0 ≤ m) (hm : m ≤ 1000000000) : ∀ W : World, (Instr.makeSlice t (.int .i64 m) (.int .i64 m)).run P W = .ok (.slice (some ⟨W.heap.size, 0, none⟩) m.toNat m.toNat) (W.alloc (.cells (madeCells #[z] m.toNat) e)) := by
  intro W
  obtain ⟨n, rfl⟩ := Int.eq_ofNat_of_zero_le h0
  have h1 : bytes * n ≤ 64 * n := Nat.mul_le_mul_right n hb
  exact run_make_row' t e z bytes ht hinfo hz .i64 .i64 n (by omega) (by omega) W
end Go.Proofs.YtonoaklajnfmiaaDoor
