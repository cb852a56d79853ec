/- In one: K0, KPop, KBit. -/
import Derived.WalkKit
import Derived.WalkSpells
import Derived.WalkLawsBesides
import Derived.BigQuiet
import Derived.Deep.QuietTactic
import Derived.Deep.OwnRows
import Derived.Lib.TrailingZeros
/- Words on worlds: 'Has' (a block holds these cells), 'Fr' (nothing has turned but the blocks of S, and new ones). No program in sight. -/
set_option linter.unusedVariables false
set_option linter.unusedSimpArgs false
namespace Go.Proofs.YtechphliifginaaGreatDoor
open Go.RowKit

theorem hid {p : Prop} (h : p) : Hid p := h

/-- How many package-level variables there are: they lie in the first blocks. -/
def NG : Nat := 2
/-- From w to w' nothing has turned but the blocks of S beyond the package-level variables, and new blocks. -/
structure Fr (S : Nat → Prop) (w w' : World) : Prop where
  os : w'.os = w.os
  tape : w'.tape = w.tape
  output : w'.output = w.output
  size : w.heap.size ≤ w'.heap.size
  block : ∀ k, k < w.heap.size → (S k → k < NG) → w'.heap[k]? = w.heap[k]?

/-- Block b holds just these cells, of this type, none of them frozen. -/
def Has (w : World) (b : Nat) (c : List Value) (T : TypeId) : Prop := w.heap[b]? = some (.cells c.toArray T (0, 0))

def Nil1 (_ : Nat) : Prop := False

namespace Fr
variable {S S' : Nat → Prop} {a b c w w' : World}
theorem refl (S : Nat → Prop) (w : World) : Fr S w w := ⟨rfl, rfl, rfl, Nat.le_refl _, fun _ _ _ => rfl⟩
theorem mono (h : Fr S w w') (hs : ∀ k, k < w.heap.size → S k → S' k) : Fr S' w w' := ⟨h.os, h.tape, h.output, h.size, fun k hk hn => h.block k hk (fun s => hn (hs k hk s))⟩
theorem trans' (h : Fr S a b) (k : Fr S' b c) (hs : ∀ j, NG ≤ j → j < a.heap.size → S' j → S j) : Fr S a c :=
  ⟨k.os.trans h.os, k.tape.trans h.tape, k.output.trans h.output, Nat.le_trans h.size k.size,
    fun j hj hn => (k.block j (Nat.lt_of_lt_of_le hj h.size) (fun s => by
      rcases Nat.lt_or_ge j NG with g | g
      · exact g
      · exact hn (hs j g hj s))).trans (h.block j hj hn)⟩
theorem trans (h : Fr S a b) (k : Fr S b c) : Fr S a c := h.trans' k (fun _ _ _ s => s)
theorem of_below (h : Below w.heap.size w w') : Fr S w w' := ⟨h.os, h.tape, h.output, h.size, fun k hk _ => h.block k hk⟩
theorem below (h : Fr Nil1 w w') : Below w.heap.size w w' := ⟨h.os, h.tape, h.output, h.size, fun k hk => h.block k hk (fun s => s.elim)⟩
theorem alloc (h : Fr S a w) (o : Obj) : Fr S a (w.alloc o) := h.trans (of_below ((Below.refl _ _).alloc (Nat.le_refl _) _))
theorem drew (h : Fr S a w) : Fr S a w.drew := ⟨h.os, h.tape, h.output, h.size, h.block⟩
theorem drewN (h : Fr S a w) (n : Nat) : Fr S a (w.drewN n) := ⟨h.os, h.tape, h.output, h.size, h.block⟩
theorem setCell (h : Fr S a w) (p : Addr) (v : Value) (hg : NG ≤ p.block) (hp : p.block < a.heap.size → S p.block) : Fr S a (w.setCell p v) :=
  h.trans' (S' := fun k => k = p.block) ⟨rfl, rfl, rfl, by simp [World.setCell], fun k _ hn => Below.heap_setCell w p v k (fun e => by have := hn e; omega)⟩ (fun j _ hj e => by subst e; exact hp hj)
/-- A store into a block of one's own. -/
theorem setNew (h : Fr S a w) (p : Addr) (v : Value) (hg : NG ≤ a.heap.size) (hp : a.heap.size ≤ p.block) : Fr S a (w.setCell p v) := h.setCell p v (Nat.le_trans hg hp) (fun h => by omega)
theorem grown (h : Fr S a w) {row : Option Nat} (hg : w.grownBy w' row) (hG : ∀ k, row = some k → NG ≤ k) (hr : ∀ k, row = some k → k < a.heap.size → S k) : Fr S a w' :=
  h.trans' (S' := fun k => row = some k) ⟨hg.os, hg.tape, hg.output, hg.size, fun k hk hn => hg.block k hk (fun e => by have := hG k e.symm; have := hn e.symm; omega)⟩ (fun j _ hj e => hr j e hj)
end Fr

namespace Has
variable {w w' : World} {b b' : Nat} {c c' : List Value} {T T' : TypeId}
theorem lt (h : Has w b c T) : b < w.heap.size := (Array.getElem?_eq_some_iff.1 h).1
theorem cell (h : Has w b c T) (i : Nat) : w.cell? ⟨b, i, none⟩ = c[i]? := by
  unfold Has at h
  simp [World.cell?, h]
theorem frozen (h : Has w b c T) (i : Nat) : w.frozen? ⟨b, i, none⟩ = false := by
  unfold Has at h
  simp [World.frozen?, h]
theorem set (h : Has w b c T) (i : Nat) (v : Value) : Has (w.setCell ⟨b, i, none⟩ v) b (c.set i v) T := by
  unfold Has at h ⊢
  simp [World.setCell, Array.getElem?_modify, h]
theorem other (h : Has w b c T) {p : Addr} (v : Value) (hne : b ≠ p.block) : Has (w.setCell p v) b c T := (Below.heap_setCell w p v b hne).trans h
theorem alloc (h : Has w b c T) (o : Obj) : Has (w.alloc o) b c T := (Below.heap_alloc w o b h.lt).trans h
theorem drew (h : Has w b c T) : Has w.drew b c T := h
theorem drewN (h : Has w b c T) (n : Nat) : Has (w.drewN n) b c T := h
theorem new (w : World) (c : List Value) (T : TypeId) : Has (w.alloc (.cells c.toArray T (0, 0))) w.heap.size c T := by
  show (w.heap.push _)[w.heap.size]? = _
  simp
theorem ne (h : Has w b c T) (h' : Has w b' c' T') (hT : T ≠ T') : b ≠ b' := by
  rintro rfl
  unfold Has at h h'
  rw [h] at h'
  injection h' with h'
  injection h' with _ ht
  exact hT ht
theorem ne_len (h : Has w b c T) (h' : Has w b' c' T') (hT : c.length ≠ c'.length) : b ≠ b' := by
  rintro rfl
  unfold Has at h h'
  rw [h] at h'
  injection h' with h'
  injection h' with hc ht
  exact hT (by rw [← List.size_toArray, hc, List.size_toArray])
theorem fr {S : Nat → Prop} (h : Has w b c T) (hf : Fr S w w') (hs : S b → b < NG) : Has w' b c T := (hf.block b h.lt hs).trans h
theorem fr' {S : Nat → Prop} (h : Has w b c T) (hf : Fr S w w') (hs : ¬ S b) : Has w' b c T := h.fr hf (fun s => (hs s).elim)
theorem below {B : Nat} (h : Has w b c T) (hf : Below B w w') (hs : b < B) : Has w' b c T := (hf.block b hs).trans h
theorem one {x : Value} (h : Has w b [x] T) : w.cell? ⟨b, 0, none⟩ = some x ∧ ∀ i, w.frozen? ⟨b, i, none⟩ = false := ⟨h.cell 0, h.frozen⟩
theorem two {x y : Value} (h : Has w b [x, y] T) : w.cell? ⟨b, 0, none⟩ = some x ∧ w.cell? ⟨b, 1, none⟩ = some y ∧ ∀ i, w.frozen? ⟨b, i, none⟩ = false := ⟨h.cell 0, h.cell 1, h.frozen⟩
theorem three {x y z : Value} (h : Has w b [x, y, z] T) : w.cell? ⟨b, 0, none⟩ = some x ∧ w.cell? ⟨b, 1, none⟩ = some y ∧ w.cell? ⟨b, 2, none⟩ = some z ∧ ∀ i, w.frozen? ⟨b, i, none⟩ = false := ⟨h.cell 0, h.cell 1, h.cell 2, h.frozen⟩
end Has

theorem quiet_eq {P : Program} {f : FuncId} {args : Array Value} {w : World} {n : Nat} {v : Value}
    (h : Calls P f args (w.drewN n) fun e w' => e = .returned v ∧ w.drewN n = w') : Calls P f args (w.drewN n) fun e w'' => e = .returned v ∧ ∃ m, w'' = w.drewN m :=
  h.mono fun _ _ ⟨he, hm⟩ => ⟨he, n, hm.symm⟩
theorem madeCells_one (z : Value) (n : Nat) : madeCells #[z] n = (List.replicate n z).toArray := by
  apply Array.ext
  · simp [madeCells]
  · intro i h1 h2
    simp [madeCells, Nat.mod_one]
theorem Has.made (w : World) (z : Value) (n : Nat) (T : TypeId) : Has (w.alloc (.cells (madeCells #[z] n) T (0, 0))) w.heap.size (List.replicate n z) T := by
  rw [madeCells_one]; exact Has.new w _ T
/-- 'make([]T, m)', laid ahead of a walk. -/
theorem mk_row {P : Program} (t e : TypeId) (z : Value) (bytes : Nat) (ht : P.underlying t = some (.slice e)) (hinfo : (P.info? e).map (fun i => (i.zero, i.size, i.bytes)) = some (some z, 1, bytes)) (hz : z.cells = #[z]) (hb : bytes ≤ 64)
    (m : Int) (h0 : 0 ≤ m) (hm : m ≤ 1000000000) : ∀ W : World, (Instr.makeSlice t (.int .i64 m) (.int .i64 m)).run P W = .ok (.slice (some ⟨W.heap.size, 0, none⟩) m.toNat m.toNat) (W.alloc (.cells (madeCells #[z] m.toNat) e)) := by
  intro W
  obtain ⟨n, rfl⟩ := Int.eq_ofNat_of_zero_le h0
  have h1 : bytes * n ≤ 64 * n := Nat.mul_le_mul_right n hb
  exact run_make_row' t e z bytes ht hinfo hz .i64 .i64 n (by omega) (by omega) W
end Go.Proofs.YtechphliifginaaGreatDoor

/- Plain numbers: how many bits of a word are set, by the way of bytes. No program in sight. -/
set_option linter.unusedVariables false
set_option linter.unusedSimpArgs false
namespace Go.Proofs.YtechphliifginaaGreatDoor.Pop
open Go

/-- How many of the first n bits of v are set. -/
def cnt (v : Nat) : Nat → Nat
  | 0 => 0
  | n + 1 => cnt v n + (v.testBit n).toNat

theorem cnt_le (v : Nat) : ∀ n, cnt v n ≤ n
  | 0 => Nat.le_refl 0
  | n + 1 => by have := cnt_le v n; unfold cnt; cases v.testBit n <;> simp <;> omega
theorem cnt_add (v m : Nat) : ∀ n, cnt v (m + n) = cnt v m + cnt (v / 2 ^ m) n
  | 0 => rfl
  | n + 1 => by
    show cnt v (m + n) + _ = _
    rw [cnt_add v m n]
    show _ = cnt v m + (cnt (v / 2 ^ m) n + _)
    rw [Nat.testBit_div_two_pow, Nat.add_comm n m, Nat.add_assoc]; rfl
theorem cnt_mod (v : Nat) (m : Nat) : ∀ n, n ≤ m → cnt (v % 2 ^ m) n = cnt v n
  | 0, _ => rfl
  | n + 1, h => by
    unfold cnt
    rw [cnt_mod v m n (by omega), Nat.testBit_mod_two_pow]
    simp [show n < m by omega]

theorem and256 (y r M m : Nat) (hr : r < 256) (hm : m < 256) : (256 * y + r) &&& (256 * M + m) = 256 * (y &&& M) + (r &&& m) := by
  have h1 : r &&& m < 256 := Nat.lt_of_le_of_lt Nat.and_le_left hr
  apply Nat.eq_of_testBit_eq
  intro j
  rw [Nat.testBit_and]
  rcases Nat.lt_or_ge j 8 with h | h
  · rw [← Nat.mod_add_div (256 * y + r) 256, ← Nat.mod_add_div (256 * M + m) 256, ← Nat.mod_add_div (256 * (y &&& M) + (r &&& m)) 256]
    have t : ∀ a b : Nat, (a % 256 + 256 * b).testBit j = (a % 256).testBit j := fun a b => by
      have := Nat.testBit_mod_two_pow (a % 256 + 256 * b) 8 j
      simp only [h, decide_true, Bool.true_and] at this
      rw [← this]
      congr 1
      omega
    rw [t, t, t]
    rw [show (256 * y + r) % 256 = r by omega, show (256 * M + m) % 256 = m by omega, show (256 * (y &&& M) + (r &&& m)) % 256 = r &&& m by omega, Nat.testBit_and]
  · obtain ⟨i, rfl⟩ : ∃ i, j = 8 + i := ⟨j - 8, by omega⟩
    have t : ∀ a b : Nat, b < 256 → (256 * a + b).testBit (8 + i) = a.testBit i := fun a b hb => by
      have := Nat.testBit_div_two_pow (x := 256 * a + b) (i := i) (n := 8)
      rw [show (256 * a + b) / 2 ^ 8 = a by omega] at this
      rw [this, Nat.add_comm i 8]
    rw [t _ _ hr, t _ _ hm, t _ _ h1, Nat.testBit_and]

def mask (m : Nat) : Nat → Nat
  | 0 => 0
  | k + 1 => 256 * mask m k + m
def s1 (b : Nat) : Nat := (b / 2 &&& 85) + (b &&& 85)
def s2 (b : Nat) : Nat := (b / 4 &&& 51) + (b &&& 51)
def S1 (k x : Nat) : Nat := (x / 2 &&& mask 85 k) + (x &&& mask 85 k)
def S2 (k x : Nat) : Nat := (x / 4 &&& mask 51 k) + (x &&& mask 51 k)
def S3 (k x : Nat) : Nat := (x / 16 + x) &&& mask 15 k
theorem half_1 : ∀ c < 2, ∀ r < 256, (128 * c + r / 2) &&& 85 = r / 2 &&& 85 := by decide +kernel
theorem half_2 : ∀ c < 4, ∀ r < 256, (64 * c + r / 4) &&& 51 = r / 4 &&& 51 := by decide +kernel
theorem half_3 : ∀ c < 5, ∀ b < 256, (16 * c + s2 (s1 b) / 16 + s2 (s1 b)) < 256 ∧ (16 * c + s2 (s1 b) / 16 + s2 (s1 b)) &&& 15 = cnt b 8 := by decide +kernel
theorem s1_lt : ∀ b < 256, s1 b < 256 := by decide +kernel
theorem s2_lt : ∀ b < 256, s2 b < 256 := by decide +kernel
theorem s2_nib : ∀ b < 256, s2 (s1 b) % 16 < 5 := by decide +kernel
theorem S1_step (k y r : Nat) (hr : r < 256) : S1 (k + 1) (256 * y + r) = 256 * S1 k y + s1 r := by
  unfold S1 s1
  have e : (256 * y + r) / 2 = 256 * (y / 2) + (128 * (y % 2) + r / 2) := by omega
  rw [e]
  show (_ &&& (256 * mask 85 k + 85)) + (_ &&& (256 * mask 85 k + 85)) = _
  rw [and256 _ _ _ _ (by omega) (by omega), and256 _ _ _ _ hr (by omega), half_1 _ (by omega) r hr]
  omega
theorem S2_step (k y r : Nat) (hr : r < 256) : S2 (k + 1) (256 * y + r) = 256 * S2 k y + s2 r := by
  unfold S2 s2
  have e : (256 * y + r) / 4 = 256 * (y / 4) + (64 * (y % 4) + r / 4) := by omega
  rw [e]
  show (_ &&& (256 * mask 51 k + 51)) + (_ &&& (256 * mask 51 k + 51)) = _
  rw [and256 _ _ _ _ (by omega) (by omega), and256 _ _ _ _ hr (by omega), half_2 _ (by omega) r hr]
  omega
theorem S12_nib (k x : Nat) : S2 k (S1 k x) % 16 < 5 := by
  cases k with
  | zero => simp [S1, S2, mask]
  | succ k =>
    have hr : x % 256 < 256 := Nat.mod_lt _ (by omega)
    have hx : x = 256 * (x / 256) + x % 256 := by omega
    rw [hx, S1_step _ _ _ hr, S2_step _ _ _ (s1_lt _ hr)]
    have := s2_nib _ hr
    omega
theorem S3_step (k y b : Nat) (hb : b < 256) : S3 (k + 1) (S2 (k + 1) (S1 (k + 1) (256 * y + b))) = 256 * S3 k (S2 k (S1 k y)) + cnt b 8 := by
  rw [S1_step _ _ _ hb, S2_step _ _ _ (s1_lt _ hb)]
  have hn := S12_nib k y
  generalize S2 k (S1 k y) = z at *
  obtain ⟨h1, h2⟩ := half_3 (z % 16) hn b hb
  unfold S3
  have e : (256 * z + s2 (s1 b)) / 16 + (256 * z + s2 (s1 b)) = 256 * (z / 16 + z) + (16 * (z % 16) + s2 (s1 b) / 16 + s2 (s1 b)) := by omega
  rw [e]
  show _ &&& (256 * mask 15 k + 15) = _
  rw [and256 _ _ _ _ h1 (by omega), h2]
def sum (k x : Nat) : Nat := S3 k (S2 k (S1 k x))
theorem sum_step (k x : Nat) : sum (k + 1) x = 256 * sum k (x / 256) + cnt x 8 := by
  have hr : x % 256 < 256 := Nat.mod_lt _ (by omega)
  have hx : x = 256 * (x / 256) + x % 256 := by omega
  have h := S3_step k (x / 256) (x % 256) hr
  rw [← hx] at h
  unfold sum
  rw [h, show (256 : Nat) = 2 ^ 8 from rfl, cnt_mod x 8 8 (by omega)]
/-- The last three rows of the library's function. -/
def last (x : Nat) : Nat :=
  let a := (x + x / 256) % 18446744073709551616
  let b := (a + a / 65536) % 18446744073709551616
  let c := (b + b / 4294967296) % 18446744073709551616
  c % 128
theorem st1 (p0 p1 p2 Y1 Y2 Y3 X : Nat) (h0 : p0 ≤ 8) (h1 : p1 ≤ 8) (h2 : p2 ≤ 8) (hX : X = 256 * Y1 + p0) (hY1 : Y1 = 256 * Y2 + p1) (hY2 : Y2 = 256 * Y3 + p2) : X / 256 = Y1 ∧ (X + Y1) / 65536 = Y2 + Y3 := by omega
theorem bd (p Y Z M : Nat) (hp : p ≤ 8) (hM : Z ≤ M) (h : Y = 256 * Z + p) : Y ≤ 256 * M + 8 := by omega
theorem st2 (p0 p1 p2 p3 p4 p5 p6 p7 Y1 Y2 Y3 Y4 X : Nat) (h0 : p0 ≤ 8) (h1 : p1 ≤ 8) (h2 : p2 ≤ 8) (h3 : p3 ≤ 8) (h4 : p4 ≤ 8) (h5 : p5 ≤ 8) (h6 : p6 ≤ 8) (h7 : p7 ≤ 8) (Y5 Y6 Y7 : Nat)
    (hX : X = 4294967296 * Y4 + (p0 + 256 * p1 + 65536 * p2 + 16777216 * p3)) (hY1 : Y1 = 4294967296 * Y5 + (p1 + 256 * p2 + 65536 * p3 + 16777216 * p4)) (hY2 : Y2 = 4294967296 * Y6 + (p2 + 256 * p3 + 65536 * p4 + 16777216 * p5))
    (hY3 : Y3 = 4294967296 * Y7 + (p3 + 256 * p4 + 65536 * p5 + 16777216 * p6)) : (X + Y1 + (Y2 + Y3)) / 4294967296 = Y4 + Y5 + Y6 + Y7 := by
  have e : X + Y1 + (Y2 + Y3) = 4294967296 * (Y4 + Y5 + Y6 + Y7) + ((p0 + 256 * p1 + 65536 * p2 + 16777216 * p3) + (p1 + 256 * p2 + 65536 * p3 + 16777216 * p4) + (p2 + 256 * p3 + 65536 * p4 + 16777216 * p5) + (p3 + 256 * p4 + 65536 * p5 + 16777216 * p6)) := by omega
  have l : ((p0 + 256 * p1 + 65536 * p2 + 16777216 * p3) + (p1 + 256 * p2 + 65536 * p3 + 16777216 * p4) + (p2 + 256 * p3 + 65536 * p4 + 16777216 * p5) + (p3 + 256 * p4 + 65536 * p5 + 16777216 * p6)) < 4294967296 := by omega
  rw [e, Nat.mul_add_div (by omega), Nat.div_eq_of_lt l]
  rfl
theorem st3 (p0 p1 p2 p3 p4 p5 p6 p7 a0 a1 a2 a3 a4 a5 a6 a7 : Nat) (h0 : p0 ≤ 8) (h1 : p1 ≤ 8) (h2 : p2 ≤ 8) (h3 : p3 ≤ 8) (h4 : p4 ≤ 8) (h5 : p5 ≤ 8) (h6 : p6 ≤ 8) (h7 : p7 ≤ 8) :
    (256 * a0 + p0 + (256 * a1 + p1) + (256 * a2 + p2 + (256 * a3 + p3)) + (256 * a4 + p4 + (256 * a5 + p5) + (256 * a6 + p6) + (256 * a7 + p7))) % 128 = p0 + (p1 + (p2 + (p3 + (p4 + (p5 + (p6 + p7)))))) := by
  have e : (256 * a0 + p0 + (256 * a1 + p1) + (256 * a2 + p2 + (256 * a3 + p3)) + (256 * a4 + p4 + (256 * a5 + p5) + (256 * a6 + p6) + (256 * a7 + p7))) = 128 * (2 * (a0 + a1 + a2 + a3 + a4 + a5 + a6 + a7)) + (p0 + (p1 + (p2 + (p3 + (p4 + (p5 + (p6 + p7))))))) := by omega
  rw [e, Nat.mul_add_mod, Nat.mod_eq_of_lt (by omega)]
theorem last_eq (p0 p1 p2 p3 p4 p5 p6 p7 : Nat) (h0 : p0 ≤ 8) (h1 : p1 ≤ 8) (h2 : p2 ≤ 8) (h3 : p3 ≤ 8) (h4 : p4 ≤ 8) (h5 : p5 ≤ 8) (h6 : p6 ≤ 8) (h7 : p7 ≤ 8) (Y1 Y2 Y3 Y4 Y5 Y6 Y7 X : Nat)
    (e0 : X = 256 * Y1 + p0) (e1 : Y1 = 256 * Y2 + p1) (e2 : Y2 = 256 * Y3 + p2) (e3 : Y3 = 256 * Y4 + p3) (e4 : Y4 = 256 * Y5 + p4) (e5 : Y5 = 256 * Y6 + p5) (e6 : Y6 = 256 * Y7 + p6) (e7 : Y7 = 256 * 0 + p7) :
    last X = p0 + (p1 + (p2 + (p3 + (p4 + (p5 + (p6 + p7)))))) := by
  have b7 := bd p7 Y7 0 0 h7 (Nat.le_refl 0) e7
  have b6 := bd _ _ _ _ h6 b7 e6
  have b5 := bd _ _ _ _ h5 b6 e5
  have b4 := bd _ _ _ _ h4 b5 e4
  have b3 := bd _ _ _ _ h3 b4 e3
  have b2 := bd _ _ _ _ h2 b3 e2
  have b1 := bd _ _ _ _ h1 b2 e1
  have b0 := bd _ _ _ _ h0 b1 e0
  simp only [Nat.mul_zero, Nat.zero_add, Nat.reduceMul, Nat.reduceAdd] at b0 b1 b2 b3 b4 b5 b6 b7
  obtain ⟨f1, f2⟩ := st1 p0 p1 p2 Y1 Y2 Y3 X h0 h1 h2 e0 e1 e2
  have f3 := st2 p0 p1 p2 p3 p4 p5 p6 p7 Y1 Y2 Y3 Y4 X h0 h1 h2 h3 h4 h5 h6 h7 Y5 Y6 Y7 (by clear b0 b1 b2 b3 b4 b5 b6 b7 f1 f2; omega) (by clear b0 b1 b2 b3 b4 b5 b6 b7 f1 f2; omega) (by clear b0 b1 b2 b3 b4 b5 b6 b7 f1 f2; omega) (by clear b0 b1 b2 b3 b4 b5 b6 b7 f1 f2; omega)
  have f4 := st3 p0 p1 p2 p3 p4 p5 p6 p7 Y1 Y2 Y3 Y4 Y5 Y6 Y7 0 h0 h1 h2 h3 h4 h5 h6 h7
  rw [← e0, ← e1, ← e2, ← e3, ← e4, ← e5, ← e6, ← e7] at f4
  clear e0 e1 e2 e3 e4 e5 e6 e7
  unfold last
  have m1 : (X + Y1) % 18446744073709551616 = X + Y1 := Nat.mod_eq_of_lt (by clear f2 f3 f4; omega)
  have m2 : (X + Y1 + (Y2 + Y3)) % 18446744073709551616 = X + Y1 + (Y2 + Y3) := Nat.mod_eq_of_lt (by clear f2 f3 f4 m1; omega)
  have m3 : (X + Y1 + (Y2 + Y3) + (Y4 + Y5 + Y6 + Y7)) % 18446744073709551616 = X + Y1 + (Y2 + Y3) + (Y4 + Y5 + Y6 + Y7) := Nat.mod_eq_of_lt (by clear f2 f3 f4 m1 m2; omega)
  simp only [f1, m1, f2, m2, f3, m3]
  exact f4
theorem last_sum (x : Nat) : last (sum 8 x) = cnt x 64 := by
  have e : cnt x 64 = cnt x 8 + (cnt (x / 256) 8 + (cnt (x / 256 / 256) 8 + (cnt (x / 256 / 256 / 256) 8 + (cnt (x / 256 / 256 / 256 / 256) 8 + (cnt (x / 256 / 256 / 256 / 256 / 256) 8 + (cnt (x / 256 / 256 / 256 / 256 / 256 / 256) 8 + cnt (x / 256 / 256 / 256 / 256 / 256 / 256 / 256) 8)))))) := by
    rw [show 64 = 8 + (8 + (8 + (8 + (8 + (8 + (8 + 8)))))) from rfl]
    rw [cnt_add, cnt_add, cnt_add, cnt_add, cnt_add, cnt_add, cnt_add]
  have z : ∀ y, sum 0 y = 0 := fun y => by simp [sum, S3, mask]
  rw [e]
  exact last_eq _ _ _ _ _ _ _ _ (cnt_le _ _) (cnt_le _ _) (cnt_le _ _) (cnt_le _ _) (cnt_le _ _) (cnt_le _ _) (cnt_le _ _) (cnt_le _ _) _ _ _ _ _ _ _ _ (sum_step _ _) (sum_step _ _) (sum_step _ _) (sum_step _ _) (sum_step _ _) (sum_step _ _) (sum_step _ _) (by rw [sum_step, z])
end Go.Proofs.YtechphliifginaaGreatDoor.Pop

/- Plain words: bits in words of 64. No program in sight. -/
set_option linter.unusedVariables false
set_option linter.unusedSimpArgs false
namespace Go.Proofs.YtechphliifginaaGreatDoor
open Go Go.RowKit

/-- The bits that words hold. -/
def bitAt (ws : List Nat) (i : Nat) : Bool := (ws.getD (i / 64) 0).testBit (i % 64)
/-- Words for n bits, that are just those of 'on'. -/
structure WOK (ws : List Nat) (n : Nat) (on : Nat → Bool) : Prop where
  len : ws.length = (n + 63) / 64
  lt : ∀ k, ws.getD k 0 < 18446744073709551616
  bit : ∀ i, on i = bitAt ws i
  out : ∀ i, n ≤ i → on i = false

def upd (on : Nat → Bool) (i : Nat) (v : Bool) : Nat → Bool := fun j => if j = i then v else on j
theorem upd_same (on : Nat → Bool) (i : Nat) (v : Bool) : upd on i v i = v := by simp [upd]

theorem WOK.new (n : Nat) : WOK (List.replicate ((n + 63) / 64) 0) n (fun _ => false) := by
  have g : ∀ m k, (List.replicate m 0).getD k 0 = 0 := fun m k => by
    rw [List.getD_eq_getElem?_getD, List.getElem?_replicate]
    split <;> rfl
  refine ⟨by simp, fun k => by rw [g]; omega, fun i => ?_, fun _ _ => rfl⟩
  unfold bitAt
  rw [g]
  simp

theorem getD_set (ws : List Nat) (k v j : Nat) (hk : k < ws.length) : (ws.set k v).getD j 0 = if j = k then v else ws.getD j 0 := by
  rw [List.getD_eq_getElem?_getD, List.getD_eq_getElem?_getD, List.getElem?_set]
  by_cases h : k = j
  · subst h
    simp [hk]
  · rw [if_neg h, if_neg (fun e => h e.symm)]

theorem WOK.set {ws : List Nat} {n : Nat} {on : Nat → Bool} (h : WOK ws n on) (i : Nat) (hi : i < n) (b : Bool) (u : Nat) (hu : u < 18446744073709551616)
    (hb : ∀ j, j < 64 → u.testBit j = if j = i % 64 then b else (ws.getD (i / 64) 0).testBit j) : WOK (ws.set (i / 64) u) n (upd on i b) := by
  have hk : i / 64 < ws.length := by rw [h.len]; omega
  refine ⟨by rw [List.length_set]; exact h.len, fun k => ?_, fun j => ?_, fun j hj => ?_⟩
  · rw [getD_set _ _ _ _ hk]
    split
    · exact hu
    · exact h.lt k
  · unfold bitAt upd
    rw [getD_set _ _ _ _ hk]
    by_cases e : j / 64 = i / 64
    · rw [if_pos e, hb _ (Nat.mod_lt _ (by omega))]
      by_cases e2 : j = i
      · subst e2; simp
      · rw [if_neg e2, if_neg (by omega), h.bit j, bitAt, e]
    · rw [if_neg e, if_neg (by rintro rfl; exact e rfl), h.bit j, bitAt]
  · unfold upd
    rw [if_neg (by omega), h.out j hj]

theorem cast_pow (v s : Nat) : ((v : Int) / 2 ^ s) = ((v / 2 ^ s : Nat) : Int) := by
  rw [Int.natCast_ediv, Int.natCast_pow]; rfl
theorem has_word (v s : Nat) (hv : v < 18446744073709551616) : (bits BinOp.and IntKind.u64 ((v : Int) / 2 ^ s) 1 == 1) = v.testBit s := by
  have hd : v / 2 ^ s < 18446744073709551616 := Nat.lt_of_le_of_lt (Nat.div_le_self _ _) hv
  rw [cast_pow, show (1 : Int) = ((1 : Nat) : Int) from rfl, u64_and_nat _ _ hd (by omega), Nat.testBit, Nat.shiftRight_eq_div_pow, Nat.and_comm 1]
  rw [Bool.eq_iff_iff]
  simp only [beq_iff_eq, bne_iff_ne]
  have := Nat.and_one_is_mod (v / 2 ^ s)
  omega
theorem pow_lt64 (s : Nat) (hs : s < 64) : 2 ^ s < 18446744073709551616 := by
  have h : 2 ^ s < 2 ^ 64 := Nat.pow_lt_pow_right (by omega) hs
  rwa [show (2 : Nat) ^ 64 = 18446744073709551616 from rfl] at h
theorem wrap_pow (s : Nat) (hs : s < 64) : IntKind.u64.wrap (2 ^ s) = ((2 ^ s : Nat) : Int) := by
  have h := pow_lt64 s hs
  rw [IntKind.wrap_u64, show ((2 : Int) ^ s) = ((2 ^ s : Nat) : Int) by rw [Int.natCast_pow]; rfl]
  generalize 2 ^ s = p at *
  omega
theorem or_word (v s : Nat) (hv : v < 18446744073709551616) (hs : s < 64) : bits BinOp.or IntKind.u64 (v : Int) (IntKind.u64.wrap (2 ^ s)) = ((v ||| 2 ^ s : Nat) : Int) := by
  rw [wrap_pow s hs, u64_or_nat _ _ hv (pow_lt64 s hs)]
theorem andNot_word (v s : Nat) (hv : v < 18446744073709551616) (hs : s < 64) : bits BinOp.andNot IntKind.u64 (v : Int) (IntKind.u64.wrap (2 ^ s)) = ((v &&& (18446744073709551615 - 2 ^ s) : Nat) : Int) := by
  rw [wrap_pow s hs, u64_andNot_nat _ _ hv (pow_lt64 s hs)]
theorem or_lt (v s : Nat) (hv : v < 18446744073709551616) (hs : s < 64) : v ||| 2 ^ s < 18446744073709551616 := Nat.or_lt_two_pow (n := 64) hv (pow_lt64 s hs)
theorem andNot_lt (v s : Nat) (hv : v < 18446744073709551616) : v &&& (18446744073709551615 - 2 ^ s) < 18446744073709551616 := Nat.lt_of_le_of_lt Nat.and_le_left hv
theorem or_bit (v s j : Nat) : (v ||| 2 ^ s).testBit j = if j = s then true else v.testBit j := by
  rw [Nat.testBit_or, Nat.testBit_two_pow]
  by_cases h : j = s
  · subst h; simp
  · rw [if_neg h]; simp [show ¬ s = j from fun e => h e.symm]
theorem andNot_bit (v s j : Nat) (hs : s < 64) (hj : j < 64) : (v &&& (18446744073709551615 - 2 ^ s)).testBit j = if j = s then false else v.testBit j := by
  rw [Nat.testBit_and]
  have := Nat.testBit_two_pow_sub_succ (n := 64) (x := 2 ^ s) (pow_lt64 s hs) j
  rw [show 2 ^ 64 - (2 ^ s + 1) = 18446744073709551615 - 2 ^ s by omega] at this
  rw [this, Nat.testBit_two_pow]
  by_cases h : j = s
  · subst h; simp
  · rw [if_neg h]; simp [show ¬ s = j from fun e => h e.symm, hj]

/-! ### The library's OnesCount64 -/
open Pop in
theorem mask85 : mask 85 8 = 6148914691236517205 := by decide +kernel
open Pop in
theorem mask51 : mask 51 8 = 3689348814741910323 := by decide +kernel
open Pop in
theorem mask15 : mask 15 8 = 1085102592571150095 := by decide +kernel
def o1 (x : Int) : Int := IntKind.u64.wrap (bits BinOp.and IntKind.u64 (x / 2) 6148914691236517205 + bits BinOp.and IntKind.u64 x 6148914691236517205)
def o2 (x : Int) : Int := IntKind.u64.wrap (bits BinOp.and IntKind.u64 (x / 4) 3689348814741910323 + bits BinOp.and IntKind.u64 x 3689348814741910323)
def o3 (x : Int) : Int := bits BinOp.and IntKind.u64 (IntKind.u64.wrap (x / 16 + x)) 1085102592571150095
def o4 (x : Int) : Int := IntKind.u64.wrap (x + x / 256)
def o5 (x : Int) : Int := IntKind.u64.wrap (x + x / 65536)
def o6 (x : Int) : Int := IntKind.u64.wrap (x + x / 4294967296)
def o7 (x : Int) : Int := bits BinOp.and IntKind.i64 (wrap64 x) 127
theorem div_cast (x k : Nat) : ((x : Int) / (k : Int)) = ((x / k : Nat) : Int) := by rw [Int.natCast_ediv]
open Pop in
theorem o1_eq (x : Nat) (hx : x < 18446744073709551616) : o1 x = (S1 8 x : Nat) ∧ S1 8 x < 18446744073709551616 := by
  have h1 : x / 2 &&& 6148914691236517205 ≤ 6148914691236517205 := Nat.and_le_right
  have h2 : x &&& 6148914691236517205 ≤ 6148914691236517205 := Nat.and_le_right
  unfold o1 S1
  rw [mask85, show ((x : Int) / 2) = ((x / 2 : Nat) : Int) from div_cast x 2, show (6148914691236517205 : Int) = ((6148914691236517205 : Nat) : Int) from rfl, u64_and_nat _ _ (by omega) (by omega), u64_and_nat _ _ hx (by omega), IntKind.wrap_u64]
  generalize (x / 2 &&& 6148914691236517205) = a at *
  generalize (x &&& 6148914691236517205) = b at *
  omega
open Pop in
theorem o2_eq (x : Nat) (hx : x < 18446744073709551616) : o2 x = (S2 8 x : Nat) ∧ S2 8 x < 18446744073709551616 := by
  have h1 : x / 4 &&& 3689348814741910323 ≤ 3689348814741910323 := Nat.and_le_right
  have h2 : x &&& 3689348814741910323 ≤ 3689348814741910323 := Nat.and_le_right
  unfold o2 S2
  rw [mask51, show ((x : Int) / 4) = ((x / 4 : Nat) : Int) from div_cast x 4, show (3689348814741910323 : Int) = ((3689348814741910323 : Nat) : Int) from rfl, u64_and_nat _ _ (by omega) (by omega), u64_and_nat _ _ hx (by omega), IntKind.wrap_u64]
  generalize (x / 4 &&& 3689348814741910323) = a at *
  generalize (x &&& 3689348814741910323) = b at *
  omega
open Pop in
theorem o3_eq (x : Nat) (hx : x < 9223372036854775808) : o3 x = (S3 8 x : Nat) ∧ S3 8 x < 18446744073709551616 := by
  have h1 : (x / 16 + x) &&& 1085102592571150095 ≤ 1085102592571150095 := Nat.and_le_right
  unfold o3 S3
  have e : IntKind.u64.wrap ((x : Int) / 16 + (x : Int)) = ((x / 16 + x : Nat) : Int) := by
    rw [IntKind.wrap_u64, show ((x : Int) / 16) = ((x / 16 : Nat) : Int) from div_cast x 16]
    omega
  rw [mask15, e, show (1085102592571150095 : Int) = ((1085102592571150095 : Nat) : Int) from rfl, u64_and_nat _ _ (by omega) (by omega)]
  generalize ((x / 16 + x) &&& 1085102592571150095) = a at *
  omega
theorem o4_eq (x : Nat) : o4 x = ((x + x / 256) % 18446744073709551616 : Nat) := by
  unfold o4
  rw [IntKind.wrap_u64, show ((x : Int) / 256) = ((x / 256 : Nat) : Int) from div_cast x 256]
  omega
theorem o5_eq (x : Nat) : o5 x = ((x + x / 65536) % 18446744073709551616 : Nat) := by
  unfold o5
  rw [IntKind.wrap_u64, show ((x : Int) / 65536) = ((x / 65536 : Nat) : Int) from div_cast x 65536]
  omega
theorem o6_eq (x : Nat) : o6 x = ((x + x / 4294967296) % 18446744073709551616 : Nat) := by
  unfold o6
  rw [IntKind.wrap_u64, show ((x : Int) / 4294967296) = ((x / 4294967296 : Nat) : Int) from div_cast x 4294967296]
  omega
theorem o7_eq (x : Nat) (hx : x < 18446744073709551616) : o7 x = (x % 128 : Nat) := by
  unfold o7
  have hm : x &&& 127 = x % 128 := Nat.and_two_pow_sub_one_eq_mod x 7
  have e : (BitVec.ofInt 64 (wrap64 (x : Int))).toNat = x := by
    rw [BitVec.toNat_ofInt]
    unfold wrap64
    omega
  have e2 : (BitVec.ofInt 64 (127 : Int)).toNat = 127 := by decide
  show IntKind.i64.wrap ((BitVec.ofInt 64 (wrap64 (x : Int)) &&& BitVec.ofInt 64 127).toNat : Int) = _
  rw [BitVec.toNat_and, e, e2, hm, IntKind.wrap_i64]
  omega
open Pop in
theorem S2_small (x : Nat) : S2 8 x < 9223372036854775808 := by
  have h1 : x / 4 &&& 3689348814741910323 ≤ 3689348814741910323 := Nat.and_le_right
  have h2 : x &&& 3689348814741910323 ≤ 3689348814741910323 := Nat.and_le_right
  unfold S2
  rw [mask51]
  omega
theorem ones_eq (v : Nat) (hv : v < 18446744073709551616) : o7 (o6 (o5 (o4 (o3 (o2 (o1 v)))))) = (Pop.cnt v 64 : Nat) := by
  obtain ⟨e1, l1⟩ := o1_eq v hv
  obtain ⟨e2, l2⟩ := o2_eq _ l1
  obtain ⟨e3, l3⟩ := o3_eq _ (S2_small (Pop.S1 8 v))
  rw [e1, e2, e3, o4_eq, o5_eq, o6_eq, o7_eq _ (Nat.mod_lt _ (by omega)), ← Pop.last_sum]
  rfl

/-! ### The first bit that is set from one on, and the last one ahead -/
def nxtF (on : Nat → Bool) : Nat → Nat → Int
  | 0, _ => -1
  | f + 1, i => if on i then (i : Int) else nxtF on f (i + 1)
/-- The first one from i on, of n; -1: there is none. -/
def nxt (on : Nat → Bool) (n : Nat) (i : Int) : Int := nxtF on (n - i.toNat) i.toNat
def prvF (on : Nat → Bool) : Nat → Int
  | 0 => -1
  | i + 1 => if on i then (i : Int) else prvF on i
/-- The last one up to i, of n; -1: there is none. -/
def prv (on : Nat → Bool) (n : Nat) (i : Int) : Int := prvF on (min (i + 1) n).toNat
theorem nxtF_none (on : Nat → Bool) : ∀ f i, (∀ j, i ≤ j → j < i + f → on j = false) → nxtF on f i = -1
  | 0, _, _ => rfl
  | f + 1, i, h => by
    unfold nxtF
    rw [h i (Nat.le_refl _) (by omega)]
    exact nxtF_none on f (i + 1) (fun j h1 h2 => h j (by omega) (by omega))
theorem nxtF_some (on : Nat → Bool) (r : Nat) (hr : on r = true) : ∀ f i, i ≤ r → r < i + f → (∀ j, i ≤ j → j < r → on j = false) → nxtF on f i = r
  | 0, _, h1, h2, _ => by omega
  | f + 1, i, h1, h2, h => by
    unfold nxtF
    by_cases e : i = r
    · subst e; rw [hr]; rfl
    · rw [h i (Nat.le_refl _) (by omega)]
      exact nxtF_some on r hr f (i + 1) (by omega) (by omega) (fun j h1 h2 => h j (by omega) (by omega))
theorem nxt_none {on : Nat → Bool} {n : Nat} {i : Int} (h : ∀ j, i.toNat ≤ j → j < n → on j = false) : nxt on n i = -1 :=
  nxtF_none on _ _ (fun j h1 h2 => h j h1 (by omega))
theorem nxt_some {on : Nat → Bool} {n : Nat} {i : Int} (r : Nat) (h1 : i.toNat ≤ r) (h2 : r < n) (hr : on r = true) (h : ∀ j, i.toNat ≤ j → j < r → on j = false) : nxt on n i = r :=
  nxtF_some on r hr _ _ h1 (by omega) h
theorem prvF_none (on : Nat → Bool) : ∀ i, (∀ j, j < i → on j = false) → prvF on i = -1
  | 0, _ => rfl
  | i + 1, h => by
    unfold prvF
    rw [h i (by omega)]
    exact prvF_none on i (fun j h1 => h j (by omega))
theorem prvF_some (on : Nat → Bool) (r : Nat) (hr : on r = true) : ∀ i, r < i → (∀ j, r < j → j < i → on j = false) → prvF on i = r
  | 0, h1, _ => by omega
  | i + 1, h1, h => by
    unfold prvF
    by_cases e : i = r
    · subst e; rw [hr]; rfl
    · rw [h i (by omega) (by omega)]
      exact prvF_some on r hr i (by omega) (fun j h1 h2 => h j h1 (by omega))
/-- What 'nxt' tells. -/
theorem nxt_cases (on : Nat → Bool) (n : Nat) (i : Int) : (nxt on n i = -1 ∧ ∀ j, i.toNat ≤ j → j < n → on j = false) ∨
    ∃ r : Nat, nxt on n i = r ∧ i.toNat ≤ r ∧ r < n ∧ on r = true ∧ ∀ j, i.toNat ≤ j → j < r → on j = false := by
  by_cases h : ∃ r, i.toNat ≤ r ∧ r < n ∧ on r = true
  · have : ∃ r, (i.toNat ≤ r ∧ r < n ∧ on r = true) ∧ ∀ j, j < r → ¬ (i.toNat ≤ j ∧ j < n ∧ on j = true) := by
      obtain ⟨r0, h0⟩ := h
      induction r0 using Nat.strongRecOn with
      | _ r0 ih =>
        by_cases hh : ∃ j, j < r0 ∧ (i.toNat ≤ j ∧ j < n ∧ on j = true)
        · obtain ⟨j, hj, hj'⟩ := hh; exact ih j hj hj'
        · exact ⟨r0, h0, fun j hj hj' => hh ⟨j, hj, hj'⟩⟩
    obtain ⟨r, ⟨h1, h2, h3⟩, h4⟩ := this
    have h5 : ∀ j, i.toNat ≤ j → j < r → on j = false := fun j a b => by
      cases e : on j
      · rfl
      · exact (h4 j b ⟨a, by omega, e⟩).elim
    exact .inr ⟨r, nxt_some r h1 h2 h3 h5, h1, h2, h3, h5⟩
  · have h5 : ∀ j, i.toNat ≤ j → j < n → on j = false := fun j a b => by
      cases e : on j
      · rfl
      · exact (h ⟨j, a, b, e⟩).elim
    exact .inl ⟨nxt_none h5, h5⟩

/-- How many of the first i are set. -/
def cntOn (on : Nat → Bool) : Nat → Nat
  | 0 => 0
  | i + 1 => cntOn on i + (on i).toNat
theorem cntOn_le (on : Nat → Bool) : ∀ i, cntOn on i ≤ i
  | 0 => Nat.le_refl 0
  | i + 1 => by have := cntOn_le on i; unfold cntOn; cases on i <;> simp <;> omega
theorem cntOn_word (on : Nat → Bool) (b v : Nat) : ∀ m, (∀ j, j < m → on (b + j) = v.testBit j) → cntOn on (b + m) = cntOn on b + Pop.cnt v m
  | 0, _ => rfl
  | m + 1, h => by
    show cntOn on (b + m) + (on (b + m)).toNat = _ + (_ + (v.testBit m).toNat)
    rw [cntOn_word on b v m (fun j hj => h j (by omega)), h m (by omega), Nat.add_assoc]

/-! ### The lowest bit -/
theorem ctz_spec (x : Nat) (hx : x < 18446744073709551616) (h0 : x ≠ 0) : Lib.ctz 64 x < 64 ∧ x.testBit (Lib.ctz 64 x) = true ∧ ∀ j, j < Lib.ctz 64 x → x.testBit j = false := by
  unfold Lib.ctz
  rw [if_neg h0]
  obtain ⟨m, hm, hc⟩ := Lib.ctzFrom_spec 64 x (by omega) (by exact hx)
  generalize Lib.ctzFrom 64 x = c at *
  refine ⟨hc, ?_, fun j hj => ?_⟩
  · rw [hm, Nat.testBit_two_pow_mul]
    simp
  · rw [hm, Nat.testBit_two_pow_mul]
    simp [show ¬ c ≤ j by omega]
theorem zero_bits (x : Nat) (hx : x < 18446744073709551616) (h : ∀ j, j < 64 → x.testBit j = false) : x = 0 := by
  apply Nat.eq_of_testBit_eq
  intro j
  rcases Nat.lt_or_ge j 64 with hj | hj
  · rw [h j hj]; simp
  · rw [Nat.testBit_lt_two_pow (Nat.lt_of_lt_of_le (show x < 2 ^ 64 from hx) (Nat.pow_le_pow_right (by omega) hj))]; simp
/-- v >> s << s -/
theorem high_bits (v s j : Nat) (hs : s < 64) (hj : j < 64) : (v / 2 ^ s * 2 ^ s % 18446744073709551616).testBit j = (decide (s ≤ j) && v.testBit j) := by
  rw [show 18446744073709551616 = 2 ^ 64 from rfl, Nat.testBit_mod_two_pow, Nat.mul_comm, Nat.testBit_two_pow_mul, Nat.testBit_div_two_pow]
  by_cases h : s ≤ j
  · rw [show j - s + s = j by omega]; simp [h, hj]
  · simp [h]
theorem high_eq (v s : Nat) : IntKind.u64.wrap ((v : Int) / 2 ^ s * 2 ^ s) = ((v / 2 ^ s * 2 ^ s % 18446744073709551616 : Nat) : Int) := by
  rw [cast_pow, IntKind.wrap_u64, show ((2 : Int) ^ s) = ((2 ^ s : Nat) : Int) by rw [Int.natCast_pow]; rfl, ← Int.natCast_mul]
  rfl
/-- v << (64 - m) : its bits are the first m. -/
theorem low_cnt (v m : Nat) (hm : m ≤ 64) : Pop.cnt (v * 2 ^ (64 - m) % 18446744073709551616) 64 = Pop.cnt v m := by
  rw [show 18446744073709551616 = 2 ^ 64 from rfl, Pop.cnt_mod _ _ _ (Nat.le_refl _)]
  have z : ∀ s k x, k ≤ s → Pop.cnt (x * 2 ^ s) k = 0 := by
    intro s k x
    induction k with
    | zero => intro _; rfl
    | succ k ih =>
      intro hk
      unfold Pop.cnt
      rw [ih (by omega), Nat.mul_comm, Nat.testBit_two_pow_mul]
      simp [show ¬ s ≤ k by omega]
  have := Pop.cnt_add (v * 2 ^ (64 - m)) (64 - m) m
  rw [show 64 - m + m = 64 by omega, z _ _ _ (Nat.le_refl _), Nat.mul_div_cancel _ (Nat.pow_pos (by omega))] at this
  omega
theorem shl_eq (v s : Nat) : IntKind.u64.wrap ((v : Int) * 2 ^ s) = ((v * 2 ^ s % 18446744073709551616 : Nat) : Int) := by
  rw [IntKind.wrap_u64, show ((2 : Int) ^ s) = ((2 ^ s : Nat) : Int) by rw [Int.natCast_pow]; rfl, ← Int.natCast_mul]
  rfl
end Go.Proofs.YtechphliifginaaGreatDoor
