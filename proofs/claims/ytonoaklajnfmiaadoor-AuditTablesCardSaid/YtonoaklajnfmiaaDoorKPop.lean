/- Plain numbers: how many bits of a word are set, by the way of bytes. No program in sight. -/
import Derived.WalkKit
import Derived.WalkLawsBesides
set_option linter.unusedVariables false
set_option linter.unusedSimpArgs false
namespace Go.Proofs.YtonoaklajnfmiaaDoor.Pop
open Go

/-- How many of the first n bits of v are set. -/
def cnt (v : Nat) : Nat → Nat
  | 0 => 0
  | n + 1 => cnt v n + (v.testBit n).toNat

theorem cnt_le (v : Nat) : ∀ n, cnt v n ≤ n
  | 0 => Nat.le_refl 0
  | n + 1 => by have := cnt_le v n; unfold cnt; cases v.testBit n <;> simp <;> omega
theorem cnt_add (v m : Nat) : ∀ n, cnt v (m + n) = cnt v m + cnt (v / 2 ^ m) n
  | 0 => rfl
  | n + 1 => by
    show cnt v (m + n) + _ = _
    rw [cnt_add v m n]
    show _ = cnt v m + (cnt (v / 2 ^ m) n + _)
    rw [Nat.testBit_div_two_pow, Nat.add_comm n m, Nat.add_assoc]; rfl
theorem cnt_mod (v : Nat) (m : Nat) : ∀ n, n ≤ m → cnt (v % 2 ^ m) n = cnt v n
  | 0, _ => rfl
  | n + 1, h => by
    unfold cnt
    rw [cnt_mod v m n (by omega), Nat.testBit_mod_two_pow]
    simp [show n < m by omega]

theorem and256 (y r M m : Nat) (hr : r < 256) (hm : m < 256) : (256 * y + r) &&& (256 * M + m) = 256 * (y &&& M) + (r &&& m) := by
  have h1 : r &&& m < 256 := Nat.lt_of_le_of_lt Nat.and_le_left hr
  apply Nat.eq_of_testBit_eq
  intro j
  rw [Nat.testBit_and]
  rcases Nat.lt_or_ge j 8 with h | h
  · rw [← Nat.mod_add_div (256 * y + r) 256, ← Nat.mod_add_div (256 * M + m) 256, ← Nat.mod_add_div (256 * (y &&& M) + (r &&& m)) 256]
    have t : ∀ a b : Nat, (a % 256 + 256 * b).testBit j = (a % 256).testBit j := fun a b => by
      have := Nat.testBit_mod_two_pow (a % 256 + 256 * b) 8 j
      simp only [h, decide_true, Bool.true_and] at this
      rw [← this]
      congr 1
      omega
    rw [t, t, t]
    rw [show (256 * y + r) % 256 = r by omega, show (256 * M + m) % 256 = m by omega, show (256 * (y &&& M) + (r &&& m)) % 256 = r &&& m by omega, Nat.testBit_and]
  · obtain ⟨i, rfl⟩ : ∃ i, j = 8 + i := ⟨j - 8, by omega⟩
    have t : ∀ a b : Nat, b < 256 → (256 * a + b).testBit (8 + i) = a.testBit i := fun a b hb => by
      have := Nat.testBit_div_two_pow (x := 256 * a + b) (i := i) (n := 8)
      rw [show (256 * a + b) / 2 ^ 8 = a by omega] at this
      rw [this, Nat.add_comm i 8]
    rw [t _ _ hr, t _ _ hm, t _ _ h1, Nat.testBit_and]

def mask (m : Nat) : Nat → Nat
  | 0 => 0
  | k + 1 => 256 * mask m k + m
def s1 (b : Nat) : Nat := (b / 2 &&& 85) + (b &&& 85)
def s2 (b : Nat) : Nat := (b / 4 &&& 51) + (b &&& 51)
def S1 (k x : Nat) : Nat := (x / 2 &&& mask 85 k) + (x &&& mask 85 k)
def S2 (k x : Nat) : Nat := (x / 4 &&& mask 51 k) + (x &&& mask 51 k)
def S3 (k x : Nat) : Nat := (x / 16 + x) &&& mask 15 k
theorem half_1 : ∀ c < 2, ∀ r < 256, (128 * c + r / 2) &&& 85 = r / 2 &&& 85 := by decide +kernel
theorem half_2 : ∀ c < 4, ∀ r < 256, (64 * c + r / 4) &&& 51 = r / 4 &&& 51 := by decide +kernel
theorem half_3 : ∀ c < 5, ∀ b < 256, (16 * c + s2 (s1 b) / 16 + s2 (s1 b)) < 256 ∧ (16 * c + s2 (s1 b) / 16 + s2 (s1 b)) &&& 15 = cnt b 8 := by decide +kernel
theorem s1_lt : ∀ b < 256, s1 b < 256 := by decide +kernel
theorem s2_lt : ∀ b < 256, s2 b < 256 := by decide +kernel
theorem s2_nib : ∀ b < 256, s2 (s1 b) % 16 < 5 := by decide +kernel
theorem S1_step (k y r : Nat) (hr : r < 256) : S1 (k + 1) (256 * y + r) = 256 * S1 k y + s1 r := by
  unfold S1 s1
  have e : (256 * y + r) / 2 = 256 * (y / 2) + (128 * (y % 2) + r / 2) := by omega
  rw [e]
  show (_ &&& (256 * mask 85 k + 85)) + (_ &&& (256 * mask 85 k + 85)) = _
  rw [and256 _ _ _ _ (by omega) (by omega), and256 _ _ _ _ hr (by omega), half_1 _ (by omega) r hr]
  omega
theorem S2_step (k y r : Nat) (hr : r < 256) : S2 (k + 1) (256 * y + r) = 256 * S2 k y + s2 r := by
  unfold S2 s2
  have e : (256 * y + r) / 4 = 256 * (y / 4) + (64 * (y % 4) + r / 4) := by omega
  rw [e]
  show (_ &&& (256 * mask 51 k + 51)) + (_ &&& (256 * mask 51 k + 51)) = _
  rw [and256 _ _ _ _ (by omega) (by omega), and256 _ _ _ _ hr (by omega), half_2 _ (by omega) r hr]
  omega
theorem S12_nib (k x : Nat) : S2 k (S1 k x) % 16 < 5 := by
  cases k with
  | zero => simp [S1, S2, mask]
  | succ k =>
    have hr : x % 256 < 256 := Nat.mod_lt _ (by omega)
    have hx : x = 256 * (x / 256) + x % 256 := by omega
    rw [hx, S1_step _ _ _ hr, S2_step _ _ _ (s1_lt _ hr)]
    have := s2_nib _ hr
    omega
theorem S3_step (k y b : Nat) (hb : b < 256) : S3 (k + 1) (S2 (k + 1) (S1 (k + 1) (256 * y + b))) = 256 * S3 k (S2 k (S1 k y)) + cnt b 8 := by
  rw [S1_step _ _ _ hb, S2_step _ _ _ (s1_lt _ hb)]
  have hn := S12_nib k y
  generalize S2 k (S1 k y) = z at *
  obtain ⟨h1, h2⟩ := half_3 (z % 16) hn b hb
  unfold S3
  have e : (256 * z + s2 (s1 b)) / 16 + (256 * z + s2 (s1 b)) = 256 * (z / 16 + z) + (16 * (z % 16) + s2 (s1 b) / 16 + s2 (s1 b)) := by omega
  rw [e]
  show _ &&& (256 * mask 15 k + 15) = _
  rw [and256 _ _ _ _ h1 (by omega), h2]
def sum (k x : Nat) : Nat := S3 k (S2 k (S1 k x))
theorem sum_step (k x : Nat) : sum (k + 1) x = 256 * sum k (x / 256) + cnt x 8 := by
  have hr : x % 256 < 256 := Nat.mod_lt _ (by omega)
  have hx : x = 256 * (x / 256) + x % 256 := by omega
  have h := S3_step k (x / 256) (x % 256) hr
  rw [← hx] at h
  unfold sum
  rw [h, show (256 : Nat) = 2 ^ 8 from rfl, cnt_mod x 8 8 (by omega)]
/-- The last three rows of the library's function. -/
def last (x : Nat) : Nat :=
  let a := (x + x / 256) % 18446744073709551616
  let b := (a + a / 65536) % 18446744073709551616
  let c := (b + b / 4294967296) % 18446744073709551616
  c % 128
theorem st1 (p0 p1 p2 Y1 Y2 Y3 X : Nat) (h0 : p0 ≤ 8) (h1 : p1 ≤ 8) (h2 : p2 ≤ 8) (hX : X = 256 * Y1 + p0) (hY1 : Y1 = 256 * Y2 + p1) (hY2 : Y2 = 256 * Y3 + p2) : X / 256 = Y1 ∧ (X + Y1) / 65536 = Y2 + Y3 := by omega
theorem bd (p Y Z M : Nat) (hp : p ≤ 8) (hM : Z ≤ M) (h : Y = 256 * Z + p) : Y ≤ 256 * M + 8 := by omega
theorem st2 (p0 p1 p2 p3 p4 p5 p6 p7 Y1 Y2 Y3 Y4 X : Nat) (h0 : p0 ≤ 8) (h1 : p1 ≤ 8) (h2 : p2 ≤ 8) (h3 : p3 ≤ 8) (h4 : p4 ≤ 8) (h5 : p5 ≤ 8) (h6 : p6 ≤ 8) (h7 : p7 ≤ 8) (Y5 Y6 Y7 : Nat)
    (hX : X = 4294967296 * Y4 + (p0 + 256 * p1 + 65536 * p2 + 16777216 * p3)) (hY1 : Y1 = 4294967296 * Y5 + (p1 + 256 * p2 + 65536 * p3 + 16777216 * p4)) (hY2 : Y2 = 4294967296 * Y6 + (p2 + 256 * p3 + 65536 * p4 + 16777216 * p5))
    (hY3 : Y3 = 4294967296 * Y7 + (p3 + 256 * p4 + 65536 * p5 + 16777216 * p6)) : (X + Y1 + (Y2 + Y3)) / 4294967296 = Y4 + Y5 + Y6 + Y7 := by
  have e : X + Y1 + (Y2 + Y3) = 4294967296 * (Y4 + Y5 + Y6 + Y7) + ((p0 + 256 * p1 + 65536 * p2 + 16777216 * p3) + (p1 + 256 * p2 + 65536 * p3 + 16777216 * p4) + (p2 + 256 * p3 + 65536 * p4 + 16777216 * p5) + (p3 + 256 * p4 + 65536 * p5 + 16777216 * p6)) := by omega
  have l : ((p0 + 256 * p1 + 65536 * p2 + 16777216 * p3) + (p1 + 256 * p2 + 65536 * p3 + 16777216 * p4) + (p2 + 256 * p3 + 65536 * p4 + 16777216 * p5) + (p3 + 256 * p4 + 65536 * p5 + 16777216 * p6)) < 4294967296 := by omega
  rw [e, Nat.mul_add_div (by omega), Nat.div_eq_of_lt l]
  rfl
theorem st3 (p0 p1 p2 p3 p4 p5 p6 p7 a0 a1 a2 a3 a4 a5 a6 a7 : Nat) (h0 : p0 ≤ 8) (h1 : p1 ≤ 8) (h2 : p2 ≤ 8) (h3 : p3 ≤ 8) (h4 : p4 ≤ 8) (h5 : p5 ≤ 8) (h6 : p6 ≤ 8) (h7 : p7 ≤ 8) :
    (256 * a0 + p0 + (256 * a1 + p1) + (256 * a2 + p2 + (256 * a3 + p3)) + (256 * a4 + p4 + (256 * a5 + p5) + (256 * a6 + p6) + (256 * a7 + p7))) % 128 = p0 + (p1 + (p2 + (p3 + (p4 + (p5 + (p6 + p7)))))) := by
  have e : (256 * a0 + p0 + (256 * a1 + p1) + (256 * a2 + p2 + (256 * a3 + p3)) + (256 * a4 + p4 + (256 * a5 + p5) + (256 * a6 + p6) + (256 * a7 + p7))) = 128 * (2 * (a0 + a1 + a2 + a3 + a4 + a5 + a6 + a7)) + (p0 + (p1 + (p2 + (p3 + (p4 + (p5 + (p6 + p7))))))) := by omega
  rw [e, Nat.mul_add_mod, Nat.mod_eq_of_lt (by omega)]
theorem last_eq (p0 p1 p2 p3 p4 p5 p6 p7 : Nat) (h0 : p0 ≤ 8) (h1 : p1 ≤ 8) (h2 : p2 ≤ 8) (h3 : p3 ≤ 8) (h4 : p4 ≤ 8) (h5 : p5 ≤ 8) (h6 : p6 ≤ 8) (h7 : p7 ≤ 8) (Y1 Y2 Y3 Y4 Y5 Y6 Y7 X : Nat)
    (e0 : X = 256 * Y1 + p0) (e1 : Y1 = 256 * Y2 + p1) (e2 : Y2 = 256 * Y3 + p2) (e3 : Y3 = 256 * Y4 + p3) (e4 : Y4 = 256 * Y5 + p4) (e5 : Y5 = 256 * Y6 + p5) (e6 : Y6 = 256 * Y7 + p6) (e7 : Y7 = 256 * 0 + p7) :
    last X = p0 + (p1 + (p2 + (p3 + (p4 + (p5 + (p6 + p7)))))) := by
  have b7 := bd p7 Y7 0 0 h7 (Nat.le_refl 0) e7
  have b6 := bd _ _ _ _ h6 b7 e6
  have b5 := bd _ _ _ _ h5 b6 e5
  have b4 := bd _ _ _ _ h4 b5 e4
  have b3 := bd _ _ _ _ h3 b4 e3
  have b2 := bd _ _ _ _ h2 b3 e2
  have b1 := bd _ _ _ _ h1 b2 e1
  have b0 := bd _ _ _ _ h0 b1 e0
  simp only [Nat.mul_zero, Nat.zero_add, Nat.reduceMul, Nat.reduceAdd] at b0 b1 b2 b3 b4 b5 b6 b7
  obtain ⟨f1, f2⟩ := st1 p0 p1 p2 Y1 Y2 Y3 X h0 h1 h2 e0 e1 e2
  have f3 := st2 p0 p1 p2 p3 p4 p5 p6 p7 Y1 Y2 Y3 Y4 X h0 h1 h2 h3 h4 h5 h6 h7 Y5 Y6 Y7 (by clear b0 b1 b2 b3 b4 b5 b6 b7 f1 f2; omega) (by clear b0 b1 b2 b3 b4 b5 b6 b7 f1 f2; omega) (by clear b0 b1 b2 b3 b4 b5 b6 b7 f1 f2; omega) (by clear b0 b1 b2 b3 b4 b5 b6 b7 f1 f2; omega)
  have f4 := st3 p0 p1 p2 p3 p4 p5 p6 p7 Y1 Y2 Y3 Y4 Y5 Y6 Y7 0 h0 h1 h2 h3 h4 h5 h6 h7
  rw [← e0, ← e1, ← e2, ← e3, ← e4, ← e5, ← e6, ← e7] at f4
  clear e0 e1 e2 e3 e4 e5 e6 e7
  unfold last
  have m1 : (X + Y1) % 18446744073709551616 = X + Y1 := Nat.mod_eq_of_lt (by clear f2 f3 f4; omega)
  have m2 : (X + Y1 + (Y2 + Y3)) % 18446744073709551616 = X + Y1 + (Y2 + Y3) := Nat.mod_eq_of_lt (by clear f2 f3 f4 m1; omega)
  have m3 : (X + Y1 + (Y2 + Y3) + (Y4 + Y5 + Y6 + Y7)) % 18446744073709551616 = X + Y1 + (Y2 + Y3) + (Y4 + Y5 + Y6 + Y7) := Nat.mod_eq_of_lt (by clear f2 f3 f4 m1 m2; omega)
  simp only [f1, m1, f2, m2, f3, m3]
  exact f4
theorem last_sum (x : Nat) : last (sum 8 x) = cnt x 64 := by
  have e : cnt x 64 = cnt x 8 + (cnt (x / 256) 8 + (cnt (x / 256 / 256) 8 + (cnt (x / 256 / 256 / 256) 8 + (cnt (x / 256 / 256 / 256 / 256) 8 + (cnt (x / 256 / 256 / 256 / 256 / 256) 8 + (cnt (x / 256 / 256 / 256 / 256 / 256 / 256) 8 + cnt (x / 256 / 256 / 256 / 256 / 256 / 256 / 256) 8)))))) := by
    rw [show 64 = 8 + (8 + (8 + (8 + (8 + (8 + (8 + 8)))))) from rfl]
    rw [cnt_add, cnt_add, cnt_add, cnt_add, cnt_add, cnt_add, cnt_add]
  have z : ∀ y, sum 0 y = 0 := fun y => by simp [sum, S3, mask]
  rw [e]
  exact last_eq _ _ _ _ _ _ _ _ (cnt_le _ _) (cnt_le _ _) (cnt_le _ _) (cnt_le _ _) (cnt_le _ _) (cnt_le _ _) (cnt_le _ _) (cnt_le _ _) _ _ _ _ _ _ _ _ (sum_step _ _) (sum_step _ _) (sum_step _ _) (sum_step _ _) (sum_step _ _) (sum_step _ _) (sum_step _ _) (by rw [sum_step, z])
end Go.Proofs.YtonoaklajnfmiaaDoor.Pop
