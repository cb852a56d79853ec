/- Plain words: bits in words of 64. No program in sight. -/
import Derived.WalkKit
import Derived.WalkLawsBesides
import Derived.Lib.TrailingZeros
import Derived.Test.YtonoaklajnfmiaaDoorKPop
set_option linter.unusedVariables false
set_option linter.unusedSimpArgs false
namespace Go.Proofs.YtonoaklajnfmiaaDoor
open Go Go.RowKit

/-- The bits that words hold. -/
def bitAt (ws : List Nat) (i : Nat) : Bool := (ws.getD (i / 64) 0).testBit (i % 64)
/-- Words for n bits, that are just those of 'on'. -/
structure WOK (ws : List Nat) (n : Nat) (on : Nat → Bool) : Prop where
  len : ws.length = (n + 63) / 64
  lt : ∀ k, ws.getD k 0 < 18446744073709551616
  bit : ∀ i, on i = bitAt ws i
  out : ∀ i, n ≤ i → on i = false

def upd (on : Nat → Bool) (i : Nat) (v : Bool) : Nat → Bool := fun j => if j = i then v else on j
theorem upd_same (on : Nat → Bool) (i : Nat) (v : Bool) : upd on i v i = v := by simp [upd]

theorem WOK.new (n : Nat) : WOK (List.replicate ((n + 63) / 64) 0) n (fun _ => false) := by
  have g : ∀ m k, (List.replicate m 0).getD k 0 = 0 := fun m k => by
    rw [List.getD_eq_getElem?_getD, List.getElem?_replicate]
    split <;> rfl
  refine ⟨by simp, fun k => by rw [g]; omega, fun i => ?_, fun _ _ => rfl⟩
  unfold bitAt
  rw [g]
  simp

theorem getD_set (ws : List Nat) (k v j : Nat) (hk : k < ws.length) : (ws.set k v).getD j 0 = if j = k then v else ws.getD j 0 := by
  rw [List.getD_eq_getElem?_getD, List.getD_eq_getElem?_getD, List.getElem?_set]
  by_cases h : k = j
  · subst h
    simp [hk]
  · rw [if_neg h, if_neg (fun e => h e.symm)]

theorem WOK.set {ws : List Nat} {n : Nat} {on : Nat → Bool} (h : WOK ws n on) (i : Nat) (hi : i < n) (b : Bool) (u : Nat) (hu : u < 18446744073709551616)
    (hb : ∀ j, j < 64 → u.testBit j = if j = i % 64 then b else (ws.getD (i / 64) 0).testBit j) : WOK (ws.set (i / 64) u) n (upd on i b) := by
  have hk : i / 64 < ws.length := by rw [h.len]; omega
  refine ⟨by rw [List.length_set]; exact h.len, fun k => ?_, fun j => ?_, fun j hj => ?_⟩
  · rw [getD_set _ _ _ _ hk]
    split
    · exact hu
    · exact h.lt k
  · unfold bitAt upd
    rw [getD_set _ _ _ _ hk]
    by_cases e : j / 64 = i / 64
    · rw [if_pos e, hb _ (Nat.mod_lt _ (by omega))]
      by_cases e2 : j = i
      · subst e2; simp
      · rw [if_neg e2, if_neg (by omega), h.bit j, bitAt, e]
    · rw [if_neg e, if_neg (by rintro rfl; exact e rfl), h.bit j, bitAt]
  · unfold upd
    rw [if_neg (by omega), h.out j hj]

theorem cast_pow (v s : Nat) : ((v : Int) / 2 ^ s) = ((v / 2 ^ s : Nat) : Int) := by
  rw [Int.natCast_ediv, Int.natCast_pow]; rfl
theorem has_word (v s : Nat) (hv : v < 18446744073709551616) : (bits BinOp.and IntKind.u64 ((v : Int) / 2 ^ s) 1 == 1) = v.testBit s := by
  have hd : v / 2 ^ s < 18446744073709551616 := Nat.lt_of_le_of_lt (Nat.div_le_self _ _) hv
  rw [cast_pow, show (1 : Int) = ((1 : Nat) : Int) from rfl, u64_and_nat _ _ hd (by omega), Nat.testBit, Nat.shiftRight_eq_div_pow, Nat.and_comm 1]
  rw [Bool.eq_iff_iff]
  simp only [beq_iff_eq, bne_iff_ne]
  have := Nat.and_one_is_mod (v / 2 ^ s)
  omega
theorem pow_lt64 (s : Nat) (hs : s < 64) : 2 ^ s < 18446744073709551616 := by
  have h : 2 ^ s < 2 ^ 64 := Nat.pow_lt_pow_right (by omega) hs
  rwa [show (2 : Nat) ^ 64 = 18446744073709551616 from rfl] at h
theorem wrap_pow (s : Nat) (hs : s < 64) : IntKind.u64.wrap (2 ^ s) = ((2 ^ s : Nat) : Int) := by
  have h := pow_lt64 s hs
  rw [IntKind.wrap_u64, show ((2 : Int) ^ s) = ((2 ^ s : Nat) : Int) by rw [Int.natCast_pow]; rfl]
  generalize 2 ^ s = p at *
  omega
theorem or_word (v s : Nat) (hv : v < 18446744073709551616) (hs : s < 64) : bits BinOp.or IntKind.u64 (v : Int) (IntKind.u64.wrap (2 ^ s)) = ((v ||| 2 ^ s : Nat) : Int) := by
  rw [wrap_pow s hs, u64_or_nat _ _ hv (pow_lt64 s hs)]
theorem andNot_word (v s : Nat) (hv : v < 18446744073709551616) (hs : s < 64) : bits BinOp.andNot IntKind.u64 (v : Int) (IntKind.u64.wrap (2 ^ s)) = ((v &&& (18446744073709551615 - 2 ^ s) : Nat) : Int) := by
  rw [wrap_pow s hs, u64_andNot_nat _ _ hv (pow_lt64 s hs)]
theorem or_lt (v s : Nat) (hv : v < 18446744073709551616) (hs : s < 64) : v ||| 2 ^ s < 18446744073709551616 := Nat.or_lt_two_pow (n := 64) hv (pow_lt64 s hs)
theorem andNot_lt (v s : Nat) (hv : v < 18446744073709551616) : v &&& (18446744073709551615 - 2 ^ s) < 18446744073709551616 := Nat.lt_of_le_of_lt Nat.and_le_left hv
theorem or_bit (v s j : Nat) : (v ||| 2 ^ s).testBit j = if j = s then true else v.testBit j := by
  rw [Nat.testBit_or, Nat.testBit_two_pow]
  by_cases h : j = s
  · subst h; simp
  · rw [if_neg h]; simp [show ¬ s = j from fun e => h e.symm]
theorem andNot_bit (v s j : Nat) (hs : s < 64) (hj : j < 64) : (v &&& (18446744073709551615 - 2 ^ s)).testBit j = if j = s then false else v.testBit j := by
  rw [Nat.testBit_and]
  have := Nat.testBit_two_pow_sub_succ (n := 64) (x := 2 ^ s) (pow_lt64 s hs) j
  rw [show 2 ^ 64 - (2 ^ s + 1) = 18446744073709551615 - 2 ^ s by omega] at this
  rw [this, Nat.testBit_two_pow]
  by_cases h : j = s
  · subst h; simp
  · rw [if_neg h]; simp [show ¬ s = j from fun e => h e.symm, hj]

/-! ### The library's OnesCount64 -/
open Pop in
theorem mask85 : mask 85 8 = 6148914691236517205 := by decide +kernel
open Pop in
theorem mask51 : mask 51 8 = 3689348814741910323 := by decide +kernel
open Pop in
theorem mask15 : mask 15 8 = 1085102592571150095 := by decide +kernel
def o1 (x : Int) : Int := IntKind.u64.wrap (bits BinOp.and IntKind.u64 (x / 2) 6148914691236517205 + bits BinOp.and IntKind.u64 x 6148914691236517205)
def o2 (x : Int) : Int := IntKind.u64.wrap (bits BinOp.and IntKind.u64 (x / 4) 3689348814741910323 + bits BinOp.and IntKind.u64 x 3689348814741910323)
def o3 (x : Int) : Int := bits BinOp.and IntKind.u64 (IntKind.u64.wrap (x / 16 + x)) 1085102592571150095
def o4 (x : Int) : Int := IntKind.u64.wrap (x + x / 256)
def o5 (x : Int) : Int := IntKind.u64.wrap (x + x / 65536)
def o6 (x : Int) : Int := IntKind.u64.wrap (x + x / 4294967296)
def o7 (x : Int) : Int := bits BinOp.and IntKind.i64 (wrap64 x) 127
theorem div_cast (x k : Nat) : ((x : Int) / (k : Int)) = ((x / k : Nat) : Int) := by rw [Int.natCast_ediv]
open Pop in
theorem o1_eq (x : Nat) (hx : x < 18446744073709551616) : o1 x = (S1 8 x : Nat) ∧ S1 8 x < 18446744073709551616 := by
  have h1 : x / 2 &&& 6148914691236517205 ≤ 6148914691236517205 := Nat.and_le_right
  have h2 : x &&& 6148914691236517205 ≤ 6148914691236517205 := Nat.and_le_right
  unfold o1 S1
  rw [mask85, show ((x : Int) / 2) = ((x / 2 : Nat) : Int) from div_cast x 2, show (6148914691236517205 : Int) = ((6148914691236517205 : Nat) : Int) from rfl, u64_and_nat _ _ (by omega) (by omega), u64_and_nat _ _ hx (by omega), IntKind.wrap_u64]
  generalize (x / 2 &&& 6148914691236517205) = a at *
  generalize (x &&& 6148914691236517205) = b at *
  omega
open Pop in
theorem o2_eq (x : Nat) (hx : x < 18446744073709551616) : o2 x = (S2 8 x : Nat) ∧ S2 8 x < 18446744073709551616 := by
  have h1 : x / 4 &&& 3689348814741910323 ≤ 3689348814741910323 := Nat.and_le_right
  have h2 : x &&& 3689348814741910323 ≤ 3689348814741910323 := Nat.and_le_right
  unfold o2 S2
  rw [mask51, show ((x : Int) / 4) = ((x / 4 : Nat) : Int) from div_cast x 4, show (3689348814741910323 : Int) = ((3689348814741910323 : Nat) : Int) from rfl, u64_and_nat _ _ (by omega) (by omega), u64_and_nat _ _ hx (by omega), IntKind.wrap_u64]
  generalize (x / 4 &&& 3689348814741910323) = a at *
  generalize (x &&& 3689348814741910323) = b at *
  omega
open Pop in
theorem o3_eq (x : Nat) (hx : x < 9223372036854775808) : o3 x = (S3 8 x : Nat) ∧ S3 8 x < 18446744073709551616 := by
  have h1 : (x / 16 + x) &&& 1085102592571150095 ≤ 1085102592571150095 := Nat.and_le_right
  unfold o3 S3
  have e : IntKind.u64.wrap ((x : Int) / 16 + (x : Int)) = ((x / 16 + x : Nat) : Int) := by
    rw [IntKind.wrap_u64, show ((x : Int) / 16) = ((x / 16 : Nat) : Int) from div_cast x 16]
    omega
  rw [mask15, e, show (1085102592571150095 : Int) = ((1085102592571150095 : Nat) : Int) from rfl, u64_and_nat _ _ (by omega) (by omega)]
  generalize ((x / 16 + x) &&& 1085102592571150095) = a at *
  omega
theorem o4_eq (x : Nat) : o4 x = ((x + x / 256) % 18446744073709551616 : Nat) := by
  unfold o4
  rw [IntKind.wrap_u64, show ((x : Int) / 256) = ((x / 256 : Nat) : Int) from div_cast x 256]
  omega
theorem o5_eq (x : Nat) : o5 x = ((x + x / 65536) % 18446744073709551616 : Nat) := by
  unfold o5
  rw [IntKind.wrap_u64, show ((x : Int) / 65536) = ((x / 65536 : Nat) : Int) from div_cast x 65536]
  omega
theorem o6_eq (x : Nat) : o6 x = ((x + x / 4294967296) % 18446744073709551616 : Nat) := by
  unfold o6
  rw [IntKind.wrap_u64, show ((x : Int) / 4294967296) = ((x / 4294967296 : Nat) : Int) from div_cast x 4294967296]
  omega
theorem o7_eq (x : Nat) (hx : x < 18446744073709551616) : o7 x = (x % 128 : Nat) := by
  unfold o7
  have hm : x &&& 127 = x % 128 := Nat.and_two_pow_sub_one_eq_mod x 7
  have e : (BitVec.ofInt 64 (wrap64 (x : Int))).toNat = x := by
    rw [BitVec.toNat_ofInt]
    unfold wrap64
    omega
  have e2 : (BitVec.ofInt 64 (127 : Int)).toNat = 127 := by decide
  show IntKind.i64.wrap ((BitVec.ofInt 64 (wrap64 (x : Int)) &&& BitVec.ofInt 64 127).toNat : Int) = _
  rw [BitVec.toNat_and, e, e2, hm, IntKind.wrap_i64]
  omega
open Pop in
theorem S2_small (x : Nat) : S2 8 x < 9223372036854775808 := by
  have h1 : x / 4 &&& 3689348814741910323 ≤ 3689348814741910323 := Nat.and_le_right
  have h2 : x &&& 3689348814741910323 ≤ 3689348814741910323 := Nat.and_le_right
  unfold S2
  rw [mask51]
  omega
theorem ones_eq (v : Nat) (hv : v < 18446744073709551616) : o7 (o6 (o5 (o4 (o3 (o2 (o1 v)))))) = (Pop.cnt v 64 : Nat) := by
  obtain ⟨e1, l1⟩ := o1_eq v hv
  obtain ⟨e2, l2⟩ := o2_eq _ l1
  obtain ⟨e3, l3⟩ := o3_eq _ (S2_small (Pop.S1 8 v))
  rw [e1, e2, e3, o4_eq, o5_eq, o6_eq, o7_eq _ (Nat.mod_lt _ (by omega)), ← Pop.last_sum]
  rfl

/-! ### The first bit that is set from one on, and the last one ahead -/
def nxtF (on : Nat → Bool) : Nat → Nat → Int
  | 0, _ => -1
  | f + 1, i => if on i then (i : Int) else nxtF on f (i + 1)
/-- The first one from i on, of n; -1: there is none. -/
def nxt (on : Nat → Bool) (n : Nat) (i : Int) : Int := nxtF on (n - i.toNat) i.toNat
def prvF (on : Nat → Bool) : Nat → Int
  | 0 => -1
  | i + 1 => if on i then (i : Int) else prvF on i
/-- The last one up to i, of n; -1: there is none. -/
def prv (on : Nat → Bool) (n : Nat) (i : Int) : Int := prvF on (min (i + 1) n).toNat
theorem nxtF_none (on : Nat → Bool) : ∀ f i, (∀ j, i ≤ j → j < i + f → on j = false) → nxtF on f i = -1
  | 0, _, _ => rfl
  | f + 1, i, h => by
    unfold nxtF
    rw [h i (Nat.le_refl _) (by omega)]
    exact nxtF_none on f (i + 1) (fun j h1 h2 => h j (by omega) (by omega))
theorem nxtF_some (on : Nat → Bool) (r : Nat) (hr : on r = true) : ∀ f i, i ≤ r → r < i + f → (∀ j, i ≤ j → j < r → on j = false) → nxtF on f i = r
  | 0, _, h1, h2, _ => by omega
  | f + 1, i, h1, h2, h => by
    unfold nxtF
    by_cases e : i = r
    · subst e; rw [hr]; rfl
    · rw [h i (Nat.le_refl _) (by omega)]
      exact nxtF_some on r hr f (i + 1) (by omega) (by omega) (fun j h1 h2 => h j (by omega) (by omega))
theorem nxt_none {on : Nat → Bool} {n : Nat} {i : Int} (h : ∀ j, i.toNat ≤ j → j < n → on j = false) : nxt on n i = -1 :=
  nxtF_none on _ _ (fun j h1 h2 => h j h1 (by omega))
theorem nxt_some {on : Nat → Bool} {n : Nat} {i : Int} (r : Nat) (h1 : i.toNat ≤ r) (h2 : r < n) (hr : on r = true) (h : ∀ j, i.toNat ≤ j → j < r → on j = false) : nxt on n i = r :=
  nxtF_some on r hr _ _ h1 (by omega) h
theorem prvF_none (on : Nat → Bool) : ∀ i, (∀ j, j < i → on j = false) → prvF on i = -1
  | 0, _ => rfl
  | i + 1, h => by
    unfold prvF
    rw [h i (by omega)]
    exact prvF_none on i (fun j h1 => h j (by omega))
theorem prvF_some (on : Nat → Bool) (r : Nat) (hr : on r = true) : ∀ i, r < i → (∀ j, r < j → j < i → on j = false) → prvF on i = r
  | 0, h1, _ => by omega
  | i + 1, h1, h => by
    unfold prvF
    by_cases e : i = r
    · subst e; rw [hr]; rfl
    · rw [h i (by omega) (by omega)]
      exact prvF_some on r hr i (by omega) (fun j h1 h2 => h j h1 (by omega))
/-- What 'nxt' tells. -/
theorem nxt_cases (on : Nat → Bool) (n : Nat) (i : Int) : (nxt on n i = -1 ∧ ∀ j, i.toNat ≤ j → j < n → on j = false) ∨
    ∃ r : Nat, nxt on n i = r ∧ i.toNat ≤ r ∧ r < n ∧ on r = true ∧ ∀ j, i.toNat ≤ j → j < r → on j = false := by
  by_cases h : ∃ r, i.toNat ≤ r ∧ r < n ∧ on r = true
  · have : ∃ r, (i.toNat ≤ r ∧ r < n ∧ on r = true) ∧ ∀ j, j < r → ¬ (i.toNat ≤ j ∧ j < n ∧ on j = true) := by
      obtain ⟨r0, h0⟩ := h
      induction r0 using Nat.strongRecOn with
      | _ r0 ih =>
        by_cases hh : ∃ j, j < r0 ∧ (i.toNat ≤ j ∧ j < n ∧ on j = true)
        · obtain ⟨j, hj, hj'⟩ := hh; exact ih j hj hj'
        · exact ⟨r0, h0, fun j hj hj' => hh ⟨j, hj, hj'⟩⟩
    obtain ⟨r, ⟨h1, h2, h3⟩, h4⟩ := this
    have h5 : ∀ j, i.toNat ≤ j → j < r → on j = false := fun j a b => by
      cases e : on j
      · rfl
      · exact (h4 j b ⟨a, by omega, e⟩).elim
    exact .inr ⟨r, nxt_some r h1 h2 h3 h5, h1, h2, h3, h5⟩
  · have h5 : ∀ j, i.toNat ≤ j → j < n → on j = false := fun j a b => by
      cases e : on j
      · rfl
      · exact (h ⟨j, a, b, e⟩).elim
    exact .inl ⟨nxt_none h5, h5⟩

/-- How many of the first i are set. -/
def cntOn (on : Nat → Bool) : Nat → Nat
  | 0 => 0
  | i + 1 => cntOn on i + (on i).toNat
theorem cntOn_le (on : Nat → Bool) : ∀ i, cntOn on i ≤ i
  | 0 => Nat.le_refl 0
  | i + 1 => by have := cntOn_le on i; unfold cntOn; cases on i <;> simp <;> omega
theorem cntOn_word (on : Nat → Bool) (b v : Nat) : ∀ m, (∀ j, j < m → on (b + j) = v.testBit j) → cntOn on (b + m) = cntOn on b + Pop.cnt v m
  | 0, _ => rfl
  | m + 1, h => by
    show cntOn on (b + m) + (on (b + m)).toNat = _ + (_ + (v.testBit m).toNat)
    rw [cntOn_word on b v m (fun j hj => h j (by omega)), h m (by omega), Nat.add_assoc]

/-! ### The lowest bit -/
theorem ctz_spec (x : Nat) (hx : x < 18446744073709551616) (h0 : x ≠ 0) : Lib.ctz 64 x < 64 ∧ x.testBit (Lib.ctz 64 x) = true ∧ ∀ j, j < Lib.ctz 64 x → x.testBit j = false := by
  unfold Lib.ctz
  rw [if_neg h0]
  obtain ⟨m, hm, hc⟩ := Lib.ctzFrom_spec 64 x (by omega) (by exact hx)
  generalize Lib.ctzFrom 64 x = c at *
  refine ⟨hc, ?_, fun j hj => ?_⟩
  · rw [hm, Nat.testBit_two_pow_mul]
    simp
  · rw [hm, Nat.testBit_two_pow_mul]
    simp [show ¬ c ≤ j by omega]
theorem zero_bits (x : Nat) (hx : x < 18446744073709551616) (h : ∀ j, j < 64 → x.testBit j = false) : x = 0 := by
  apply Nat.eq_of_testBit_eq
  intro j
  rcases Nat.lt_or_ge j 64 with hj | hj
  · rw [h j hj]; simp
  · rw [Nat.testBit_lt_two_pow (Nat.lt_of_lt_of_le (show x < 2 ^ 64 from hx) (Nat.pow_le_pow_right (by omega) hj))]; simp
/-- v >> s << s -/
theorem high_bits (v s j : Nat) (hs : s < 64) (hj : j < 64) : (v / 2 ^ s * 2 ^ s % 18446744073709551616).testBit j = (decide (s ≤ j) && v.testBit j) := by
  rw [show 18446744073709551616 = 2 ^ 64 from rfl, Nat.testBit_mod_two_pow, Nat.mul_comm, Nat.testBit_two_pow_mul, Nat.testBit_div_two_pow]
  by_cases h : s ≤ j
  · rw [show j - s + s = j by omega]; simp [h, hj]
  · simp [h]
theorem high_eq (v s : Nat) : IntKind.u64.wrap ((v : Int) / 2 ^ s * 2 ^ s) = ((v / 2 ^ s * 2 ^ s % 18446744073709551616 : Nat) : Int) := by
  rw [cast_pow, IntKind.wrap_u64, show ((2 : Int) ^ s) = ((2 ^ s : Nat) : Int) by rw [Int.natCast_pow]; rfl, ← Int.natCast_mul]
  rfl
/-- v << (64 - m) : its bits are the first m. -/
theorem low_cnt (v m : Nat) (hm : m ≤ 64) : Pop.cnt (v * 2 ^ (64 - m) % 18446744073709551616) 64 = Pop.cnt v m := by
  rw [show 18446744073709551616 = 2 ^ 64 from rfl, Pop.cnt_mod _ _ _ (Nat.le_refl _)]
  have z : ∀ s k x, k ≤ s → Pop.cnt (x * 2 ^ s) k = 0 := by
    intro s k x
    induction k with
    | zero => intro _; rfl
    | succ k ih =>
      intro hk
      unfold Pop.cnt
      rw [ih (by omega), Nat.mul_comm, Nat.testBit_two_pow_mul]
      simp [show ¬ s ≤ k by omega]
  have := Pop.cnt_add (v * 2 ^ (64 - m)) (64 - m) m
  rw [show 64 - m + m = 64 by omega, z _ _ _ (Nat.le_refl _), Nat.mul_div_cancel _ (Nat.pow_pos (by omega))] at this
  omega
theorem shl_eq (v s : Nat) : IntKind.u64.wrap ((v : Int) * 2 ^ s) = ((v * 2 ^ s % 18446744073709551616 : Nat) : Int) := by
  rw [IntKind.wrap_u64, show ((2 : Int) ^ s) = ((2 ^ s : Nat) : Int) by rw [Int.natCast_pow]; rfl, ← Int.natCast_mul]
  rfl
end Go.Proofs.YtonoaklajnfmiaaDoor
