/- level.For: the least array in which so many elements may be. -/
import Derived.Test.YtmbkmojekpkfhaaGreatDoorGN
import Derived.Test.YtmbkmojekpkfhaaGreatDoorGP
set_option linter.unusedVariables false
set_option linter.unusedSimpArgs false
namespace Go.Proofs.YtmbkmojekpkfhaaGreatDoor
open Go.RowKit

/-- Its height. -/
def forH (n : Nat) : Nat := if n ≤ 20 then 2 else if n ≤ 40 then 3 else if n ≤ 80 then 4 else if n ≤ 160 then 5 else if n ≤ 320 then 6 else if n ≤ 640 then 7 else if n ≤ 1280 then 8 else 9
theorem pow5 : ∀ h : Nat, 2 ≤ h → h ≤ 9 → (h = 2 ∧ 2 ^ h = 4) ∨ (h = 3 ∧ 2 ^ h = 8) ∨ (h = 4 ∧ 2 ^ h = 16) ∨ (h = 5 ∧ 2 ^ h = 32) ∨ (h = 6 ∧ 2 ^ h = 64) ∨ (h = 7 ∧ 2 ^ h = 128) ∨ (h = 8 ∧ 2 ^ h = 256) ∨ (h = 9 ∧ 2 ^ h = 512) := by
  intro h h2 h9
  have : h = 2 ∨ h = 3 ∨ h = 4 ∨ h = 5 ∨ h = 6 ∨ h = 7 ∨ h = 8 ∨ h = 9 := by omega
  rcases this with rfl | rfl | rfl | rfl | rfl | rfl | rfl | rfl <;> decide
theorem forH_lo (n : Nat) : 2 ≤ forH n := by unfold forH; split <;> (try split) <;> (try split) <;> (try split) <;> (try split) <;> (try split) <;> (try split) <;> omega
theorem forH_hi (n : Nat) : forH n ≤ 9 := by unfold forH; split <;> (try split) <;> (try split) <;> (try split) <;> (try split) <;> (try split) <;> (try split) <;> omega
/-- It is the first height whose root has room. -/
theorem forH_iff {n : Nat} (hn : n ≤ 2560) {h : Nat} (h2 : 2 ≤ h) (h9 : h ≤ 9) : n ≤ 5 * 2 ^ h ↔ forH n ≤ h := by
  unfold forH
  rcases pow5 h h2 h9 with ⟨a, b⟩ | ⟨a, b⟩ | ⟨a, b⟩ | ⟨a, b⟩ | ⟨a, b⟩ | ⟨a, b⟩ | ⟨a, b⟩ | ⟨a, b⟩ <;> rw [b] <;> split <;> (try split) <;> (try split) <;> (try split) <;> (try split) <;> (try split) <;> (try split) <;> omega
/-- What is laid in it may be. -/
theorem forH_dn {l : List Int} (hn : l.length ≤ 2560) {υ : List (Option Int)} (hL : LaidR l (2 ^ forH l.length) υ) : Dn υ (forH l.length) := by
  have e : its υ = l := hL.items
  have h1 := forH_lo l.length
  have h2 := forH_hi l.length
  have h3 := (forH_iff hn h1 h2).2 (Nat.le_refl _)
  refine laid_dn (τ := υ) h1 h2 (by rw [e]; exact hL) (by rw [e]; omega) (fun hlt => ?_)
  rw [e]
  have h4 := mt (forH_iff hn (h := forH l.length - 1) (by omega) (by omega)).1 (by omega)
  have h5 : 2 ^ forH l.length = 2 * 2 ^ (forH l.length - 1) := by
    conv => lhs; rw [show forH l.length = (forH l.length - 1) + 1 by omega, Nat.pow_succ]
    omega
  omega
theorem manyHH (h : Nat) : manyF h h = 5 * h * 2 ^ h := by
  unfold manyF
  have : (7 * (h : Int) - 2 * h) = 5 * h := by omega
  rw [this]
theorem for1_any (n : Nat) (hn : n ≤ 2560) (h : Nat) (h2 : 2 ≤ h) (h9 : h ≤ 9) (b : Nat) (w : World) (hb : w.cell? ⟨b, 0, none⟩ = some (.int .i64 n)) :
    Calls Tryz.prog 153 #[.int .i64 h, .pointer (some ⟨b, 0, none⟩)] w fun e w' => e = .returned (.bool (decide (forH n ≤ h))) ∧ Fr Nil1 w w' := by
  have HM := hid (fun w' => levelMany_any h h (Nat.le_refl _) h9 w')
  have e : decide ((h : Int) * n ≤ manyF h h) = decide (forH n ≤ h) := decide_eq_decide.2 (by
    rw [← forH_iff hn h2 h9, manyHH]
    rcases pow5 h h2 h9 with ⟨a, b⟩ | ⟨a, b⟩ | ⟨a, b⟩ | ⟨a, b⟩ | ⟨a, b⟩ | ⟨a, b⟩ | ⟨a, b⟩ | ⟨a, b⟩ <;> subst a <;> omega)
  have HE := hid e
  have hw : IntKind.i64.wrap ((h : Int) * n) = (h : Int) * n := IntWalk.i64_in _ (by
    have : (h : Int) * n ≤ 9 * 2560 := Int.mul_le_mul (by omega) (by omega) (by omega) (by omega)
    have : (0 : Int) ≤ (h : Int) * n := Int.mul_nonneg (by omega) (by omega)
    omega)
  clear e
  generalize manyF h h = m at *
  go_enter Tryz.func153, Tryz.ntmps153
  go_wp2_with fail
  go_quiet ((go_at_call 108; exact quiet_eq (HM.out _)))
  go_wp2_with fail
  go_ret
  exact ⟨by rw [← HE.out]; rfl, (Fr.refl _ _).drewN _⟩
set_option maxHeartbeats 1000000 in
theorem levelFor_ok (n : Nat) (hn : n ≤ 2560) (w : World) (hg : GW w) :
    Calls Tryz.prog 150 #[.int .i64 n] w fun e w' => e = .returned (.tuple #[.int .i64 (8 * 2 ^ forH n : Nat), .int .i64 0]) ∧ Fr Nil1 w w' := by
  have hb := Has.new w [.int .i64 n] 3
  have c0 := hb.cell 0
  have HB := hid hb
  have HF0 := hid (show Fr Nil1 w (w.alloc (.cells #[.int .i64 n] 3)) from (Fr.refl _ _).alloc _)
  have n0 : (0 : Int) ≤ n := by omega
  have n1 : (n : Int) ≤ 2560 := by omega
  obtain ⟨R, hR⟩ : ∃ R, w.heap.size = R := ⟨_, rfl⟩
  have HR := hid hR
  rw [hR] at c0
  clear hb hg
  have HC1 := hid (fun (k : Nat) (hk : k < 7) (wr : World) (hf : Fr Nil1 (w.alloc (.cells #[.int .i64 n] 3)) wr) => by
    have := for1_any n hn (2 + k) (by omega) (by omega) R wr (hf.cell c0 id)
    rwa [show ((2 + k : Nat) : Int) = 2 + (k : Int) by omega] at this)
  have hent : ∀ (args : Array Value) (W : World), Sem.run Tryz.prog (callFunc 153 args) W = .ok (.enter 153 args) W := enters_of Tryz.func153 (by kernel_rfl) rfl
  have hlo := forH_lo n
  have hhi := forH_hi n
  have HFN := hid (And.intro hlo hhi)
  clear hn hlo hhi
  go_enter Tryz.func150, Tryz.ntmps150
  go_wp2_with fail
  go_loopw [4, 5, 6, 13] (fun _ _ _ i wr => ∃ k : Nat, k ≤ 7 ∧ k + 2 ≤ forH n ∧ i = .int .i64 k ∧ Hid (Fr Nil1 (w.alloc (.cells #[.int .i64 n] 3)) wr)) (fun _ _ _ i _ => 7 - (intOf i).toNat)
  case atStart => exact ⟨0, by omega, by have := HFN.out; omega, rfl, hid (Fr.refl _ _)⟩
  case round =>
    obtain ⟨k, hk, hk2, rfl, HW⟩ := hrel
    by_cases hlt : k < 7
    · have hltI : (k : Int) < 7 := by omega
      have HC := hid (HC1.out k hlt wr HW.out)
      have HK2 := hid hk2
      clear hk2
      have hw : IntKind.i64.wrap (2 + (k : Int)) = 2 + (k : Int) := IntWalk.i64_in _ (by omega)
      by_cases he : forH n ≤ 2 + k
      · have hd : decide (forH n ≤ 2 + k) = true := decide_eq_true he
        have HE := hid he
        clear he
        have q0 : (8 * 2 ^ (2 + k) : Int) = ((8 * 2 ^ (2 + k) : Nat) : Int) := by rw [Int.natCast_mul, Int.natCast_pow]; rfl
        have q1 : wrap64 (8 * 2 ^ (2 + k)) = ((8 * 2 ^ (2 + k) : Nat) : Int) := by
          rw [q0]
          exact IntWalk.wrap64_in _ (by
            rcases pow5 (2 + k) (by omega) (by omega) with ⟨a, b⟩ | ⟨a, b⟩ | ⟨a, b⟩ | ⟨a, b⟩ | ⟨a, b⟩ | ⟨a, b⟩ | ⟨a, b⟩ | ⟨a, b⟩ <;> rw [b] <;> decide)
        clear q0
        have q2 : (0 : Int) ≤ 2 + (k : Int) := by omega
        have q3 : (2 + (k : Int)).toNat = 2 + k := by omega
        go_wp2_with (go_at_fn 153; refine HC.out.mono ?_; rintro e w1 ⟨rfl, H1⟩; have HF1 := hid H1; clear H1)
        go_ret2
        have e1 : forH n = 2 + k := by have := HE.out; have := HK2.out; omega
        exact ⟨by rw [e1, ← q1]; rfl, (HF0.out.trans HW.out).trans HF1.out⟩
      · have hd : decide (forH n ≤ 2 + k) = false := decide_eq_false he
        have HE := hid he
        clear he
        go_wp2_with (go_at_fn 153; refine HC.out.mono ?_; rintro e w1 ⟨rfl, H1⟩; have HF1 := hid H1; clear H1)
        exact ⟨⟨k + 1, by omega, by have := HE.out; omega, by go_num, hid (HW.out.trans HF1.out)⟩, by simp [intOf]; omega⟩
    · have HK2 := hid (And.intro hk2 hlt)
      clear hk2
      go_wp2_with fail
      go_ret2
      have e1 : forH n = 9 := by have := HK2.out; have := HFN.out; omega
      exact ⟨by rw [e1]; rfl, HF0.out.trans HW.out⟩
end Go.Proofs.YtmbkmojekpkfhaaGreatDoor
