/- What a law of rank has in hand. -/
import Derived.Test.YtechphliifginaaGreatDoorHD
import Derived.Test.YtechphliifginaaGreatDoorGX
set_option linter.unusedVariables false
set_option linter.unusedSimpArgs false
namespace Go.Proofs.YtechphliifginaaGreatDoor
open Go.RowKit

theorem lessC_get {ks : List Int} (H : Up ks) {k : Nat} (hk : k < ks.length) : lessC ks (ks.getD k 0) = k :=
  lessC_uniq H (Nat.le_of_lt hk) (fun i x hi hik => (up_get H hi (get_some hk)).2 hik) (fun i x hi hki => by
    rcases Nat.eq_or_lt_of_le hki with e | e
    · subst e; rw [get_some hk] at hi; cases hi; exact Int.le_refl _
    · exact Int.le_of_lt ((up_get H (get_some hk) hi).2 e))
/-- What a law of rank has in hand: a set, its index, its keys. -/
structure RkS (w0 : World) (s : Nat) (X : IxF) (σ : List (Option Int)) (h : Nat) (ks : List Int) (w : World) : Prop where
  ss : SS w0 s ks w
  ix : IxR w X σ h
  eq : its σ = ks
theorem RkS.new {w0 w w' : World} {s : Nat} {X : IxF} {σ : List (Option Int)} {h : Nat} {ks : List Int} (H : RkS w0 s X σ h ks w) (hf : Fr Nil1 w w') : RkS w0 s X σ h ks w' := ⟨H.ss.new hf, H.ix.new hf, H.eq⟩
section
variable {w0 w : World} {s h : Nat} {X : IxF} {σ : List (Option Int)} {ks : List Int}
theorem RkS.select (H : RkS w0 s X σ h ks w) (N : Nat) (hN : N < ks.length) : Calls Tryz.prog 113 #[.pointer (some ⟨X.x, 0, none⟩), .int .i64 N] w fun e w' => e = .returned (.tuple #[.int .i64 (ks.getD N 0), .int .i64 0]) ∧ w = w' := by
  have := rankSelect_ok H.ix N (by rw [H.eq]; exact hN)
  rwa [H.eq] at this
theorem RkS.selectNone (H : RkS w0 s X σ h ks w) (N : Int) (hN : N < 0 ∨ (ks.length : Int) ≤ N) : Calls Tryz.prog 113 #[.pointer (some ⟨X.x, 0, none⟩), .int .i64 N] w fun e w' => e = .returned (.tuple #[.int .i64 0, .int .i64 14]) ∧ w = w' :=
  rankSelect_none H.ix N (by rw [H.eq]; exact hN)
theorem RkS.rank (H : RkS w0 s X σ h ks w) (key : Int) : Calls Tryz.prog 55 #[.pointer (some ⟨X.x, 0, none⟩), .int .i64 key] w fun e w' => e = .returned (.int .i64 (lessC ks key : Nat)) ∧ Fr Nil1 w w' := by
  have := rankRank_any H.ix key
  rwa [H.eq] at this
end
theorem rankOf_rk {w0 w : World} {s : Nat} {ks : List Int} (H : SS w0 s ks w) : Calls Tryz.prog 53 #[.pointer (some ⟨s, 0, none⟩)] w fun e w' => ∃ (X : IxF), e = .returned (.pointer (some ⟨X.x, 0, none⟩)) ∧ ∃ (σ : List (Option Int)) (h : Nat), Hid (RkS w0 s X σ h ks w' ∧ Fr Nil1 w w' ∧ ∀ k, X.mem k → w.heap.size ≤ k) := by
  refine (rankOf_any H).mono ?_
  rintro e w' ⟨X, rfl, σ, h, h1⟩
  exact ⟨X, rfl, σ, h, hid ⟨⟨H.new h1.out.2.2.1, h1.out.1, h1.out.2.1⟩, h1.out.2.2⟩⟩
theorem RkS.between {w0 w : World} {s h : Nat} {X : IxF} {σ : List (Option Int)} {ks : List Int} (H : RkS w0 s X σ h ks w) (lo hi : Int) : Calls Tryz.prog 54 #[.pointer (some ⟨X.x, 0, none⟩), .int .i64 lo, .int .i64 hi] w fun e w' => e = .returned (.int .i64 (btwK ks lo hi)) ∧ Fr Nil1 w w' := by
  have := rankBetween_any H.ix lo hi
  rwa [H.eq] at this
end Go.Proofs.YtechphliifginaaGreatDoor
