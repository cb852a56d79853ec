/- Keys that rise, in slots: Before, Exact; what an act of a set does to keys. (plain) -/
import Derived.Test.YtmbkmojekpkfhaaGreatDoorSA
import Derived.Test.YtmbkmojekpkfhaaGreatDoorSB
set_option linter.unusedVariables false
set_option linter.unusedSimpArgs false
namespace Go.Proofs.YtmbkmojekpkfhaaGreatDoor
open Go.RowKit

theorem gap_cnt {on : Nat → Bool} {a b : Nat} (hab : a ≤ b) (h : ∀ j, a ≤ j → j < b → on j = false) : cntOn on b = cntOn on a := by
  obtain ⟨d, rfl⟩ : ∃ d, b = a + d := ⟨b - a, by omega⟩
  exact cntOn_gap on a d h
/-- From where 'Before' goes on. -/
def befS (σ : List (Option Int)) (r : Int) : Int := if r < 0 then (σ.length : Int) else r
theorem befO_at {σ : List (Option Int)} {key : Int} {p : Nat} (hp : p ≤ σ.length) (hc : cntOn (onOf σ) p = lessC (its σ) key) : BefO σ key (prv (onOf σ) σ.length ((p : Int) - 1)) := by
  have h0 : cntOn (onOf σ) 0 = 0 := rfl
  rcases prv_cases (onOf σ) σ.length ((p : Int) - 1) with ⟨e, h⟩ | ⟨q, e, h1, h2, h3, h4⟩
  · refine .none e ?_
    rw [← hc, gap_cnt (Nat.zero_le p) (fun j _ hj => h j (by omega) (by omega))]
    exact h0
  · obtain ⟨x, hx⟩ := onOf_true h3
    have hc2 : cntOn (onOf σ) p = cntOn (onOf σ) q + 1 := by
      rw [← cntOn_on _ _ h3]
      exact gap_cnt (by omega) (fun j a b => h4 j (by omega) (by omega) (by omega))
    exact .some q x e hx (lessC_lt (its_get σ q x hx) (by omega)) (by omega)
theorem LowO.bef {σ : List (Option Int)} {key r : Int} (h : LowO σ key r) : BefO σ key (prv (onOf σ) σ.length (befS σ r - 1)) := by
  cases h with
  | none hr hl =>
    subst hr
    exact befO_at (Nat.le_refl _) (by rw [← its_length, hl])
  | some q x hr hq hx hc =>
    subst hr
    have e : befS σ (q : Int) = q := by unfold befS; rw [if_neg (by omega)]
    rw [e]
    exact befO_at (Nat.le_of_lt (getD_lt hq)) hc
theorem low_mem {σ : List (Option Int)} (H : Up (its σ)) {key : Int} {q : Nat} {x : Int} (hq : σ.getD q none = some x) (hc : cntOn (onOf σ) q = lessC (its σ) key) : key ∈ its σ ↔ x = key := by
  rw [mem_lessC H, ← hc, its_get σ q x hq]
  exact ⟨fun h => by injection h, fun h => by rw [h]⟩
theorem not_mem_of_less {ks : List Int} (H : Up ks) {key : Int} (h : lessC ks key = ks.length) : key ∉ ks := by
  rw [mem_lessC H, h, List.getElem?_eq_none (Nat.le_refl _)]
  exact fun h => by cases h
/-- The greatest key that is not above one. -/
def floorK (ks : List Int) (key : Int) : Option Int := if key ∈ ks then some key else if lessC ks key = 0 then none else ks[lessC ks key - 1]?
/-- The least key that is not below one. -/
def ceilK (ks : List Int) (key : Int) : Option Int := ks[lessC ks key]?
theorem putK_at {ks : List Int} {key : Int} {n : Nat} (h : n = lessC ks key) : ks.take n ++ key :: ks.drop n = putK ks key := by subst h; rfl
theorem delK_at {ks : List Int} {key : Int} {n : Nat} (h : n = lessC ks key) : ks.take n ++ ks.drop (n + 1) = delK ks key := by subst h; rfl
end Go.Proofs.YtmbkmojekpkfhaaGreatDoor
