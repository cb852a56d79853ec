/- The law AuditTables, as it is called. -/
import Derived.Test.YtonoaklajnfmiaaDoorD5
import Derived.Test.YtonoaklajnfmiaaDoorH5
set_option linter.unusedVariables false
set_option linter.unusedSimpArgs false
namespace Go.Proofs.YtonoaklajnfmiaaDoor
open Go.RowKit Go.Maps

/-- The table behind the first so many Takes, Frees. -/
def tkTo (ss : List Int) : Nat → List (Option Int)
  | 0 => []
  | k + 1 => if mayS (ss.getD k 0) = true then tkTo ss k ++ [some (ss.getD k 0)] else tkTo ss k
theorem tkTo_length (ss : List Int) : ∀ k, (tkTo ss k).length ≤ k
  | 0 => Nat.le_refl _
  | k + 1 => by
    have := tkTo_length ss k
    unfold tkTo
    split <;> (try simp) <;> omega
def frTo (τ : List (Option Int)) (fs : List Int) : Nat → List (Option Int)
  | 0 => τ
  | k + 1 => if liveB (frTo τ fs k) (fs.getD k 0) = true then (frTo τ fs k).set ((fs.getD k 0).toNat - 1) none else frTo τ fs k
theorem frTo_length (τ : List (Option Int)) (fs : List Int) : ∀ k, (frTo τ fs k).length = τ.length
  | 0 => rfl
  | k + 1 => by
    have := frTo_length τ fs k
    unfold frTo
    split <;> (try simp) <;> omega
/-- What the law wants, behind so many handles. -/
def wTo (σ τ : List (Option Int)) : Nat → Int
  | 0 => if cntOn (onOf σ) σ.length ≠ (occ τ).length then 23 else 0
  | j + 1 => if (liveB τ ((j : Int) + 1) && !okH σ τ ((j : Int) + 1)) = true then 23 else wTo σ τ j
theorem wTo_23 (σ τ : List (Option Int)) (h : cntOn (onOf σ) σ.length ≠ (occ τ).length) : ∀ j, wTo σ τ j = 23
  | 0 => by unfold wTo; rw [if_pos h]
  | j + 1 => by unfold wTo; rw [wTo_23 σ τ h j]; split <;> rfl
theorem wTo_cases (σ τ : List (Option Int)) : ∀ j, (wTo σ τ j = 23 ∧ (cntOn (onOf σ) σ.length ≠ (occ τ).length ∨ ∃ x, liveB τ x = true ∧ okH σ τ x = false)) ∨ (wTo σ τ j = 0 ∧ cntOn (onOf σ) σ.length = (occ τ).length ∧ ∀ i : Nat, i < j → liveB τ ((i : Int) + 1) = true → okH σ τ ((i : Int) + 1) = true)
  | 0 => by
    by_cases h : cntOn (onOf σ) σ.length ≠ (occ τ).length
    · exact .inl ⟨wTo_23 σ τ h 0, .inl h⟩
    · refine .inr ⟨?_, by simpa using h, fun i hi => by omega⟩
      unfold wTo; rw [if_neg h]
  | j + 1 => by
    by_cases hb : (liveB τ ((j : Int) + 1) && !okH σ τ ((j : Int) + 1)) = true
    · refine .inl ⟨?_, .inr ⟨(j : Int) + 1, ?_, ?_⟩⟩
      · unfold wTo; rw [if_pos hb]
      · cases h : liveB τ ((j : Int) + 1)
        · rw [h] at hb; cases hb
        · rfl
      · cases h : okH σ τ ((j : Int) + 1)
        · rfl
        · rw [h] at hb; simp at hb
    · have e : wTo σ τ (j + 1) = wTo σ τ j := by
        show (if _ then _ else _) = _
        rw [if_neg hb]
      rcases wTo_cases σ τ j with ⟨h1, h2⟩ | ⟨h1, h2, h3⟩
      · exact .inl ⟨e.trans h1, h2⟩
      · refine .inr ⟨e.trans h1, h2, fun i hi hl => ?_⟩
        rcases Nat.lt_or_ge i j with g | g
        · exact h3 i g hl
        · obtain rfl : i = j := by omega
          rw [hl] at hb
          simpa using hb
theorem wTo_tabE (σ τ : List (Option Int)) (m : Nat) (hm : τ.length ≤ m) : wTo σ τ m = tabE σ τ := by
  rcases wTo_cases σ τ m with ⟨h1, h2 | ⟨x, hx, hok⟩⟩ | ⟨h1, h2, h3⟩
  · rw [h1, tabE_len h2]
  · rw [h1, tabE_bad x hx hok]
  · rw [h1, tabE_ok h2 (fun x hx => by
      obtain ⟨a, b⟩ := TabR.live_bound x hx
      have := h3 (x.toNat - 1) (by omega)
      rw [show ((x.toNat - 1 : Nat) : Int) + 1 = x by omega] at this
      exact this hx)]
end Go.Proofs.YtonoaklajnfmiaaDoor
