/- What an act does is fixed by where elements stand. (plain) -/
import Derived.Test.YtogjfaiidciedaaGreatDoorGS
set_option linter.unusedVariables false
set_option linter.unusedSimpArgs false
namespace Go.Proofs.YtogjfaiidciedaaGreatDoor
open Go.RowKit

theorem winF_holds (seg m : Nat) : winF seg m ≤ seg ∧ seg < winF seg m + 2 ^ m := by
  have h := Nat.mod_lt seg (show 2 ^ m > 0 from Nat.pow_pos (by omega))
  unfold winF
  have := Nat.mod_le seg (2 ^ m)
  omega
theorem winC_eq {τ υ : List (Option Int)} (h : ∀ k, cntOn (onOf τ) (8 * k) = cntOn (onOf υ) (8 * k)) (a n : Nat) : winC τ a n = winC υ a n := by
  unfold winC; rw [h, h]
theorem pow_inj2 {a b : Nat} (h : 2 ^ a = 2 ^ b) : a = b := by
  rcases Nat.lt_trichotomy a b with g | g | g
  · have := Nat.pow_lt_pow_right (a := 2) (by omega) g; omega
  · exact g
  · have := Nat.pow_lt_pow_right (a := 2) (by omega) g; omega
theorem stepO_uniq {τ υ σ1 σ2 : List (Option Int)} {h seg h1 h2 : Nat} {S : St} (A : StepO τ h seg S σ1 h1) (B : StepO υ h seg S σ2 h2) (hl : υ.length = τ.length) (hi : its υ = its τ) (ho : ∀ k, k < 8 * seg ∨ 8 * seg + 8 ≤ k → υ.getD k none = τ.getD k none)
    (hc : ∀ k, cntOn (onOf υ) (8 * k) = cntOn (onOf τ) (8 * k)) : σ1 = σ2 ∧ h1 = h2 := by
  cases A with
  | win m hm e hh k =>
    cases B with
    | win m' hm' e' hh' k' =>
      rw [e] at e'
      injection e' with _ _ e3 _
      have em : m = m' := pow_inj2 (by omega)
      subst em
      rw [winC_eq hc] at k'
      have hw := winF_holds seg m
      refine ⟨k.uniq ⟨k'.len.trans hl, k'.items.trans hi, k'.inn, fun j hj => ?_⟩, hh.trans hh'.symm⟩
      rw [k'.out j hj]
      exact ho j (by omega)
    | anew kd hk e' hh' k' =>
      rw [e] at e'
      injection e' with e1 _ _ _
      omega
  | anew kd hk e hh k =>
    cases B with
    | win m' hm' e' hh' k' =>
      rw [e] at e'
      injection e' with e1 _ _ _
      omega
    | anew kd' hk' e' hh' k' =>
      rw [e] at e'
      injection e' with _ _ e3 _
      have eh : h1 = h2 := pow_inj2 (by omega)
      subst eh
      rw [hi] at k'
      exact ⟨k.uniq k', rfl⟩
theorem cntOn_tail {σ : List (Option Int)} {n : Nat} (h : σ.length ≤ n) : cntOn (onOf σ) n = cntOn (onOf σ) σ.length := by
  obtain ⟨d, rfl⟩ : ∃ d, n = σ.length + d := ⟨n - σ.length, by omega⟩
  exact cntOn_gap (onOf σ) σ.length d (fun k h1 _ => onOf_out σ k h1)
/-- Two middle states, made of one by a change of one segment, have the same counts. -/
theorem chg_same {σ τ υ : List (Option Int)} {h seg a b : Nat} (hl : σ.length = 8 * 2 ^ h) (lt : τ.length = σ.length) (lu : υ.length = σ.length) (H : ChgC σ τ (2 ^ h) seg a b) (K : ChgC σ υ (2 ^ h) seg a b) : ∀ k, cntOn (onOf υ) (8 * k) = cntOn (onOf τ) (8 * k) := by
  have key : ∀ k, k ≤ 2 ^ h → cntOn (onOf υ) (8 * k) = cntOn (onOf τ) (8 * k) := fun k hk => by
    have h1 := H k hk
    have h2 := K k hk
    omega
  intro k
  rcases Nat.lt_or_ge (2 ^ h) k with g | g
  · rw [cntOn_tail (by omega), cntOn_tail (show τ.length ≤ 8 * k by omega), lt, lu, hl]
    exact key (2 ^ h) (Nat.le_refl _)
  · exact key k g
theorem cntsL_same {τ υ : List (Option Int)} (hl : υ.length = τ.length) (hc : ∀ k, cntOn (onOf υ) (8 * k) = cntOn (onOf τ) (8 * k)) : cntsL υ = cntsL τ := by
  unfold cntsL
  rw [hl]
  apply List.map_congr_left
  intro k _
  unfold segC
  rw [hc, hc]
theorem InsP.uniq {σ σ1 σ2 : List (Option Int)} {h seg next h1 h2 : Nat} {x v1 v2 : Int} {S1 S2 : St} {e1 e2 : List Ev} (hl : σ.length = 8 * 2 ^ h) (A : InsP σ h seg next x v1 S1 σ1 h1 e1) (B : InsP σ h seg next x v2 S2 σ2 h2 e2) : S1 = S2 ∧ σ1 = σ2 ∧ h1 = h2 := by
  obtain ⟨τ, a1, a2, a3, a4, a5, a6⟩ := A.step
  obtain ⟨υ, b1, b2, b3, b4, b5, b6⟩ := B.step
  have hc := chg_same hl a2 b2 a1 b1
  have hS : S1 = S2 := by
    rw [cntsL_same (b2.trans a2.symm) hc, a6] at b6
    injection b6
  subst hS
  have := stepO_uniq a5 b5 (b2.trans a2.symm) (by rw [a4, b4, A.items, B.items]) (fun k hk => (b3 k hk).trans (a3 k hk).symm) hc
  exact ⟨rfl, this⟩
theorem DelP.uniq {σ σ1 σ2 : List (Option Int)} {h j h1 h2 : Nat} {x : Int} {S1 S2 : St} {e1 e2 : List Ev} (hl : σ.length = 8 * 2 ^ h) (A : DelP σ h j x S1 σ1 h1 e1) (B : DelP σ h j x S2 σ2 h2 e2) : S1 = S2 ∧ σ1 = σ2 ∧ h1 = h2 := by
  obtain ⟨τ, a1, a2, a3, a4, a5, a6⟩ := A.step
  obtain ⟨υ, b1, b2, b3, b4, b5, b6⟩ := B.step
  have hc := chg_same hl a2 b2 a1 b1
  have hS : S1 = S2 := by
    rw [cntsL_same (b2.trans a2.symm) hc, a6] at b6
    injection b6
  subst hS
  have := stepO_uniq a5 b5 (b2.trans a2.symm) (by rw [a4, b4, A.items, B.items]) (fun k hk => (b3 k hk).trans (a3 k hk).symm) hc
  exact ⟨rfl, this⟩
theorem cntOn_inj' {σ : List (Option Int)} {p q : Nat} (hp : onOf σ p = true) (hq : onOf σ q = true) (h : cntOn (onOf σ) p = cntOn (onOf σ) q) : p = q := by
  have a := cntOn_on (onOf σ) p hp
  have b := cntOn_on (onOf σ) q hq
  rcases Nat.lt_trichotomy p q with g | g | g
  · have := cntOn_le_of (onOf σ) (show p + 1 ≤ q by omega); omega
  · exact g
  · have := cntOn_le_of (onOf σ) (show q + 1 ≤ p by omega); omega
theorem BehC.uniq {σ : List (Option Int)} {b1 b2 : Int} {s1 s2 n1 n2 : Nat} (A : BehC σ b1 s1 n1) (B : BehC σ b2 s2 n2) (h : cntOn (onOf σ) n1 = cntOn (onOf σ) n2) : s1 = s2 ∧ n1 = n2 := by
  cases A with
  | first e hs hn =>
    cases B with
    | first e' hs' hn' => omega
    | «at» b e' ho hs' hn' =>
      subst hn hn'
      rw [cntOn_on _ _ ho] at h
      have : cntOn (onOf σ) 0 = 0 := rfl
      omega
  | «at» b e ho hs hn =>
    cases B with
    | first e' hs' hn' =>
      subst hn hn'
      rw [cntOn_on _ _ ho] at h
      have : cntOn (onOf σ) 0 = 0 := rfl
      omega
    | «at» b' e' ho' hs' hn' =>
      subst hn hn'
      rw [cntOn_on _ _ ho, cntOn_on _ _ ho'] at h
      have := cntOn_inj' ho ho' (by omega)
      subst this
      omega
end Go.Proofs.YtogjfaiidciedaaGreatDoor
