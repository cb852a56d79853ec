/- How many segments are touched as keys are taken (plain). -/
import Derived.Test.YtechphliifginaaGreatDoorCL
set_option linter.unusedVariables false
set_option linter.unusedSimpArgs false
namespace Go.Proofs.YtechphliifginaaGreatDoor
open Go.RowKit

theorem seg_count {σ : List (Option Int)} {h : Nat} (D : Dn σ h) (h3 : 2 < h) (a : Nat) : ∀ d, a + d ≤ 2 ^ h → cntOn (onOf σ) (8 * a) + d ≤ cntOn (onOf σ) (8 * (a + d))
  | 0, _ => Nat.le_refl _
  | d + 1, hd => by
    have ih := seg_count D h3 a d (by omega)
    have h1 := D.lo h3 (a + d) (by omega)
    unfold segC at h1
    rw [show a + (d + 1) = a + d + 1 by omega]
    omega
theorem up_index {ks : List Int} (H : Up ks) {i j : Nat} {x : Int} (hi : ks[i]? = some x) (hj : ks[j]? = some x) : i = j := by
  rcases Nat.lt_trichotomy i j with g | g | g
  · have := (up_get H hi hj).2 g; omega
  · exact g
  · have := (up_get H hj hi).2 g; omega
/-- Where the i-th taken one stands. -/
theorem TakS.rank {σ : List (Option Int)} {lo n : Int} {ys : List (Nat × Int)} (T : TakS σ lo n ys) (U : Up (its σ)) {i : Nat} {p : Nat × Int} (hp : ys[i]? = some p) :
    σ.getD p.1 none = some p.2 ∧ cntOn (onOf σ) p.1 = lessC (its σ) lo + i ∧ (its σ)[lessC (its σ) lo + i]? = some p.2 ∧ (i : Int) < n := by
  obtain ⟨t1, t2⟩ := T
  have h1 := t2 p (List.mem_of_getElem? hp)
  have h2 := its_get σ p.1 p.2 h1
  have h3 : (ys.map (·.2))[i]? = some p.2 := by rw [List.getElem?_map, hp]; rfl
  rw [t1, List.getElem?_take] at h3
  by_cases hin : i < n.toNat
  · rw [if_pos hin, List.getElem?_drop] at h3
    exact ⟨h1, up_index U h2 h3, h3, by omega⟩
  · rw [if_neg hin] at h3
    cases h3
theorem segF_get {ys : List (Nat × Int)} {p : Nat × Int} (h : ys[0]? = some p) : segF ys = (p.1 : Int) / 8 := by
  cases ys with
  | nil => cases h
  | cons a t => simp only [List.getElem?_cons_zero, Option.some.injEq] at h; rw [h]; rfl
theorem segL_get {ys : List (Nat × Int)} {p : Nat × Int} (h : ys[ys.length - 1]? = some p) : segL ys = (p.1 : Int) / 8 := by
  unfold segL
  rw [List.getLast?_eq_getElem?, h]
  rfl
/-- What is touched. -/
structure FewS (h m : Nat) (k : Int) : Prop where
  none : m = 0 → k = 0
  pos : m ≠ 0 → 1 ≤ k
  all : k ≤ (2 ^ h : Nat)
  few : 2 < h → k ≤ m
theorem TakS.few {σ : List (Option Int)} {h : Nat} {lo n : Int} {ys : List (Nat × Int)} (T : TakS σ lo n ys) (U : Up (its σ)) (D : Dn σ h) : FewS h ys.length (segL ys - segF ys + 1) := by
  by_cases he : ys = []
  · subst he
    have : 0 < 2 ^ h := Nat.pow_pos (by omega)
    exact ⟨fun _ => rfl, fun h => absurd rfl h, by show (-1 : Int) - 0 + 1 ≤ _; omega, fun _ => by show (-1 : Int) - 0 + 1 ≤ _; simp⟩
  · have hl : 0 < ys.length := List.length_pos_iff.2 he
    obtain ⟨p, hp⟩ : ∃ p, ys[0]? = some p := ⟨_, List.getElem?_eq_getElem hl⟩
    obtain ⟨q, hq⟩ : ∃ q, ys[ys.length - 1]? = some q := ⟨_, List.getElem?_eq_getElem (by omega)⟩
    obtain ⟨p1, p2, _, _⟩ := T.rank U hp
    obtain ⟨q1, q2, _, _⟩ := T.rank U hq
    rw [segF_get hp, segL_get hq]
    have hpl := getD_lt p1
    have hql := getD_lt q1
    have hlen := D.len
    have c1 := cntOn_on (onOf σ) p.1 (onOf_some p1)
    have c2 := cntOn_on (onOf σ) q.1 (onOf_some q1)
    have hpq : p.1 ≤ q.1 := by
      rcases Nat.lt_or_ge q.1 p.1 with g | g
      · have := cntOn_le_of (onOf σ) (show q.1 + 1 ≤ p.1 by omega)
        omega
      · exact g
    obtain ⟨a, ha⟩ : ∃ a, p.1 / 8 = a := ⟨_, rfl⟩
    obtain ⟨b, hb⟩ : ∃ b, q.1 / 8 = b := ⟨_, rfl⟩
    have ha' : ((p.1 : Int) / 8) = a := by omega
    have hb' : ((q.1 : Int) / 8) = b := by omega
    rw [ha', hb']
    refine ⟨fun e => by omega, fun _ => by omega, by omega, fun h3 => ?_⟩
    by_cases hab : a = b
    · omega
    · have s := seg_count D h3 (a + 1) (b - (a + 1)) (by omega)
      rw [show a + 1 + (b - (a + 1)) = b by omega] at s
      have m1 := cntOn_le_of (onOf σ) (show p.1 + 1 ≤ 8 * (a + 1) by omega)
      have m2 := cntOn_le_of (onOf σ) (show 8 * b ≤ q.1 by omega)
      omega
theorem FewS.most {h m : Nat} {k : Int} (H : FewS h m k) (h2 : 2 ≤ h) : k ≤ mostN m h := by
  unfold mostN
  by_cases h0 : (m : Int) = 0
  · rw [if_pos h0, H.none (by omega)]
    exact Int.le_refl _
  · rw [if_neg h0]
    by_cases h3 : h = 2
    · rw [if_pos h3]
      have := H.all
      rw [h3] at this
      exact this
    · rw [if_neg h3]
      have := H.few (by omega)
      have := H.all
      omega
/-- How many are taken. -/
theorem TakS.count {σ : List (Option Int)} {lo n : Int} {ys : List (Nat × Int)} (T : TakS σ lo n ys) (hn : 0 ≤ n) : (ys.length : Int) ≤ n ∧ ((ys.length : Int) ≠ n → ys.length = (its σ).length - lessC (its σ) lo) := by
  have h := congrArg List.length T.1
  rw [List.length_map, List.length_take, List.length_drop] at h
  omega
/-- What is taken rises, from lo on, and is there. -/
theorem TakS.keys {σ : List (Option Int)} {lo n : Int} {ys : List (Nat × Int)} (T : TakS σ lo n ys) (U : Up (its σ)) :
    (∀ j, j < ys.length → lo ≤ (ys.map (·.2)).getD j 0 ∧ (ys.map (·.2)).getD j 0 ∈ its σ) ∧ (∀ j, j + 1 < ys.length → (ys.map (·.2)).getD j 0 < (ys.map (·.2)).getD (j + 1) 0) := by
  have hg : ∀ j, j < ys.length → (its σ)[lessC (its σ) lo + j]? = some ((ys.map (·.2)).getD j 0) := fun j hj => by
    obtain ⟨p, hp⟩ : ∃ p, ys[j]? = some p := ⟨_, List.getElem?_eq_getElem hj⟩
    have h3 : (ys.map (·.2)).getD j 0 = p.2 := by rw [List.getD_eq_getElem?_getD, List.getElem?_map, hp]; rfl
    rw [h3]
    exact (T.rank U hp).2.2.1
  exact ⟨fun j hj => ⟨lessC_ge U (hg j hj) (by omega), List.mem_of_getElem? (hg j hj)⟩, fun j hj => (up_get U (hg j (by omega)) (hg (j + 1) hj)).2 (by omega)⟩
theorem lessC_all {ks : List Int} (H : Up ks) {hi : Int} (h : ∀ x ∈ ks, x < hi) : lessC ks hi = ks.length := by
  refine lessC_uniq H (Nat.le_refl _) (fun i x hx _ => h x (List.mem_of_getElem? hx)) (fun i x hx hi => ?_)
  have := (List.getElem?_eq_some_iff.1 hx).1
  omega
theorem rowi_get {w : World} {base : Nat} {A : Option Addr} {m c : Nat} {xs : List Int} (h : RowI w base (.slice A m c) xs) (hl : xs.length = m) (hb : m ≤ 5000) (hm : 0 < m) : ∃ ad, A = some ad ∧ ∀ j, j < m → w.cell? (ad.add j) = some (.int .i64 (xs.getD j 0)) := by
  obtain ⟨A', c', e, _, hA⟩ := h.rd (by omega)
  rw [ints'_length] at e hA
  injection e with e1 e2 e3
  subst e1
  obtain ⟨ad, rfl, hc⟩ := hA (by omega)
  exact ⟨ad, rfl, fun j hj => hc j _ (ints'_get xs j (by omega))⟩
end Go.Proofs.YtechphliifginaaGreatDoor
