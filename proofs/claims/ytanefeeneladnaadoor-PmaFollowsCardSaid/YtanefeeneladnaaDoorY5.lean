/- PmaFollows: what its closure keeps, in plain words. -/
import Derived.Test.YtanefeeneladnaaDoorGR
set_option linter.unusedVariables false
set_option linter.unusedSimpArgs false
namespace Go.Proofs.YtanefeeneladnaaDoor
open Go.RowKit

theorem its_nodup {pos : Int → Int} {σ : List (Option Int)} (hk : Knows pos σ) : (its σ).Nodup := by
  have key : ∀ m, (itsTo σ m).Nodup := by
    intro m
    induction m with
    | zero => exact List.nodup_nil
    | succ m ih =>
      cases e : σ.getD m none with
      | none => rw [itsTo_none _ _ e]; exact ih
      | some x =>
        rw [itsTo_some _ _ x e]
        refine List.nodup_append.2 ⟨ih, by simp, fun a ha b hb => ?_⟩
        have := List.mem_singleton.1 hb
        subst this
        rintro rfl
        obtain ⟨⟨p, y⟩, h1, h2⟩ := List.mem_map.1 ha
        obtain ⟨h3, h4⟩ := occTo_mem m p y h1
        simp at h2
        subst h2
        have := hk.uniq h4 e
        omega
  exact key _
/-- What the closure keeps: where each is, and whether all was right. -/
def folS (n : Nat) (s : (Int → Int) × Bool) (e : Ev) : (Int → Int) × Bool :=
  if e.1 < 1 ∨ (n : Int) ≤ e.1 ∨ s.1 e.1 ≠ e.2.1 then (s.1, false) else (updI s.1 e.1 e.2.2, s.2)
def fol (n : Nat) (evs : List Ev) : (Int → Int) × Bool := evs.foldl (folS n) (fun _ => -1, true)
theorem fol_snoc (n : Nat) (evs : List Ev) (e : Ev) : fol n (evs ++ [e]) = folS n (fol n evs) e := by unfold fol; rw [List.foldl_append]; rfl
theorem fol_legit (n : Nat) : ∀ (ev : List Ev) (pos : Int → Int), legit pos ev → (∀ e ∈ ev, 1 ≤ e.1 ∧ e.1 < n) → ev.foldl (folS n) (pos, true) = (runEv pos ev, true)
  | [], _, _, _ => rfl
  | e :: r, pos, h, hr => by
    have h1 := hr e (List.mem_cons_self ..)
    have hs : folS n (pos, true) e = (updI pos e.1 e.2.2, true) := by
      unfold folS
      rw [if_neg]
      rintro (h2 | h2 | h2)
      · omega
      · omega
      · exact h2 h.1
    rw [List.foldl_cons, hs, fol_legit n r _ h.2 (fun e he => hr e (List.mem_cons_of_mem _ he))]
    rfl
theorem fol_append (n : Nat) (evs ev : List Ev) (pos : Int → Int) (h0 : fol n evs = (pos, true)) (h : legit pos ev) (hr : ∀ e ∈ ev, 1 ≤ e.1 ∧ e.1 < n) : fol n (evs ++ ev) = (runEv pos ev, true) := by
  have : fol n (evs ++ ev) = ev.foldl (folS n) (fol n evs) := List.foldl_append
  rw [this, h0]
  exact fol_legit n ev pos h hr
def folRow (n : Nat) (pos : Int → Int) : List Int := (List.range n).map fun (k : Nat) => pos k
theorem folRow_length (n : Nat) (pos : Int → Int) : (folRow n pos).length = n := by simp [folRow]
theorem folRow_getD (n : Nat) (pos : Int → Int) (k : Nat) (hk : k < n) : (folRow n pos).getD k 0 = pos k := by simp [folRow, List.getD_eq_getElem?_getD, hk]
theorem folRow_set (n : Nat) (pos : Int → Int) (k : Nat) (j : Int) (hk : k < n) : (folRow n pos).set k j = folRow n (updI pos k j) := by
  apply List.ext_getElem
  · simp [folRow]
  · intro i h1 h2
    rw [List.getElem_set]
    simp only [folRow, List.getElem_map, List.getElem_range, updI]
    by_cases e : k = i
    · subst e; simp
    · rw [if_neg e, if_neg (by omega)]
theorem folRow_start (n : Nat) : folRow n (fun _ => -1) = List.replicate n (-1) := by
  apply List.ext_getElem
  · simp [folRow]
  · intro i h1 h2
    simp [folRow]
/-- How many of 1 .. n are somewhere. -/
def liveC (pos : Int → Int) : Nat → Nat
  | 0 => 0
  | n + 1 => liveC pos n + (if 0 ≤ pos ((n : Int) + 1) then 1 else 0)
theorem liveC_le (pos : Int → Int) : ∀ n, liveC pos n ≤ n
  | 0 => Nat.le_refl _
  | n + 1 => by have := liveC_le pos n; unfold liveC; split <;> omega
def liveL (pos : Int → Int) : Nat → List Int
  | 0 => []
  | n + 1 => liveL pos n ++ (if 0 ≤ pos ((n : Int) + 1) then [(n : Int) + 1] else [])
theorem liveL_length (pos : Int → Int) : ∀ n, (liveL pos n).length = liveC pos n
  | 0 => rfl
  | n + 1 => by unfold liveL liveC; rw [List.length_append, liveL_length pos n]; split <;> rfl
theorem liveL_mem (pos : Int → Int) : ∀ n x, x ∈ liveL pos n ↔ 1 ≤ x ∧ x ≤ n ∧ 0 ≤ pos x
  | 0, x => by unfold liveL; simp; omega
  | n + 1, x => by
    unfold liveL
    rw [List.mem_append, liveL_mem pos n x]
    by_cases h : 0 ≤ pos ((n : Int) + 1)
    · rw [if_pos h, List.mem_singleton]
      constructor
      · rintro (⟨a, b, c⟩ | rfl)
        · exact ⟨a, by omega, c⟩
        · exact ⟨by omega, by omega, h⟩
      · rintro ⟨a, b, c⟩
        by_cases e : x = (n : Int) + 1
        · exact .inr e
        · exact .inl ⟨a, by omega, c⟩
    · rw [if_neg h]
      simp only [List.not_mem_nil, or_false]
      constructor
      · rintro ⟨a, b, c⟩; exact ⟨a, by omega, c⟩
      · rintro ⟨a, b, c⟩
        refine ⟨a, ?_, c⟩
        by_cases e : x = (n : Int) + 1
        · subst e; exact absurd c h
        · omega
theorem liveL_nodup (pos : Int → Int) : ∀ n, (liveL pos n).Nodup
  | 0 => List.nodup_nil
  | n + 1 => by
    unfold liveL
    refine List.nodup_append.2 ⟨liveL_nodup pos n, by split <;> simp, fun a ha b hb => ?_⟩
    have h1 := ((liveL_mem pos n a).1 ha).2.1
    split at hb
    · have := List.mem_singleton.1 hb; omega
    · simp at hb
theorem Knows.at {pos : Int → Int} {σ : List (Option Int)} (hk : Knows pos σ) (x : Int) (h : 0 ≤ pos x) : ∃ p : Nat, pos x = p ∧ σ.getD p none = some x := by
  by_cases e : ∃ i, σ.getD i none = some x
  · obtain ⟨i, hi⟩ := e
    exact ⟨i, (hk x).1 i hi, hi⟩
  · have := (hk x).2 (fun i hi => e ⟨i, hi⟩)
    omega
theorem live_all {pos : Int → Int} {σ : List (Option Int)} (hk : Knows pos σ) (n : Nat) (h : ∀ x ∈ its σ, 1 ≤ x ∧ x ≤ n) : liveC pos n = (its σ).length := by
  rw [← liveL_length]
  refine ((List.perm_ext_iff_of_nodup (liveL_nodup pos n) (its_nodup hk)).2 (fun x => ?_)).length_eq
  rw [liveL_mem, mem_its]
  constructor
  · rintro ⟨a, b, c⟩
    obtain ⟨p, _, hp⟩ := hk.at x c
    exact ⟨p, hp⟩
  · rintro ⟨p, hp⟩
    obtain ⟨a, b⟩ := h x (mem_its.2 ⟨p, hp⟩)
    have := (hk x).1 p hp
    exact ⟨a, b, by omega⟩
end Go.Proofs.YtanefeeneladnaaDoor
