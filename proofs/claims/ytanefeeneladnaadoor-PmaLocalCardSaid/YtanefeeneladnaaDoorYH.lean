/- PmaLocal: what stands in a window, in plain words; a store beside a row. -/
import Derived.Test.YtanefeeneladnaaDoorGR
set_option linter.unusedVariables false
set_option linter.unusedSimpArgs false
namespace Go.Proofs.YtanefeeneladnaaDoor
open Go.RowKit

/-- The occupied slots from a to b, as one goes up to n. -/
def hereL (σ : List (Option Int)) (a b : Nat) : Nat → List Int
  | 0 => []
  | n + 1 => hereL σ a b n ++ (if a ≤ n ∧ n < b ∧ onOf σ n = true then [(n : Int)] else [])
theorem hereL_length (σ : List (Option Int)) (a b : Nat) : ∀ n, (hereL σ a b n).length ≤ n
  | 0 => Nat.le_refl _
  | n + 1 => by
    have := hereL_length σ a b n
    unfold hereL
    rw [List.length_append]
    split <;> simp <;> omega
theorem hereL_mem (σ : List (Option Int)) (a b : Nat) : ∀ n (x : Int), x ∈ hereL σ a b n ↔ ∃ k : Nat, x = k ∧ k < n ∧ a ≤ k ∧ k < b ∧ onOf σ k = true
  | 0, x => ⟨(fun h => by cases h), (fun ⟨k, _, h, _⟩ => by omega)⟩
  | n + 1, x => by
    unfold hereL
    rw [List.mem_append, hereL_mem σ a b n x]
    by_cases h : a ≤ n ∧ n < b ∧ onOf σ n = true
    · rw [if_pos h, List.mem_singleton]
      constructor
      · rintro (⟨k, h1, h2, h3⟩ | rfl)
        · exact ⟨k, h1, by omega, h3⟩
        · exact ⟨n, rfl, by omega, h⟩
      · rintro ⟨k, h1, h2, h3⟩
        rcases Nat.lt_or_ge k n with g | g
        · exact .inl ⟨k, h1, g, h3⟩
        · exact .inr (by rw [h1, show k = n by omega])
    · rw [if_neg h]
      constructor
      · rintro (⟨k, h1, h2, h3⟩ | h')
        · exact ⟨k, h1, by omega, h3⟩
        · cases h'
      · rintro ⟨k, h1, h2, h3⟩
        rcases Nat.lt_or_ge k n with g | g
        · exact .inl ⟨k, h1, g, h3⟩
        · have : k = n := by omega
          subst this
          exact absurd h3 h
theorem hereL_up (σ : List (Option Int)) (a b : Nat) : ∀ n, (hereL σ a b n).Pairwise (· < ·)
  | 0 => List.Pairwise.nil
  | n + 1 => by
    unfold hereL
    refine List.pairwise_append.2 ⟨hereL_up σ a b n, by split <;> simp, fun x hx y hy => ?_⟩
    obtain ⟨k, rfl, hk, _⟩ := (hereL_mem σ a b n x).1 hx
    split at hy
    · rw [List.mem_singleton.1 hy]; omega
    · cases hy
theorem hereL_is {σ : List (Option Int)} {f s n N : Nat} (h0 : 0 < s) (hn : n ≤ 8 * s) (hN : 8 * (f + s) ≤ N) (h : ∀ k : Nat, 8 * f ≤ k → k < 8 * f + 8 * s → (onOf σ k = true ↔ (k : Int) ∈ plcL n f s)) : hereL σ (8 * f) (8 * (f + s)) N = plcL n f s := by
  have hp := plcL_ok n f s h0 hn
  refine sorted_ext _ _ (hereL_up _ _ _ _) hp.up (fun x => ?_)
  rw [hereL_mem]
  constructor
  · rintro ⟨k, rfl, h1, h2, h3, h4⟩
    exact (h k h2 (by omega)).1 h4
  · intro hx
    have h1 := hp.lo x hx
    have h2 := hp.hi x hx
    refine ⟨x.toNat, by omega, by omega, by omega, by omega, (h _ (by omega) (by omega)).2 ?_⟩
    rwa [Int.toNat_of_nonneg (by omega)]
theorem hereL_nil (σ : List (Option Int)) (a b : Nat) (h : b ≤ a) : ∀ n, hereL σ a b n = []
  | 0 => rfl
  | n + 1 => by unfold hereL; rw [hereL_nil σ a b h n, if_neg (by omega)]; rfl
theorem laid_places {σ : List (Option Int)} {h : Nat} (H : LaidR (its σ) (2 ^ h) σ) (hn : (its σ).length ≤ 8 * 2 ^ h) : idxs (occ σ) = plcL (its σ).length 0 (2 ^ h) := by
  have h0 : 0 < 2 ^ h := Nat.pow_pos (by omega)
  have hp := plcL_ok (its σ).length 0 (2 ^ h) h0 hn
  refine idxs_is hp.up (fun p => ?_)
  constructor
  · intro hx
    have h1 := hp.lo p hx
    have h2 := hp.hi p hx
    refine ⟨p.toNat, by omega, (H.on _ (by omega)).2 ?_⟩
    rwa [Int.toNat_of_nonneg (by omega)]
  · rintro ⟨k, rfl, hk⟩
    have := onOf_lt hk
    exact (H.on k (by have := H.len; omega)).1 hk
theorem RowG.store {w0 wr : World} {p : Nat} {tv : Value} {B : Nat → Prop} {J : List Ev → World → Prop} {F : PF} {σ : List (Option Int)} {h : Nat} {evs : List Ev} (H : RowG w0 p tv B J F σ h evs wr) (T : Hear tv B J) (b i : Nat) (v : Value) (h1 : ¬ F.mem b) (h2 : ¬ B b) (h3 : w0.heap.size ≤ b) (hb : NG ≤ b) : RowG w0 p tv B J F σ h evs (wr.setCell ⟨b, i, none⟩ v) := by
  have hf : Fr (fun k => k = b) wr (wr.setCell ⟨b, i, none⟩ v) := (Fr.refl _ _).setCell _ _ hb (fun _ => rfl)
  exact ⟨H.p, H.r.fr hf (fun k hk e => h1 (e ▸ hk)), H.d, T.keep _ _ _ _ H.jj hf (fun k hk hB => h2 (hk ▸ hB)), H.fr.trans' hf (fun j _ hj e => by have e' : j = b := e; omega), H.mem, fun k hk => ⟨(H.bb k hk).1, by have := (H.bb k hk).2.1; have := hf.size; omega, (H.bb k hk).2.2⟩⟩
end Go.Proofs.YtanefeeneladnaaDoor
