/- Slices that are read. No program in sight. -/
import Derived.Test.YtonoaklajnfmiaaDoorK1
set_option linter.unusedVariables false
set_option linter.unusedSimpArgs false
namespace Go.Proofs.YtonoaklajnfmiaaDoor
open Go.RowKit

theorem add_add (a : Addr) (i j : Nat) : (a.add i).add j = a.add (i + j) := by
  unfold Addr.add
  by_cases hi : i = 0 <;> by_cases hj : j = 0 <;> simp [hi, hj, Nat.add_assoc]
theorem add_block (a : Addr) (n : Nat) : (a.add n).block = a.block := by unfold Addr.add; split <;> rfl
theorem add_flat (b o j : Nat) : (⟨b, o, none⟩ : Addr).add j = ⟨b, o + j, none⟩ := by unfold Addr.add; split <;> simp_all

/-- The slice v holds just these cells (each element one cell). -/
def Rd (w : World) (v : Value) (xs : List Value) : Prop :=
  ∃ (A : Option Addr) (c : Nat), v = .slice A xs.length c ∧ xs.length ≤ 9223372036854775807 ∧ (0 < xs.length → ∃ ad, A = some ad ∧ ∀ j u, xs[j]? = some u → w.cell? (ad.add j) = some u)
def ints' (xs : List Int) : List Value := xs.map (Value.int .i64)
theorem ints'_length (xs : List Int) : (ints' xs).length = xs.length := by simp [ints']
theorem ints'_get (xs : List Int) (i : Nat) (h : i < xs.length) : (ints' xs)[i]? = some (.int .i64 (xs.getD i 0)) := by
  simp [ints', List.getD_eq_getElem?_getD, List.getElem?_eq_getElem h]

theorem Fr.cell {S : Nat → Prop} {w w' : World} {p : Addr} {v : Value} (hf : Fr S w w') (h : w.cell? p = some v) (hS : ¬ S p.block) : w'.cell? p = some v :=
  (World.cell?_of_block (w := w) (hf.block p.block (World.block_lt_of_cell? w p h) (fun s => (hS s).elim))).trans h
theorem Rd.nil (w : World) : Rd w (.slice none 0 0) [] := ⟨none, 0, rfl, by simp, fun h => by simp at h⟩
theorem Rd.new {w w' : World} {v : Value} {xs : List Value} (h : Rd w v xs) (hf : Fr Nil1 w w') : Rd w' v xs := by
  obtain ⟨A, c, rfl, hb, hA⟩ := h
  refine ⟨A, c, rfl, hb, fun hp => ?_⟩
  obtain ⟨ad, rfl, hc⟩ := hA hp
  exact ⟨ad, rfl, fun j u hu => hf.cell (hc j u hu) (fun s => s)⟩
/-- The same where the array's block is known not to be turned. -/
theorem Rd.fr {w w' : World} {v : Value} {xs : List Value} {S : Nat → Prop} (h : Rd w v xs) (hf : Fr S w w') (hS : ∀ ad n c, v = .slice (some ad) n c → ¬ S ad.block) : Rd w' v xs := by
  obtain ⟨A, c, rfl, hb, hA⟩ := h
  refine ⟨A, c, rfl, hb, fun hp => ?_⟩
  obtain ⟨ad, rfl, hc⟩ := hA hp
  exact ⟨ad, rfl, fun j u hu => hf.cell (hc j u hu) (by rw [add_block]; exact hS ad _ _ rfl)⟩
theorem RowI.rd {w : World} {base : Nat} {v : Value} {xs : List Int} (h : RowI w base v xs) (hb : xs.length ≤ 9223372036854775807) : Rd w v (ints' xs) := by
  rcases h.2 with ⟨rfl, h0⟩ | ⟨g, cap, cur, rfl, hg, hh, h1, h2, h3, h4⟩
  · have : xs = [] := List.eq_nil_of_length_eq_zero h0
    subst this
    exact Rd.nil w
  · refine ⟨some ⟨g, 0, none⟩, cap, by rw [ints'_length], by rw [ints'_length]; exact hb, fun _ => ⟨_, rfl, fun j u hu => h.cells (g := g) rfl j u hu⟩⟩
theorem RowI.nil (w : World) (base : Nat) : RowI w base (.slice none 0 0) [] := World.ownsRow_nil _ _ _ _
theorem RowI.new {w w' : World} {base : Nat} {v : Value} {xs : List Int} (h : RowI w base v xs) (hf : Fr Nil1 w w') : RowI w' base v xs := by
  refine h.kept (row := none) ⟨hf.os, hf.tape, hf.output, hf.size, fun k hk _ => hf.block k hk (fun s => s.elim)⟩ ?_
  cases v.ownBlock <;> simp
theorem RowI.fr {S : Nat → Prop} {w w' : World} {base : Nat} {v : Value} {xs : List Int} (h : RowI w base v xs) (hf : Fr S w w') (hS : ∀ k, base ≤ k → ¬ S k) : RowI w' base v xs := by
  refine ⟨h.1, ?_⟩
  rcases h.2 with h2 | ⟨g, cap, cur, hv, hg, hh, r⟩
  · exact .inl h2
  · exact .inr ⟨g, cap, cur, hv, hg, (hf.block g (Array.getElem?_eq_some_iff.1 hh).1 (fun s => (hS g hg s).elim)).trans hh, r⟩
theorem RowI.mono {w : World} {b b' : Nat} {v : Value} {xs : List Int} (h : RowI w b v xs) (hb : b' ≤ b) : RowI w b' v xs := own_mono h hb
end Go.Proofs.YtonoaklajnfmiaaDoor
