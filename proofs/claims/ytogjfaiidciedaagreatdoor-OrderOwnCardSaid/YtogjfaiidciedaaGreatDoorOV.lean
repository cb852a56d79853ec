/- order.List: Row, Table; a table has as many live ones as its list. -/
import Derived.Test.YtogjfaiidciedaaGreatDoorH6
import Derived.Test.YtogjfaiidciedaaGreatDoorOR
set_option linter.unusedVariables false
set_option linter.unusedSimpArgs false
namespace Go.Proofs.YtogjfaiidciedaaGreatDoor
open Go.RowKit Go.Maps

section
variable {w0 w : World} {L bl p : Nat} {tf : TF} {F : PF} {σ : List (Option Int)} {h : Nat} {τ : List (Option Int)}
theorem OrdR.inj (H : OrdR w0 L bl p tf F σ h τ w) {i j : Nat} {a : Int} (hi : (its σ)[i]? = some a) (hj : (its σ)[j]? = some a) : i = j := by
  have h1 := H.lt hi hj
  have h2 := H.lt hj hi
  omega
theorem slotAt_live (τ : List (Option Int)) (x : Int) : liveB τ x = true ↔ x - 1 ∈ idxs (occ τ) := by
  have e := (idxs_to τ τ.length).2 (x - 1)
  unfold occ
  rw [e]
  unfold liveB slotAt
  by_cases h1 : 1 ≤ x
  · rw [if_pos h1]
    constructor
    · intro h
      exact ⟨x.toNat - 1, by omega, onOf_lt h, h⟩
    · rintro ⟨k, e, hk, ho⟩
      rw [show x.toNat - 1 = k by omega]
      exact ho
  · rw [if_neg h1]
    constructor
    · intro h; cases h
    · rintro ⟨k, e, _, _⟩; omega
theorem OrdR.count (H : OrdR w0 L bl p tf F σ h τ w) : (occ τ).length = (its σ).length := by
  have h1 : ((idxs (occ τ)).map fun x => x + 1).Nodup := by
    have := (idxs_to τ τ.length).1
    unfold List.Nodup
    rw [List.pairwise_map]
    exact this.imp (fun h e => by omega)
  have h2 : (its σ).Nodup := by
    unfold List.Nodup
    rw [List.pairwise_iff_getElem]
    intro i j hi hj hij e
    have := H.inj (List.getElem?_eq_some_iff.2 ⟨hi, rfl⟩) (List.getElem?_eq_some_iff.2 ⟨hj, e.symm⟩)
    omega
  have h3 := ((List.perm_ext_iff_of_nodup h1 h2).2 (fun x => by
    rw [← H.live x, slotAt_live, List.mem_map]
    constructor
    · rintro ⟨a, ha, rfl⟩; rw [show a + 1 - 1 = a by omega]; exact ha
    · intro h; exact ⟨x - 1, h, by omega⟩)).length_eq
  rw [List.length_map] at h3
  unfold idxs at h3
  rw [List.length_map] at h3
  exact h3
theorem ordTable_any (H : OrdR w0 L bl p tf F σ h τ w) :
    Calls Tryz.prog 23 #[.pointer (some ⟨L, 0, none⟩)] w fun e w' => ∃ f' : TF, e = .returned (.pointer (some ⟨f'.t, 0, none⟩)) ∧ Hid (TabR w' f' τ ∧ Fr Nil1 w w' ∧ ∀ k, f'.mem k → w.heap.size ≤ k) := by
  obtain ⟨c0, c1, _⟩ := H.lst.two
  have HT := hid (tabClone_any H.tab H.row.r.sl.g.size)
  clear H
  go_enter Tryz.func23, Tryz.ntmps23
  go_wp2_with (go_at_call 44; refine HT.out.mono ?_; rintro e w1 ⟨f', rfl, h1, h2, h3⟩; have H1 := hid (And.intro h1 (And.intro h2 h3)); clear h1 h2 h3)
  go_ret
  exact ⟨f', rfl, H1⟩
theorem ordRow_any (H : OrdR w0 L bl p tf F σ h τ w) :
    Calls Tryz.prog 24 #[.pointer (some ⟨L, 0, none⟩)] w fun e w' => ∃ F' : PF, e = .returned (.pointer (some ⟨F'.p, 0, none⟩)) ∧ Hid (PmaR w' F' σ h Value.nilFunc ∧ Fr Nil1 w w' ∧ ∀ k, F'.mem k → w.heap.size ≤ k) := by
  obtain ⟨c0, c1, _⟩ := H.lst.two
  have HT := hid (pmaClone_any H.row.r)
  rw [H.row.p] at HT
  clear H
  go_enter Tryz.func24, Tryz.ntmps24
  go_wp2_with (go_at_call 45; refine HT.out.mono ?_; rintro e w1 ⟨f', rfl, h1, h2, h3⟩; have H1 := hid (And.intro h1 (And.intro h2 h3)); clear h1 h2 h3)
  go_ret
  exact ⟨f', rfl, H1⟩
end
end Go.Proofs.YtogjfaiidciedaaGreatDoor
