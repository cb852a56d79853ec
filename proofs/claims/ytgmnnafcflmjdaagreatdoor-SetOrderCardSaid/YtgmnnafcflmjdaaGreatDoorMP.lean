/- A map[int]bool of the law's that holds just the keys of a list: in[k], in[k] = true, delete(in, k), len(in). -/
import Derived.Maps.OwnSet
import Derived.Maps.OwnOps
import Derived.StillTailTactics
import Derived.Test.YtgmnnafcflmjdaaGreatDoorSJ
set_option linter.unusedVariables false
set_option linter.unusedSimpArgs false
namespace Go.Proofs.YtgmnnafcflmjdaaGreatDoor
open Go.RowKit Go.Maps

theorem lawIntM : Keyed Tryz.prog 3 := int_keyed Tryz.underlying3
theorem zeroBool (w : World) : (zeroValue 4).run Tryz.prog w = .ok (.bool false) w := by kernel_rfl
theorem plainElem_boolInv {P : Program} {e : TypeId} (he : P.underlying e = some .bool) {v : Value} {z : DataW Unit × List MemPlace} (h : plainElem P e v = some z) : ∃ x, v = .bool x ∧ z = (.lit (.bool x), []) := by
  unfold plainElem at h
  rw [he] at h
  cases v <;> simp at h
  exact ⟨_, rfl, h.symm⟩
theorem isKeyM (a : Int) : WideAt.IsKeyLit (.int .i64 a) := trivial
theorem key_neM {a b : Int} (h : a ≠ b) : (Lit.int .i64 a) ≠ (Lit.int .i64 b) := fun e => h (by injection e)
/-- What a map holds that holds the keys of a list. -/
structure KView (D : DataW Unit) (ks : List Int) : Prop where
  has : ∀ k : Int, Maps.has D (.int .i64 k) = decide (k ∈ ks)
  at' : ∀ k : Int, D.atKey (.int .i64 k) (.lit (.bool false)) = .lit (.bool (decide (k ∈ ks)))
  size : Maps.size D = ks.length
theorem KView.empty : KView (.map []) [] := ⟨fun k => rfl, fun k => rfl, rfl⟩
theorem KView.put {D : DataW Unit} {ks : List Int} (h : KView D ks) (hT : Tidy D) {k : Int} (hk : k ∉ ks) : KView (D.put (.int .i64 k) (.lit (.bool true))) (putK ks k) := by
  refine ⟨fun x => ?_, fun x => ?_, ?_⟩
  · by_cases e : x = k
    · subst e
      rw [has_put_same hT.isMap (isKeyM _)]
      exact (decide_eq_true (mem_putK.2 (.inl rfl))).symm
    · rw [has_put_other (key_neM e), h.has]
      exact decide_eq_decide.2 ⟨fun g => mem_putK.2 (.inr g), fun g => (mem_putK.1 g).resolve_left e⟩
  · by_cases e : x = k
    · subst e
      rw [atKey_put_same hT.isMap (isKeyM _), decide_eq_true (mem_putK.2 (.inl rfl))]
    · rw [atKey_put_other (key_neM e), h.at']
      congr 3
      exact propext ⟨fun g => mem_putK.2 (.inr g), fun g => (mem_putK.1 g).resolve_left e⟩
  · have hs := size_put (k := .int .i64 k) (d := .lit (.bool true)) hT
    rw [hs, h.has, decide_eq_false hk, h.size, putK_length]
    rfl
/-- .. and a key that is there is put again. -/
theorem KView.again {D : DataW Unit} {ks : List Int} (h : KView D ks) (hT : Tidy D) {k : Int} (hk : k ∈ ks) : KView (D.put (.int .i64 k) (.lit (.bool true))) ks := by
  refine ⟨fun x => ?_, fun x => ?_, ?_⟩
  · by_cases e : x = k
    · subst e
      rw [has_put_same hT.isMap (isKeyM _)]
      exact (decide_eq_true hk).symm
    · rw [has_put_other (key_neM e), h.has]
  · by_cases e : x = k
    · subst e
      rw [atKey_put_same hT.isMap (isKeyM _), decide_eq_true hk]
    · rw [atKey_put_other (key_neM e), h.at']
  · have hs := size_put (k := .int .i64 k) (d := .lit (.bool true)) hT
    rw [hs, h.has, decide_eq_true hk, h.size]
    rfl
theorem KView.del {D : DataW Unit} {ks : List Int} (h : KView D ks) (hT : Tidy D) (hU : Up ks) {k : Int} (hk : k ∈ ks) : KView (D.del (.int .i64 k)) (delK ks k) := by
  refine ⟨fun x => ?_, fun x => ?_, ?_⟩
  · by_cases e : x = k
    · subst e
      rw [has_del_same]
      exact (decide_eq_false (fun g => ((mem_delK hU hk).1 g).2 rfl)).symm
    · rw [has_del_other (key_neM e), h.has]
      exact decide_eq_decide.2 ⟨fun g => (mem_delK hU hk).2 ⟨g, e⟩, fun g => ((mem_delK hU hk).1 g).1⟩
  · by_cases e : x = k
    · subst e
      rw [atKey_del_same, decide_eq_false (fun g => ((mem_delK hU hk).1 g).2 rfl)]
    · rw [atKey_del_other (key_neM e), h.at']
      congr 3
      exact propext ⟨fun g => (mem_delK hU hk).2 ⟨g, e⟩, fun g => ((mem_delK hU hk).1 g).1⟩
  · have hs := size_del (k := .int .i64 k) hT
    have := delK_length hU hk
    rw [h.has, decide_eq_true hk, if_pos rfl, h.size] at hs
    omega
/-- .. and a key that is not there goes. -/
theorem KView.gone {D : DataW Unit} {ks : List Int} (h : KView D ks) (hT : Tidy D) {k : Int} (hk : k ∉ ks) : KView (D.del (.int .i64 k)) ks := by
  refine ⟨fun x => ?_, fun x => ?_, ?_⟩
  · by_cases e : x = k
    · subst e
      rw [has_del_same]
      exact (decide_eq_false hk).symm
    · rw [has_del_other (key_neM e), h.has]
  · by_cases e : x = k
    · subst e
      rw [atKey_del_same, decide_eq_false hk]
    · rw [atKey_del_other (key_neM e), h.at']
  · have hs := size_del (k := .int .i64 k) hT
    rw [h.has, decide_eq_false hk, h.size] at hs
    simpa using hs
/-- The map at block b holds just these keys; no more than n entries ever. -/
structure InM (w : World) (b n : Nat) (ks : List Int) : Prop where
  ex : ∃ D : DataW Unit, w.ownsMap Tryz.prog 3 (plainElem Tryz.prog 4) b n D ∧ KView D ks
theorem run_in {w : World} {b n : Nat} {ks : List Int} (H : InM w b n ks) (k : Int) (hk : (Lit.int .i64 k).wf = true) :
    (Instr.lookup 26 (.map (some b)) (.int .i64 k) false).run Tryz.prog w = .ok (.bool (decide (k ∈ ks))) w := by
  obtain ⟨D, hown, hV⟩ := H.ex
  obtain ⟨v, ps, hrun, hR⟩ := hown.lookup lawIntM Tryz.underlying26 (zeroBool w) (plainElem_bool Tryz.underlying4 false) (key := .int .i64 k) (kl := .int .i64 k) (keyOf_int_mk Tryz.underlying3 hk)
  rw [hV.at'] at hR
  obtain ⟨x, rfl, hx⟩ := plainElem_boolInv Tryz.underlying4 hR
  cases hx
  exact hrun
end Go.Proofs.YtgmnnafcflmjdaaGreatDoor
