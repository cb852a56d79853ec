/- Law 11: acts, played. -/
import Derived.Test.YtgmnnafcflmjdaaGreatDoorSL
set_option linter.unusedVariables false
set_option linter.unusedSimpArgs false
namespace Go.Proofs.YtgmnnafcflmjdaaGreatDoor
open Go.RowKit

/-- An act of a set. -/
structure AcS where
  goes : Bool
  key : Int
/-- A slice of acts. -/
def RdAs (w : World) (v : Value) (l : List AcS) : Prop :=
  ∃ (A : Option Addr) (c : Nat), v = .slice A l.length c ∧ (∀ a ∈ l, -9223372036854775808 ≤ a.key ∧ a.key ≤ 9223372036854775807) ∧ (0 < l.length → ∃ b o, A = some ⟨b, o, none⟩ ∧ ∀ j a, l[j]? = some a → w.cell? ⟨b, o + j * 2, none⟩ = some (.bool a.goes) ∧ w.cell? ⟨b, o + j * 2 + 1, none⟩ = some (.int .i64 a.key))
theorem RdAs.new {w w' : World} {v : Value} {l : List AcS} (h : RdAs w v l) (hf : Fr Nil1 w w') : RdAs w' v l := by
  obtain ⟨A, c, rfl, hb, hA⟩ := h
  refine ⟨A, c, rfl, hb, fun hp => ?_⟩
  obtain ⟨b, o, rfl, hc⟩ := hA hp
  exact ⟨b, o, rfl, fun j a hj => ⟨hf.cell (hc j a hj).1 (fun s => s), hf.cell (hc j a hj).2 (fun s => s)⟩⟩
theorem InsK.len {ks ks' : List Int} {key er : Int} {S : St} (H : InsK ks key S er ks') : ks'.length ≤ ks.length + 1 := by
  cases H with
  | ok _ _ _ _ hl => rw [hl, putK_length]; omega
  | there _ _ _ hl => rw [hl]; omega
  | full _ _ _ _ hl => rw [hl]; omega
theorem DelK.len {ks ks' : List Int} {key er : Int} {S : St} (hu : Up ks) (H : DelK ks key S er ks') : ks'.length ≤ ks.length := by
  cases H with
  | ok hm _ _ hl => rw [hl]; have := delK_length hu hm; omega
  | none _ _ _ hl => rw [hl]; omega
end Go.Proofs.YtgmnnafcflmjdaaGreatDoor
