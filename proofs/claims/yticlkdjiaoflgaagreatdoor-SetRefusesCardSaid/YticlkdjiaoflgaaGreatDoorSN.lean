/- Law 11: acts, played. -/
import Derived.Test.YticlkdjiaoflgaaGreatDoorSM
set_option linter.unusedVariables false
set_option linter.unusedSimpArgs false
namespace Go.Proofs.YticlkdjiaoflgaaGreatDoor
open Go.RowKit

/-- An act of a set. -/
structure AcS where
  goes : Bool
  key : Int
/-- A slice of acts. -/
def RdAs (w : World) (v : Value) (l : List AcS) : Prop :=
  ∃ (A : Option Addr) (c : Nat), v = .slice A l.length c ∧ (∀ a ∈ l, -9223372036854775808 ≤ a.key ∧ a.key ≤ 9223372036854775807) ∧ (0 < l.length → ∃ b o, A = some ⟨b, o, none⟩ ∧ ∀ j a, l[j]? = some a → w.cell? ⟨b, o + j * 2, none⟩ = some (.bool a.goes) ∧ w.cell? ⟨b, o + j * 2 + 1, none⟩ = some (.int .i64 a.key))
theorem RdAs.new {w w' : World} {v : Value} {l : List AcS} (h : RdAs w v l) (hf : Fr Nil1 w w') : RdAs w' v l := by
  obtain ⟨A, c, rfl, hb, hA⟩ := h
  refine ⟨A, c, rfl, hb, fun hp => ?_⟩
  obtain ⟨b, o, rfl, hc⟩ := hA hp
  exact ⟨b, o, rfl, fun j a hj => ⟨hf.cell (hc j a hj).1 (fun s => s), hf.cell (hc j a hj).2 (fun s => s)⟩⟩
theorem InsK.len {ks ks' : List Int} {key er : Int} {S : St} (H : InsK ks key S er ks') : ks'.length ≤ ks.length + 1 := by
  cases H with
  | ok _ _ _ _ hl => rw [hl, putK_length]; omega
  | there _ _ _ hl => rw [hl]; omega
  | full _ _ _ _ hl => rw [hl]; omega
theorem DelK.len {ks ks' : List Int} {key er : Int} {S : St} (hu : Up ks) (H : DelK ks key S er ks') : ks'.length ≤ ks.length := by
  cases H with
  | ok hm _ _ hl => rw [hl]; have := delK_length hu hm; omega
  | none _ _ _ hl => rw [hl]; omega
theorem played_many (v : Value) (l : List AcS) (w : World) (hv : RdAs w v l) (hN : 200 < l.length) : Calls Tryz.prog 10 #[v] w fun e w' => e = .returned (.tuple #[.pointer none, .bool false]) ∧ w = w' := by
  obtain ⟨A, c, rfl, _, _⟩ := hv
  have hI : (200 : Int) < (l.length : Int) := by omega
  go_enter Tryz.func10, Tryz.ntmps10
  go_wp2_with fail
  go_ret2
  exact ⟨rfl, rfl⟩
set_option maxRecDepth 100000 in
set_option maxHeartbeats 4000000 in
theorem played_any (v : Value) (l : List AcS) (w : World) (hv : RdAs w v l) (hN : l.length ≤ 200) (hg : GW w) : Calls Tryz.prog 10 #[v] w fun e w' => ∃ (s : Nat) (ks : List Int), e = .returned (.tuple #[.pointer (some ⟨s, 0, none⟩), .bool true]) ∧ Hid (SS w s ks w' ∧ ks.length ≤ 200) := by
  have HNew := hid (SS.start w hg)
  obtain ⟨A, c, rfl, hb, hA⟩ := hv
  have HA := hid hA
  have hI : ¬ (200 : Int) < (l.length : Int) := by omega
  clear hb hA hg
  go_enter Tryz.func10, Tryz.ntmps10
  go_wp2_with (go_at_call 16; refine HNew.out.mono ?_; rintro e w1 ⟨s, rfl, H1⟩)
  go_loopw [5] (fun i wr => ∃ (k : Nat) (ks : List Int), k ≤ l.length ∧ i = .int .i64 k ∧ Hid (SS w s ks wr ∧ ks.length ≤ k)) (fun i _ => (l.length - intOf i).toNat)
  case atStart => exact ⟨0, [], by omega, rfl, hid ⟨H1.out, by simp⟩⟩
  case round =>
    obtain ⟨k, ks, hk, rfl, HW⟩ := hrel
    by_cases hlt : k < l.length
    · have hltI : (k : Int) < l.length := by omega
      obtain ⟨b, o, rfl, hc⟩ := HA.out (by omega)
      obtain ⟨a, ha⟩ : ∃ a, l[k]? = some a := ⟨_, List.getElem?_eq_getElem hlt⟩
      obtain ⟨q0, q1⟩ := hc k a ha
      obtain ⟨goes, key⟩ := a
      have c0 := HW.out.1.fr.cell q0 id
      have c1 := HW.out.1.fr.cell q1 id
      have HD := hid (HW.out.1.delete (by have := HW.out.2; omega) key)
      have HI := hid (HW.out.1.insert (by have := HW.out.2; omega) key)
      clear q0 q1 hc ha
      cases goes with
      | true =>
        go_wp2_with (go_at_call 17; (with_reducible refine HD.out.mono ?_); rintro e w2 ⟨S, er, ks', rfl, H2⟩)
        exact ⟨⟨k + 1, ks', by omega, by go_num, hid ⟨H2.out.1, by have := H2.out.2.len HW.out.1.up; have := HW.out.2; omega⟩⟩, by simp [intOf]; omega⟩
      | false =>
        go_wp2_with (go_at_call 18; (with_reducible refine HI.out.mono ?_); rintro e w2 ⟨S, er, ks', rfl, H2⟩)
        exact ⟨⟨k + 1, ks', by omega, by go_num, hid ⟨H2.out.1, by have := H2.out.2.len; have := HW.out.2; omega⟩⟩, by simp [intOf]; omega⟩
    · have hltI : ¬ (k : Int) < l.length := by omega
      go_wp2_with fail
      go_ret2
      have hks : ks.length ≤ 200 := by have := HW.out.2; omega
      exact ⟨s, rfl, ks, hid ⟨HW.out.1, hks⟩⟩
end Go.Proofs.YticlkdjiaoflgaaGreatDoor
