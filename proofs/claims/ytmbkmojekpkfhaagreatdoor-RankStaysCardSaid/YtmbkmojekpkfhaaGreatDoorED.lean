/- set.Of: keys that rise. -/
import Derived.Test.YtmbkmojekpkfhaaGreatDoorEC
set_option linter.unusedVariables false
set_option linter.unusedSimpArgs false
namespace Go.Proofs.YtmbkmojekpkfhaaGreatDoor
open Go.RowKit

theorem up_getD {l : List Int} (H : Up l) {i : Nat} (h : i + 1 < l.length) : l.getD i 0 < l.getD (i + 1) 0 := by
  have h1 : l[i]? = some (l.getD i 0) := by rw [List.getD_eq_getElem?_getD, List.getElem?_eq_getElem (show i < l.length by omega)]; rfl
  have h2 : l[i + 1]? = some (l.getD (i + 1) 0) := by rw [List.getD_eq_getElem?_getD, List.getElem?_eq_getElem h]; rfl
  exact (up_get H h1 h2).2 (by omega)
set_option maxRecDepth 100000 in
set_option maxHeartbeats 2000000 in
theorem setOf_any (l : List Int) (hU : Up l) (hn : l.length ≤ 2560) {u : Value} {w : World} (hu : Rd w u (ints' l)) (hg : GW w) :
    Calls Tryz.prog 68 #[u] w fun e w' => ∃ (s p : Nat) (F : PF) (τ : List (Option Int)), e = .returned (.tuple #[.pointer (some ⟨s, 0, none⟩), .int .i64 0]) ∧ Hid (SetS w s p F τ (forH l.length) [] w' ∧ Fr Nil1 w w' ∧ LaidR l (2 ^ forH l.length) τ) := by
  have HO := hid (fun (m : Nat) => pmaOfNil_ok l hn (hu.new ((Fr.refl Nil1 w).drewN m)) (hg.fr ((Fr.refl Nil1 w).drewN m)))
  obtain ⟨A, c, rfl, hb, hA⟩ := hu
  rw [ints'_length] at hb hA HO ⊢
  have HA := hid hA
  have HU := hid hU
  have HN := hid hn
  have HG := hid hg
  clear hA hU hn hg hb
  go_enter Tryz.func68, Tryz.ntmps68
  go_wp2_with fail
  go_loopw [4] (fun i wr => ∃ (k m : Nat), 1 ≤ k ∧ (k ≤ l.length ∨ k = 1) ∧ i = .int .i64 k ∧ wr = w.drewN m) (fun i _ => (l.length - intOf i).toNat)
  case atStart => exact ⟨1, 0, by omega, .inr rfl, rfl, rfl⟩
  case round =>
    obtain ⟨k, m, hk1, hk, rfl, rfl⟩ := hrel
    by_cases hlt : k < l.length
    · have hltI : (k : Int) < l.length := by omega
      obtain ⟨ad, rfl, hc⟩ := HA.out (by omega)
      obtain ⟨j, hj⟩ : ∃ j, k = j + 1 := ⟨k - 1, by omega⟩
      have c1 := hc k _ (ints'_get l k hlt)
      have c0 := hc j _ (ints'_get l j (by omega))
      have hup : l.getD j 0 < l.getD k 0 := by rw [hj]; exact up_getD HU.out (by omega)
      have e2 : IntKind.i64.wrap ((k : Int) - 1) = (j : Int) := by rw [show (k : Int) - 1 = (j : Int) by omega]; exact IntWalk.i64_in _ (by have := HN.out; omega)
      have j0 : (0 : Int) ≤ (j : Int) := by omega
      have hkb : (k : Int) < 2560 := by have := HN.out; omega
      have j1 : (j : Int) < (l.length : Int) := by omega
      have hd : decide (l.getD k 0 ≤ l.getD j 0) = false := decide_eq_false (by omega)
      have HX := hid (And.intro hk1 (And.intro hk hj))
      clear hk1 hk hc hup hj
      generalize l.getD k 0 = x at *
      generalize l.getD j 0 = y at *
      go_wp2_with fail
      go_quiet (fail)
      go_wp2_with fail
      exact ⟨⟨k + 1, m + nq, by omega, .inl (by omega), by go_num, rfl⟩, by simp [intOf]; omega⟩
    · have HX := hid (And.intro hk1 hk)
      have hltI : ¬ (k : Int) < l.length := by omega
      clear hk1 hk
      go_wp2_with (go_at_call 117; refine (HO.out m).mono ?_; rintro e w1 ⟨F, τ, rfl, H1⟩)
      go_ret2
      have hf : Fr Nil1 w w1 := ((Fr.refl Nil1 w).drewN m).trans H1.out.2.2.1
      have hs := hf.size
      have hlt1 := H1.out.2.1.lt
      have hmem : ∀ k, F.mem k → w.heap.size ≤ k := fun k hk => by have := H1.out.2.2.2 k hk; simpa using this
      exact ⟨w1.heap.size, F.p, F, τ, rfl, hid ⟨⟨⟨rfl, H1.out.2.1.new ((Fr.refl _ _).alloc _), forH_dn HN.out H1.out.1, trivial, hf.alloc _, hmem, fun k hk => hk.elim⟩, Has.new w1 _ _, fun hk => by have := hlt1 _ hk; omega, hs, by have := HG.out.size; omega, by rw [H1.out.1.items]; exact HU.out⟩, hf.alloc _, H1.out.1⟩⟩
theorem SS.of (l : List Int) (hU : Up l) (hn : l.length ≤ 2560) {u : Value} {w : World} (hu : Rd w u (ints' l)) (hg : GW w) :
    Calls Tryz.prog 68 #[u] w fun e w' => ∃ s : Nat, e = .returned (.tuple #[.pointer (some ⟨s, 0, none⟩), .int .i64 0]) ∧ Hid (SS w s l w') := by
  refine (setOf_any l hU hn hu hg).mono ?_
  rintro e w' ⟨s, p, F, τ, rfl, H⟩
  exact ⟨s, rfl, hid ⟨⟨p, F, τ, _, [], H.out.1, H.out.2.2.items⟩, hU, H.out.2.1⟩⟩
end Go.Proofs.YtmbkmojekpkfhaaGreatDoor
