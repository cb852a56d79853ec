/- bulk.Steps of few keys, put into a set of few (for the chapter's examples). -/
import Derived.Test.YtechphliifginaaGreatDoorBQ
set_option linter.unusedVariables false
set_option linter.unusedSimpArgs false
namespace Go.Proofs.YtechphliifginaaGreatDoor
open Go.RowKit

theorem small_pick {τ : List (Option Int)} (hl : τ.length = 32) (hT : (its τ).length ≤ 7) {seg : Nat} (hs : seg < 4) : pickS (cntsL τ) seg 2 = (⟨1, seg, 1, 32⟩, 0) := by
  have hcl : (cntsL τ).length = 4 := by rw [cntsL_length, hl]
  have hg := cntsL_getD τ seg (by rw [hl]; omega)
  have hc : segC τ seg ≤ 7 := by
    have h1 := cntOn_le_of (onOf τ) (show 8 * (seg + 1) ≤ τ.length by omega)
    rw [its_length] at hT
    unfold segC
    omega
  have hw : wsum (cntsL τ) seg 1 = (segC τ seg : Int) := by
    rw [← hg]
    unfold wsum
    rw [show ((cntsL τ).drop seg).take 1 = [(cntsL τ).getD seg 0] from by
      rw [List.drop_eq_getElem_cons (by omega), List.take_succ_cons, List.take_zero, List.getD_eq_getElem?_getD, List.getElem?_eq_getElem (by omega)]
      rfl]
    simp [sumI]
  have hwf : withinF (wsum (cntsL τ) (winF seg 0) (2 ^ 0)) 0 2 = 0 := by
    have e0 : winF seg 0 = seg := by unfold winF; simp [Nat.mod_one]
    rw [e0, Nat.pow_zero, hw]
    unfold withinF
    have m1 : manyF 0 2 = 14 := by decide
    have m2 : fewF 0 2 ≤ 0 := by decide
    rw [m1, if_neg (by omega), if_neg (by omega)]
  have hlv : lvl (cntsL τ) seg 2 = some 0 := by
    unfold lvl findF
    rw [if_pos hwf]
  unfold pickS
  rw [hlv, hcl]
  simp [winF, Nat.mod_one]
/-- A set of few keys, and a block beside it. -/
structure SmB (w0 : World) (s : Nat) (ks : List Int) (b : Nat) (w : World) : Prop where
  ex : ∃ (p : Nat) (F : PF) (σ : List (Option Int)) (evs : List Ev), SetS w0 s p F σ 2 evs w ∧ its σ = ks ∧ ¬ SetB F s b
  lt : b < w.heap.size
section
variable {w0 w : World} {s : Nat} {ks : List Int} {b : Nat}
theorem SmB.new {w' : World} (H : SmB w0 s ks b w) (hf : Fr Nil1 w w') : SmB w0 s ks b w' := by
  obtain ⟨p, F, σ, evs, a, e, n⟩ := H.ex
  exact ⟨⟨p, F, σ, evs, a.new hf, e, n⟩, by have := H.lt; have := hf.size; omega⟩
theorem SmB.ss (H : SmB w0 s ks b w) : SS w0 s ks w := by
  obtain ⟨p, F, σ, evs, a, rfl, _⟩ := H.ex
  exact ⟨⟨p, F, σ, _, evs, a, rfl⟩, a.up, a.row.fr⟩
theorem SmB.insert (H : SmB w0 s ks b w) (hT : ks.length ≤ 6) (key : Int) :
    Calls Tryz.prog 46 #[.pointer (some ⟨s, 0, none⟩), .int .i64 key] w fun e w' => ∃ (S : St) (er : Int), e = .returned (.tuple #[.agg #[.int .i64 S.k, .int .i64 S.f, .int .i64 S.s, .int .i64 S.c], .int .i64 er]) ∧ Hid (SmB w0 s (putA ks key) b w' ∧ (S.s = if key ∈ ks then 0 else 1) ∧ (er = if key ∈ ks then 15 else 0) ∧ (∀ c T, Has w b c T → Has w' b c T) ∧ w.heap.size ≤ w'.heap.size) := by
  obtain ⟨p, F, σ, evs, a, rfl, nb⟩ := H.ex
  refine (setInsert_any a (by omega) key).mono ?_
  rintro e w' ⟨S, er, rfl, H2⟩
  obtain ⟨F', σ', h', evs', hS, hQ, hm, hf⟩ := H2.out
  have hl := H.lt
  have hmem : ¬ SetB F' s b := fun hk => by
    rcases hk with g | g
    · rcases hm b g with g | g
      · exact nb (.inl g)
      · omega
    · exact nb (.inr g)
  have hHas : ∀ c T, Has w b c T → Has w' b c T := fun c T hc => hc.fr' hf (fun g => nb (.inl g))
  cases hQ with
  | ok bh seg next v ev hnm hlt hb hs hc he k =>
    obtain ⟨τ, a1, a2, a3, a4, a5, a6⟩ := k.step
    have hit : its σ' = putK (its σ) key := by rw [k.items]; exact putK_at hc
    have hlen : (its τ).length ≤ 7 := by
      rw [a4, k.items, List.length_append, List.length_cons, List.length_take, List.length_drop]
      omega
    have hsl : σ.length = 32 := a.row.d.len
    rw [small_pick (by rw [a2, hsl]) hlen (by simpa using hs)] at a6
    have hSS : S = ⟨1, seg, 1, 32⟩ := by injection a6 with h _; exact h.symm
    subst hSS
    have hh2 : h' = 2 := by
      cases a5 with
      | win m hm e hh k => exact hh
      | anew kd hk e hh k => injection e with e _; omega
    subst hh2
    have hpa : putA (its σ) key = putK (its σ) key := by unfold putA; rw [if_neg hnm]
    refine ⟨_, er, rfl, hid ⟨⟨⟨p, F', σ', evs', hS, by rw [hpa, hit], hmem⟩, by have := hf.size; omega⟩, by rw [if_neg hnm], by rw [if_neg hnm]; exact he, hHas, hf.size⟩⟩
  | there hnm he hSz hσ hh =>
    subst hσ hh hSz
    have hpa : putA (its σ') key = its σ' := by unfold putA; rw [if_pos hnm]
    exact ⟨_, er, rfl, hid ⟨⟨⟨p, F', σ', evs', hS, hpa.symm, hmem⟩, by have := hf.size; omega⟩, by rw [if_pos hnm], by rw [if_pos hnm]; exact he, hHas, hf.size⟩⟩
  | full _ hT2 _ _ _ _ => omega
end
/-- How many of some keys are new. -/
def newC (ks : List Int) : List Int → Nat
  | [] => 0
  | k :: l => (if k ∈ ks then 0 else 1) + newC (putA ks k) l
theorem newC_snoc (x : Int) : ∀ (l ks : List Int), newC ks (l ++ [x]) = newC ks l + (if x ∈ l.foldl putA ks then 0 else 1)
  | [], ks => by
    show (if x ∈ ks then 0 else 1) + 0 = 0 + (if x ∈ ks then 0 else 1)
    omega
  | k :: l, ks => by
    show (if k ∈ ks then 0 else 1) + newC (putA ks k) (l ++ [x]) = (if k ∈ ks then 0 else 1) + newC (putA ks k) l + _
    rw [newC_snoc x l (putA ks k), List.foldl_cons]
    omega
theorem newC_le : ∀ (l ks : List Int), newC ks l ≤ l.length
  | [], _ => Nat.le_refl _
  | k :: l, ks => by
    have := newC_le l (putA ks k)
    unfold newC
    rw [List.length_cons]
    split <;> omega
theorem foldA_len : ∀ (l ks : List Int), (l.foldl putA ks).length ≤ ks.length + l.length
  | [], _ => Nat.le_refl _
  | k :: l, ks => by
    have h1 := foldA_len l (putA ks k)
    have h2 := putA_length ks k
    rw [List.foldl_cons, List.length_cons]
    omega
set_option maxRecDepth 100000 in
theorem bulkSteps_small {w0 w : World} {s b : Nat} {ks : List Int} (H : SmB w0 s ks b w) (l : List Int) (hl : ks.length + l.length ≤ 7) (hb : Has w b (ints' l) 3) :
    Calls Tryz.prog 66 #[.pointer (some ⟨s, 0, none⟩), .slice (some ⟨b, 0, none⟩) l.length l.length] w fun e w' => e = .returned (.tuple #[.int .i64 (newC ks l : Nat), .int .i64 0]) ∧ Fr Nil1 w0 w' := by
  have HS := hid (And.intro H hb)
  have HL := hid hl
  clear H hb hl
  go_enter Tryz.func66, Tryz.ntmps66
  go_wp2_with fail
  go_loopw [4, 5, 6, 8, 10, 15] (fun a b' n _ _ i wr => ∃ j : Nat, j ≤ l.length ∧ a = .int .i64 0 ∧ b' = .int .i64 0 ∧ n = .int .i64 (newC ks (l.take j) : Nat) ∧ i = .int .i64 j ∧ Hid (SmB w0 s ((l.take j).foldl putA ks) b wr ∧ Has wr b (ints' l) 3)) (fun _ _ _ _ _ i _ => (l.length - intOf i).toNat)
  case atStart => exact ⟨0, by omega, rfl, rfl, rfl, rfl, HS⟩
  case round =>
    obtain ⟨j, hj, rfl, rfl, rfl, rfl, HW⟩ := hrel
    by_cases hlt : j < l.length
    · have c0 := HW.out.2.cell j
      rw [ints'_get l j hlt] at c0
      have hcl := foldA_len (l.take j) ks
      rw [List.length_take] at hcl
      have HT := hid (take_get hlt)
      have HIn := hid (HW.out.1.insert (by have := HL.out; omega) (l.getD j 0))
      have hsn := newC_snoc (l.getD j 0) (l.take j) ks
      have hnb := newC_le (l.take j) ks
      rw [List.length_take] at hnb
      have HJ := hid (And.intro hj hlt)
      have hjI : (j : Int) < l.length := by omega
      have hj0 : (0 : Int) ≤ j := by omega
      have hl7 := HL.out
      obtain ⟨cur, hcur⟩ : ∃ cur, (l.take j).foldl putA ks = cur := ⟨_, rfl⟩
      have HCur := hid hcur
      rw [hcur] at HIn hsn HW
      have HSn := hid hsn
      obtain ⟨nn, hnn⟩ : ∃ nn, newC ks (l.take j) = nn := ⟨_, rfl⟩
      have HNn := hid hnn
      rw [hnn] at hnb ⊢
      clear hcl hsn hj hlt hcur hnn
      generalize l.getD j 0 = x at *
      by_cases hx : x ∈ cur
      · have HX := hid hx
        clear hx
        go_wp2_with (first
          | (go_at_call 46; (with_reducible refine HIn.out.mono ?_); rintro e w1 ⟨S, er, rfl, H1⟩; have hs0 : S.s = 0 := H1.out.2.1.trans (if_pos HX.out); obtain rfl : er = 15 := H1.out.2.2.1.trans (if_pos HX.out)))
        refine ⟨⟨j + 1, by have := HJ.out; omega, rfl, rfl, ?_, by go_num, hid ⟨?_, (H1.out.2.2.2.1 _ _ HW.out.2).alloc _⟩⟩, by have := HJ.out; simp [intOf]; omega⟩
        · rw [HT.out, HSn.out, HNn.out, if_pos HX.out]
          rfl
        · rw [HT.out, List.foldl_append, HCur.out]
          exact H1.out.1.new ((Fr.refl _ _).alloc _)
      · have HX := hid hx
        clear hx
        go_wp2_with (first
          | (go_at_call 46; (with_reducible refine HIn.out.mono ?_); rintro e w1 ⟨S, er, rfl, H1⟩; have hs0 : S.s = 1 := H1.out.2.1.trans (if_neg HX.out); obtain rfl : er = 0 := H1.out.2.2.1.trans (if_neg HX.out)))
        refine ⟨⟨j + 1, by have := HJ.out; omega, rfl, rfl, ?_, by go_num, hid ⟨?_, (H1.out.2.2.2.1 _ _ HW.out.2).alloc _⟩⟩, by have := HJ.out; simp [intOf]; omega⟩
        · rw [HT.out, HSn.out, HNn.out, if_neg HX.out]
          rfl
        · rw [HT.out, List.foldl_append, HCur.out]
          exact H1.out.1.new ((Fr.refl _ _).alloc _)
    · have hj' : j = l.length := by omega
      have hlI : ¬ (l.length : Int) < l.length := by omega
      have HE := hid (show newC ks (l.take j) = newC ks l from by rw [hj', List.take_length])
      have HFr := hid HW.out.1.ss.fr
      rw [HE.out, hj']
      clear hj' hlt hj
      go_wp2_with fail
      go_ret2
      exact ⟨rfl, HFr.out⟩
end Go.Proofs.YtechphliifginaaGreatDoor
