/- PmaList: what its acts do, as contracts. -/
import Derived.Test.YtanefeeneladnaaDoorYJ
set_option linter.unusedVariables false
set_option linter.unusedSimpArgs false
namespace Go.Proofs.YtanefeeneladnaaDoor
open Go.RowKit

theorem RowG.placesL {w0 wr : World} {p : Nat} {tv : Value} {B : Nat → Prop} {J : List Ev → World → Prop} {F : PF} {σ : List (Option Int)} {h : Nat} {evs : List Ev} (H : RowG w0 p tv B J F σ h evs wr) (T : Hear tv B J) {f' : SF} (hs : SlotsR wr f' σ) {n : Nat} (hn : (its σ).length = n) : Calls Tryd.prog 12 #[.pointer (some ⟨f'.s, 0, none⟩)] wr fun e w' => ∃ A c, e = .returned (.slice A n c) ∧ Hid (Rd w' (.slice A n c) (ints' (idxs (occ σ))) ∧ RowG w0 p tv B J F σ h evs w' ∧ Fr Nil1 wr w') := by
  refine (H.placesR T hs).mono ?_
  rintro e w' ⟨v, rfl, h1⟩
  obtain ⟨A, c, e, _⟩ := h1.out.1
  have hl : (ints' (idxs (occ σ))).length = n := by rw [ints'_length, H.small.2, hn]
  rw [hl] at e
  subst e
  exact ⟨A, c, rfl, h1⟩
/-- A slice that is built by appends, from nil. -/
structure ApI (W : World) (xs : List Int) (v : Value) (w : World) : Prop where
  row : RowI w W.heap.size v xs
  fr : Fr Nil1 W w
  nil : xs = [] → v = .slice none 0 0
theorem ApI.start (W : World) : ApI W [] (.slice none 0 0) W := ⟨RowI.nil _ _, Fr.refl _ _, fun _ => rfl⟩
theorem ApI.new {W w w' : World} {xs : List Int} {v : Value} (H : ApI W xs v w) (hf : Fr Nil1 w w') : ApI W xs v w' := ⟨H.row.new hf, H.fr.trans hf, H.nil⟩
theorem ApI.step {W w w' : World} {xs ys : List Int} {v v' : Value} (H : ApI W xs v w) (hG : NG ≤ W.heap.size) (hr : RowI w' W.heap.size v' (xs ++ ys)) (hg : w.grownBy w' v.ownBlock) (hn : v' = .slice none 0 0 ↔ v = .slice none 0 0 ∧ ys.length = 0) : ApI W (xs ++ ys) v' w' := by
  refine ⟨hr, H.fr.grown hg (fun k e => by have := (own_lt H.row k e).1; omega) (fun k e hk => by have := (own_lt H.row k e).1; omega), fun h => ?_⟩
  obtain ⟨h1, h2⟩ := List.append_eq_nil_iff.1 h
  exact hn.2 ⟨H.nil h1, by rw [h2]; rfl⟩
theorem rd_one (w : World) (x : Int) : Rd (w.alloc (.cells #[.int .i64 x] 3)) (.slice (some ⟨w.heap.size, 0, none⟩) 1 1) (ints' [x]) := by
  refine ⟨_, 1, rfl, by rw [ints'_length, List.length_singleton]; omega, fun _ => ⟨_, rfl, fun j u hj => ?_⟩⟩
  rw [add_flat, Nat.zero_add]
  exact ((Has.new w [.int .i64 x] 3).cell j).trans hj
theorem rd_zero {w : World} (A : Option Addr) (c : Nat) {xs : List Int} (h : xs = []) : Rd w (.slice A 0 c) (ints' xs) := by
  subst h
  exact ⟨A, c, rfl, by decide, fun h => by simp [ints'] at h⟩
theorem RowN.lenN {w0 wr : World} {p : Nat} {F : PF} {σ : List (Option Int)} {h : Nat} {evs : List Ev} (H : RowN w0 p F σ h evs wr) {L : Nat} (hL : (its σ).length = L) (w' : World) (hf : Fr Nil1 wr w') :
    Calls Tryd.prog 16 #[.pointer (some ⟨p, 0, none⟩)] w' fun e w'' => e = .returned (.int .i64 L) ∧ w' = w'' := by
  subst hL
  exact RowG.len (RowG.new H hearN hf)
theorem cnt_next {σ : List (Option Int)} {q : Nat} (h : onOf σ q = true) : cntOn (onOf σ) (q + 1) = cntOn (onOf σ) q + 1 := cntOn_on (onOf σ) q h
theorem LiA.fr1 {w0 : World} {p : Nat} {F' : PF} {σ' : List (Option Int)} {h' : Nat} {evs' : List Ev} {Fh : PF} {σh : List (Option Int)} {hh : Nat} {v4 v6 : Value} {xs : List Int} {wr w' : World} (H : LiA w0 p F' σ' h' evs' Fh σh hh v4 v6 xs wr) {BS : Nat} (hf : Fr (fun k => k = BS) wr w')
    (n1 : ¬ F'.mem BS) (n2 : ¬ Fh.mem BS) (n4 : v4.ownBlock ≠ some BS) (n6 : v6.ownBlock ≠ some BS) (g : w0.heap.size ≤ BS) : LiA w0 p F' σ' h' evs' Fh σh hh v4 v6 xs w' :=
  ⟨⟨H.r.p, H.r.r.fr hf (fun k hk e => n1 (e ▸ hk)), H.r.d, trivial, H.r.fr.trans' hf (fun j _ hj e => by have e' : j = BS := e; omega), H.r.mem, fun k hk => hk.elim⟩, H.c.fr hf (fun k hk e => n2 (e ▸ hk)), H.l.frO hf (fun b hb e => n4 (e ▸ hb)), H.t.frO hf (fun b hb e => n6 (e ▸ hb)), H.d1, H.d6, H.cm, H.dh⟩
theorem LiW.del {w0 : World} {p : Nat} {F : PF} {σ : List (Option Int)} {h : Nat} {evs : List Ev} {Fh : PF} {σh : List (Option Int)} {hh : Nat} {v4 v6 : Value} {wr : World} (H : LiW w0 p F σ h evs Fh σh hh v4 v6 wr) (hT : (its σ).length ≤ 2560) {K q : Nat} (hq : onOf σ q = true) (hK : cntOn (onOf σ) q = K) :
    Calls Tryd.prog 13 #[.pointer (some ⟨p, 0, none⟩), .int .i64 q] wr fun e w' => ∃ (a b c d : Int) (F' : PF) (σ' : List (Option Int)) (h' : Nat) (evs' : List Ev), e = .returned (.tuple #[.int .i64 ((its σ).getD K 0), .agg #[.int .i64 a, .int .i64 b, .int .i64 c, .int .i64 d], .int .i64 0]) ∧ Hid (LiA w0 p F' σ' h' evs' Fh σh hh v4 v6 (its σ) w' ∧ its σ' = (its σ).take K ++ (its σ).drop (K + 1)) := by
  refine (RowG.delAny H.r hearN hT q).mono ?_
  rintro e w' ⟨x, S, er, rfl, H3⟩
  obtain ⟨⟨F', σ', h', ev, hR, hQ, hm⟩, hf⟩ := H3.out
  cases hQ with
  | bad he h0 _ _ _ _ _ => exact absurd (he.trans (chk_of hq)) h0
  | ok j hj hx he k =>
    obtain rfl : j = q := by omega
    subst he
    have h1 := its_get σ j x hx
    rw [hK] at h1
    have h2 : (its σ).getD K 0 = x := by rw [List.getD_eq_getElem?_getD, h1]; rfl
    rw [h2]
    exact ⟨S.k, S.f, S.s, S.c, F', σ', h', _, rfl, hid ⟨H.act hR hm hf, by rw [k.items, hK]⟩⟩
theorem LiW.ins {w0 : World} {p : Nat} {F : PF} {σ : List (Option Int)} {h : Nat} {evs : List Ev} {Fh : PF} {σh : List (Option Int)} {hh : Nat} {v4 v6 : Value} {wr : World} (H : LiW w0 p F σ h evs Fh σh hh v4 v6 wr) (hT : (its σ).length < 2560) (z x : Int) {K : Nat} (hK : (z % ((its σ).length + 1 : Nat)).toNat = K) :
    Calls Tryd.prog 14 #[.pointer (some ⟨p, 0, none⟩), .int .i64 ((⟨false, false, z, x⟩ : AcT).place (idxs (occ σ))), .int .i64 x] wr fun e w' => ∃ (q : Nat) (a b c d : Int) (F' : PF) (σ' : List (Option Int)) (h' : Nat) (evs' : List Ev), e = .returned (.tuple #[.int .i64 q, .agg #[.int .i64 a, .int .i64 b, .int .i64 c, .int .i64 d], .int .i64 0]) ∧ Hid ((∀ (BS : Nat) (w7 : World), ¬ F.mem BS → ¬ Fh.mem BS → v4.ownBlock ≠ some BS → v6.ownBlock ≠ some BS → BS < wr.heap.size → w0.heap.size ≤ BS → Fr (fun k => k = BS) w' w7 → LiA w0 p F' σ' h' evs' Fh σh hh v4 v6 (its σ) w7) ∧ its σ' = (its σ).take K ++ x :: (its σ).drop K ∧ σ'.getD q none = some x ∧ cntOn (onOf σ') q = K ∧ Fr (fun k => F.mem k ∨ Bn k) wr w') := by
  have hsm := H.r.small
  have hpl : (⟨false, false, z, x⟩ : AcT).place (idxs (occ σ)) = if K = 0 then -1 else (idxs (occ σ)).getD (K - 1) 0 := by
    unfold AcT.place AcT.k
    rw [hsm.2, ← hK]
    rfl
  have hKn : K ≤ (its σ).length := by
    have := Int.emod_lt_of_pos z (show 0 < (((its σ).length + 1 : Nat) : Int) by omega)
    have := Int.emod_nonneg z (show (((its σ).length + 1 : Nat) : Int) ≠ 0 by omega)
    omega
  have hb : ∃ seg next, BehC σ (if K = 0 then -1 else (idxs (occ σ)).getD (K - 1) 0) seg next ∧ cntOn (onOf σ) next = K := by
    by_cases h0 : K = 0
    · exact ⟨0, 0, by rw [if_pos h0]; exact .first rfl rfl rfl, by rw [h0]; rfl⟩
    · obtain ⟨q, h1, h2, h3⟩ := idxs_get (σ := σ) (k := K - 1) (by rw [hsm.2]; omega)
      exact ⟨q / 8, q + 1, by rw [if_neg h0]; exact .at q h1 h2 rfl rfl, by rw [cnt_next h2]; omega⟩
  obtain ⟨seg, next, hc, hn⟩ := hb
  rw [hpl]
  refine (RowG.insAny H.r hearN hT _ x).mono ?_
  rintro e w' ⟨v, S, er, rfl, H3⟩
  obtain ⟨⟨F', σ', h', ev, hR, hQ, hm⟩, hf⟩ := H3.out
  cases hQ with
  | bad he h0 hne _ _ _ _ _ =>
    exfalso
    cases hc with
    | first e _ _ => exact hne e
    | «at» b e ho _ _ => rw [e] at he; exact h0 (he.trans (chk_of ho))
  | ok seg' next' hc' hs he k =>
    subst he
    have hnn : cntOn (onOf σ) next' = K := by
      cases hc with
      | first e hs hn1 =>
        cases hc' with
        | first _ _ hn2 => rw [hn2, ← hn1]; exact hn
        | «at» b e' _ _ _ => omega
      | «at» b e ho hs hn1 =>
        cases hc' with
        | first e' _ _ => omega
        | «at» b' e' _ _ hn2 =>
          obtain rfl : b = b' := by omega
          rw [hn2, ← hn1]; exact hn
    obtain ⟨q, rfl, q2, q3⟩ := k.slot
    exact ⟨q, S.k, S.f, S.s, S.c, F', σ', h', _, rfl, hid ⟨fun BS w7 n1 n2 n4 n6 hb g hf7 => (H.act hR hm hf).fr1 hf7 (fun hk => (hm _ hk).elim n1 (fun h => by omega)) n2 n4 n6 g, by rw [k.items, hnn], q2, by rw [q3, hnn], hf⟩⟩
end Go.Proofs.YtanefeeneladnaaDoor
