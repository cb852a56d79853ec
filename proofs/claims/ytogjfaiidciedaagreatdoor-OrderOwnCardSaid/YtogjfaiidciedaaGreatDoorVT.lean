/- Two lists of handles that stand alike, and do the same. -/
import Derived.Test.YtogjfaiidciedaaGreatDoorOY
import Derived.Test.YtogjfaiidciedaaGreatDoorNL
import Derived.Test.YtogjfaiidciedaaGreatDoorAP
set_option linter.unusedVariables false
set_option linter.unusedSimpArgs false
namespace Go.Proofs.YtogjfaiidciedaaGreatDoor
open Go.RowKit Go.Maps

section
variable {w0 wL w : World} {Q : Nat → Prop} {K T : Nat} {l : List Int} {n : Nat}
theorem OrdR.base {w1 : World} {L bl p : Nat} {tf : TF} {F : PF} {σ : List (Option Int)} {h : Nat} {τ : List (Option Int)} (H : OrdR w1 L bl p tf F σ h τ w) (hf : Fr Nil1 w0 w1) : OrdR w0 L bl p tf F σ h τ w :=
  ⟨⟨H.row.p, H.row.r, H.row.d, H.row.jj, hf.trans H.row.fr, fun k hk => Nat.le_trans hf.size (H.row.mem k hk), fun k hk => ⟨(H.row.bb k hk).1, (H.row.bb k hk).2.1, (H.row.bb k hk).2.2.1, Nat.le_trans hf.size (H.row.bb k hk).2.2.2⟩⟩, H.k⟩
theorem OrdR.ge {L bl p : Nat} {tf : TF} {F : PF} {σ : List (Option Int)} {h : Nat} {τ : List (Option Int)} (H : OrdR w0 L bl p tf F σ h τ w) : ∀ j, OrS F bl L tf j → w0.heap.size ≤ j ∧ j < w.heap.size := by
  rintro j (hj | hj)
  · exact ⟨H.row.mem j hj, H.row.r.lt j hj⟩
  · exact ⟨(H.row.bb j hj).2.2.2, (H.row.bb j hj).2.1⟩
/-- Two lists that stand alike; apart from each other, and from what is kept. -/
structure Tw (w0 wL : World) (Q : Nat → Prop) (K T : Nat) (l : List Int) (n : Nat) (w : World) : Prop where
  ex : ∃ (bk pk : Nat) (tk : TF) (Fk : PF) (hk : Nat) (τk : List (Option Int)) (bt pt : Nat) (tt : TF) (Ft : PF) (ht : Nat) (τt : List (Option Int)) (σ : List (Option Int)),
    OrdR w0 K bk pk tk Fk σ hk τk w ∧ OrdR w0 T bt pt tt Ft σ ht τt w ∧ its σ = l ∧ τk.length = n ∧ τt.length = n ∧ (∀ j, OrS Fk bk K tk j → ¬ OrS Ft bt T tt j ∧ ¬ Q j) ∧ ∀ j, OrS Ft bt T tt j → ¬ Q j
  q : ∀ j, Q j → j < wL.heap.size
  fr : Fr (fun j => w0.heap.size ≤ j ∧ ¬ Q j) wL w
theorem Tw.new {w' : World} (H : Tw w0 wL Q K T l n w) (hf : Fr Nil1 w w') : Tw w0 wL Q K T l n w' := by
  obtain ⟨bk, pk, tk, Fk, hk, τk, bt, pt, tt, Ft, ht, τt, σ, a, b, c⟩ := H.ex
  exact ⟨⟨bk, pk, tk, Fk, hk, τk, bt, pt, tt, Ft, ht, τt, σ, a.new hf, b.new hf, c⟩, H.q, H.fr.trans (hf.mono (fun _ _ h => h.elim))⟩
theorem Tw.osK (H : Tw w0 wL Q K T l n w) : OS w0 K l n w := by
  obtain ⟨bk, pk, tk, Fk, hk, τk, bt, pt, tt, Ft, ht, τt, σ, a, b, c, d, e, _⟩ := H.ex
  exact ⟨⟨bk, pk, tk, Fk, σ, hk, τk, a, c, d⟩, a.row.fr⟩
theorem Tw.osT (H : Tw w0 wL Q K T l n w) : OS w0 T l n w := by
  obtain ⟨bk, pk, tk, Fk, hk, τk, bt, pt, tt, Ft, ht, τt, σ, a, b, c, d, e, _⟩ := H.ex
  exact ⟨⟨bt, pt, tt, Ft, σ, ht, τt, b, c, e⟩, b.row.fr⟩
/-- One of them has done an act, the other one has not yet. -/
structure TwM (w0 wL : World) (Q : Nat → Prop) (K T : Nat) (l : List Int) (n : Nat) (d y x : Int) (S : St) (er : Int) (l' : List Int) (n' : Nat) (wM w : World) : Prop where
  ex : ∃ (bk pk : Nat) (tk : TF) (Fk : PF) (hk : Nat) (τk' : List (Option Int)) (bt pt : Nat) (tt : TF) (Ft : PF) (ht : Nat) (τt : List (Option Int)) (σ σ' τk : List (Option Int)),
    OrdR w0 K bk pk tk Fk σ' hk τk' w ∧ OrdR w0 T bt pt tt Ft σ ht τt w ∧ (its σ = l ∧ its σ' = l') ∧ (τk.length = n ∧ τt.length = n ∧ τk'.length = n') ∧ (liveB τk y = true ↔ y ∈ its σ) ∧ DoQ σ τk d y x S er σ' τk' ∧
    (∀ j, OrS Fk bk K tk j → ¬ OrS Ft bt T tt j ∧ ¬ Q j) ∧ (∀ j, OrS Ft bt T tt j → ¬ Q j ∧ j < wM.heap.size)
  q : ∀ j, Q j → j < wL.heap.size
  fr : Fr (fun j => w0.heap.size ≤ j ∧ ¬ Q j) wL w
theorem TwM.new {d y x er : Int} {S : St} {l' : List Int} {n' : Nat} {wM w' : World} (H : TwM w0 wL Q K T l n d y x S er l' n' wM w) (hf : Fr Nil1 w w') : TwM w0 wL Q K T l n d y x S er l' n' wM w' := by
  obtain ⟨bk, pk, tk, Fk, hk, τk', bt, pt, tt, Ft, ht, τt, σ, σ', τk, a, b, c⟩ := H.ex
  exact ⟨⟨bk, pk, tk, Fk, hk, τk', bt, pt, tt, Ft, ht, τt, σ, σ', τk, a.new hf, b.new hf, c⟩, H.q, H.fr.trans (hf.mono (fun _ _ h => h.elim))⟩
theorem Tw.doesK (H : Tw w0 wL Q K T l n w) (hn : n < 100000000) (hT : l.length ≤ 2560) (d y : Int) (h1 : -9223372036854775808 ≤ y) (h2 : y ≤ 9223372036854775807) :
    Calls Tryz.prog 18 #[.pointer (some ⟨K, 0, none⟩), .int .i64 d, .int .i64 y] w fun e w' => ∃ (x : Int) (S : St) (er : Int) (l' : List Int) (n' : Nat), e = .returned (.tuple #[.int .i64 x, .agg #[.int .i64 S.k, .int .i64 S.f, .int .i64 S.s, .int .i64 S.c], .int .i64 er]) ∧
      Hid (TwM w0 wL Q K T l n d y x S er l' n' w w' ∧ ActO l n d y x S.k er l' n' ∧ w.heap.size ≤ w'.heap.size) := by
  obtain ⟨bk, pk, tk, Fk, hk, τk, bt, pt, tt, Ft, ht, τt, σ, a, b, rfl, rfl, e2, ap, aq⟩ := H.ex
  refine (ordDoes_any a hn hT d y h1 h2).mono ?_
  rintro e w' ⟨x, S, er, rfl, H2⟩
  obtain ⟨F', σ', h', τ', hW, hQ⟩ := H2.out
  have hs := H.fr.size
  refine ⟨x, S, er, its σ', τ'.length, rfl, hid ⟨⟨⟨bk, pk, tk, F', h', τ', bt, pt, tt, Ft, ht, τt, σ, σ', τk, hW.r, b.frS hW.fr (fun j hj => ⟨(ap j hj).1, (a.ge j hj).1⟩), ⟨rfl, rfl⟩, ⟨rfl, e2, rfl⟩, a.live y, hQ, ?_, fun j hj => ⟨aq j hj, (b.ge j hj).2⟩⟩, H.q, H.fr.trans' hW.fr (fun j _ hj hs => ⟨(a.ge j hs).1, (ap j hs).2⟩)⟩, ?_, hW.fr.size⟩⟩
  · rintro j (hj | hj)
    · rcases hW.mem j hj with g | g
      · exact ap j (.inl g)
      · exact ⟨fun h => by have := (b.ge j h).2; omega, fun h => by have := H.q j h; omega⟩
    · exact ap j (.inr hj)
  · cases hQ with
    | put k hT' hd hx he k' => exact .put k hT' hd hx k'.st he k'.items k'.len
    | del k hd hk hx he k' => exact .del k hd hk hx k'.st he k'.items k'.len
    | stale hd hl hx hS he hσ hτ => exact .stale hd (fun hm => by rw [(a.live y).2 hm] at hl; cases hl) hx he (by rw [hσ]) (by rw [hτ])
    | full hd hT hx hS he hσ hτ => exact .full (hd.imp id (fun h => ⟨h.1, (a.live y).1 h.2⟩)) hT hx he (by rw [hσ]) (by rw [hτ])
theorem TwM.doesT {d y x er : Int} {S : St} {l' : List Int} {n' : Nat} {wM : World} (H : TwM w0 wL Q K T l n d y x S er l' n' wM w) (hn : n < 100000000) (hT : l.length ≤ 2560) (h1 : -9223372036854775808 ≤ y) (h2 : y ≤ 9223372036854775807) :
    Calls Tryz.prog 18 #[.pointer (some ⟨T, 0, none⟩), .int .i64 d, .int .i64 y] w fun e w' => e = .returned (.tuple #[.int .i64 x, .agg #[.int .i64 S.k, .int .i64 S.f, .int .i64 S.s, .int .i64 S.c], .int .i64 er]) ∧
      Hid (Tw w0 wL Q K T l' n' w' ∧ ∀ b c t, wM.heap.size ≤ b → Has w b c t → Has w' b c t) := by
  obtain ⟨bk, pk, tk, Fk, hk, τk', bt, pt, tt, Ft, ht, τt, σ, σ', τk, a, b, ⟨rfl, rfl⟩, ⟨rfl, e2, rfl⟩, lv1, hQ1, ap, aq⟩ := H.ex
  refine (ordDoes_any b (by omega) hT d y h1 h2).mono ?_
  rintro e w' ⟨x2, S2, er2, rfl, H2⟩
  obtain ⟨F', σ2, h', τ', hW, hQ⟩ := H2.out
  obtain ⟨ex, eS, ee, eσ, eτ⟩ := hQ1.uniq hQ e2.symm lv1 (b.live y) (fun i j a hi hj => b.inj hi hj)
  subst ex eS ee eσ
  have hs := H.fr.size
  refine ⟨rfl, hid ⟨⟨⟨bk, pk, tk, Fk, hk, τk', bt, pt, tt, F', h', τ', σ', a.frS hW.fr (fun j hj => ⟨fun g => (ap j g).1 hj, (b.ge j hj).1⟩), hW.r, rfl, rfl, eτ.symm, fun j hj => ⟨?_, (ap j hj).2⟩, ?_⟩, H.q, H.fr.trans' hW.fr (fun j _ hj hs => ⟨(b.ge j hs).1, (aq j hs).1⟩)⟩, fun b' c t hb hc => hc.fr' hW.fr (fun g => by have := (aq b' g).2; omega)⟩⟩
  · rintro (g | g)
    · rcases hW.mem j g with g | g
      · exact (ap j hj).1 (.inl g)
      · have := (a.ge j hj).2; omega
    · exact (ap j hj).1 (.inr g)
  · rintro j (g | g)
    · rcases hW.mem j g with g | g
      · exact (aq j (.inl g)).1
      · intro hq; have := H.q j hq; omega
    · exact (aq j (.inr g)).1
theorem TwM.frw {d y x er : Int} {S : St} {l' : List Int} {n' : Nat} {wM : World} (H : TwM w0 wL Q K T l n d y x S er l' n' wM w) : Fr Nil1 w0 w := by
  obtain ⟨bk, pk, tk, Fk, hk, τk', bt, pt, tt, Ft, ht, τt, σ, σ', τk, a, b, c⟩ := H.ex
  exact a.row.fr
end
theorem ActO.bound {l l' : List Int} {n n' : Nat} {d y x k e : Int} (H : ActO l n d y x k e l' n') : n' ≤ n + 1 ∧ x ≤ (n : Int) + 1 := by
  cases H with
  | put i _ _ hx _ _ _ hn => omega
  | del i _ _ hx _ _ _ hn => omega
  | stale _ _ hx _ _ hn => omega
  | full _ _ hx _ _ hn => omega
theorem RowI.keep {wL w' : World} {base : Nat} {v : Value} {xs : List Int} {S : Nat → Prop} (H : RowI wL base v xs) (hl : xs.length ≤ 9223372036854775807) (hf : Fr S wL w') (hS : ∀ g, v.ownBlock = some g → ¬ S g) : Rd w' v (ints' xs) := by
  by_cases h0 : 0 < xs.length
  · obtain ⟨g, cap, e, _, _⟩ := H.shape h0
    subst e
    exact (H.rd hl).fr hf (fun ad n c he => by injection he with he; injection he with he; subst he; exact hS g rfl)
  · obtain ⟨A, c, e, _⟩ := H.rd hl
    rw [ints'_length] at e
    have hz : xs = [] := List.eq_nil_of_length_eq_zero (by omega)
    subst e hz
    exact rd_zero A c rfl
end Go.Proofs.YtogjfaiidciedaaGreatDoor
