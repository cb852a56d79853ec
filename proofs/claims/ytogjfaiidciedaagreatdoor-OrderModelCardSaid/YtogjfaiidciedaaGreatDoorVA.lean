/- OrderModel: what an act does, with a step of nothing where it is refused. -/
import Derived.Test.YtogjfaiidciedaaGreatDoorOT
import Derived.Test.YtogjfaiidciedaaGreatDoorAP
set_option linter.unusedVariables false
set_option linter.unusedSimpArgs false
namespace Go.Proofs.YtogjfaiidciedaaGreatDoor
open Go.RowKit Go.Maps

section
variable {w0 w : World} {L : Nat} {l : List Int} {n b : Nat}
theorem OSB.doesZ (H : OSB w0 L l n b w) (hn : n < 100000000) (hT : l.length ≤ 2560) (d y : Int) (h1 : -9223372036854775808 ≤ y) (h2 : y ≤ 9223372036854775807) :
    Calls Tryz.prog 18 #[.pointer (some ⟨L, 0, none⟩), .int .i64 d, .int .i64 y] w fun e w' => ∃ (x s1 s2 s3 s4 er : Int) (l' : List Int) (n' : Nat), e = .returned (.tuple #[.int .i64 x, .agg #[.int .i64 s1, .int .i64 s2, .int .i64 s3, .int .i64 s4], .int .i64 er]) ∧ Hid (OSB w0 L l' n' b w' ∧ ActO l n d y x s1 er l' n' ∧ (er ≠ 0 → s1 = 0 ∧ s2 = 0 ∧ s3 = 0 ∧ s4 = 0) ∧ ∀ c T, Has w b c T → Has w' b c T) := by
  obtain ⟨bl, p, tf, F, σ, h, τ, a, rfl, rfl, hb⟩ := H.ex
  refine (ordDoes_any a hn hT d y h1 h2).mono ?_
  rintro e w' ⟨x, S, er, rfl, H2⟩
  obtain ⟨F', σ', h', τ', hW, hQ⟩ := H2.out
  have ho := OrdW.osb hW hb H.lt rfl rfl
  refine ⟨x, S.k, S.f, S.s, S.c, er, its σ', τ'.length, rfl, hid ⟨ho.1, ?_, ?_, ho.2⟩⟩
  · cases hQ with
      | put k hT' hd hx he k' => exact .put k hT' hd hx k'.st he k'.items k'.len
      | del k hd hk hx he k' => exact .del k hd hk hx k'.st he k'.items k'.len
      | stale hd hl hx hS he hσ hτ => exact .stale hd (fun hm => by rw [(a.live y).2 hm] at hl; cases hl) hx he (by rw [hσ]) (by rw [hτ])
      | full hd hT hx hS he hσ hτ => exact .full (hd.imp id (fun h => ⟨h.1, (a.live y).1 h.2⟩)) hT hx he (by rw [hσ]) (by rw [hτ])
  · intro hne
    cases hQ with
    | put k hT' hd hx he k' => exact absurd he hne
    | del k hd hk hx he k' => exact absurd he hne
    | stale hd hl hx hS he hσ hτ => rw [hS]; exact ⟨rfl, rfl, rfl, rfl⟩
    | full hd hT hx hS he hσ hτ => rw [hS]; exact ⟨rfl, rfl, rfl, rfl⟩
/-- The list of handles holds l; the law's own list v holds xs, apart from it. -/
structure Mo (w0 : World) (L : Nat) (l : List Int) (n : Nat) (v : Value) (xs : List Int) (w : World) : Prop where
  ex : ∃ (bl p : Nat) (tf : TF) (F : PF) (σ : List (Option Int)) (h : Nat) (τ : List (Option Int)), OrdR w0 L bl p tf F σ h τ w ∧ its σ = l ∧ τ.length = n ∧ ∀ g, v.ownBlock = some g → ¬ OrS F bl L tf g
  fr : Fr Nil1 w0 w
  row : RowI w w0.heap.size v xs
theorem Mo.os {v : Value} {xs : List Int} (H : Mo w0 L l n v xs w) : OS w0 L l n w := by
  obtain ⟨bl, p, tf, F, σ, h, τ, a, b', c, _⟩ := H.ex
  exact ⟨⟨bl, p, tf, F, σ, h, τ, a, b', c⟩, H.fr⟩
theorem Mo.new {v : Value} {xs : List Int} {w' : World} (H : Mo w0 L l n v xs w) (hf : Fr Nil1 w w') : Mo w0 L l n v xs w' := by
  obtain ⟨bl, p, tf, F, σ, h, τ, a, b', c, d⟩ := H.ex
  exact ⟨⟨bl, p, tf, F, σ, h, τ, a.new hf, b', c, d⟩, H.fr.trans hf, H.row.new hf⟩
theorem Mo.does {v : Value} {xs : List Int} (H : Mo w0 L l n v xs w) (hn : n < 100000000) (hT : l.length ≤ 2560) (d y : Int) (h1 : -9223372036854775808 ≤ y) (h2 : y ≤ 9223372036854775807) :
    Calls Tryz.prog 18 #[.pointer (some ⟨L, 0, none⟩), .int .i64 d, .int .i64 y] w fun e w' => ∃ (x s1 s2 s3 s4 er : Int) (l' : List Int) (n' : Nat), e = .returned (.tuple #[.int .i64 x, .agg #[.int .i64 s1, .int .i64 s2, .int .i64 s3, .int .i64 s4], .int .i64 er]) ∧ Hid (Mo w0 L l' n' v xs w' ∧ ActO l n d y x s1 er l' n' ∧ (er ≠ 0 → s1 = 0 ∧ s2 = 0 ∧ s3 = 0 ∧ s4 = 0)) := by
  obtain ⟨bl, p, tf, F, σ, h, τ, a, rfl, rfl, hs⟩ := H.ex
  refine (ordDoes_any a hn hT d y h1 h2).mono ?_
  rintro e w' ⟨x, S, er, rfl, H2⟩
  obtain ⟨F', σ', h', τ', hW, hQ⟩ := H2.out
  refine ⟨x, S.k, S.f, S.s, S.c, er, its σ', τ'.length, rfl, hid ⟨⟨⟨bl, p, tf, F', σ', h', τ', hW.r, rfl, rfl, fun g hg hk => ?_⟩, hW.r.row.fr, H.row.frO hW.fr hs⟩, ?_, ?_⟩⟩
  · rcases hk with hk | hk
    · rcases hW.mem _ hk with e | e
      · exact hs g hg (.inl e)
      · have := (own_lt H.row g hg).2; omega
    · exact hs g hg (.inr hk)
  · cases hQ with
    | put k hT' hd hx he k' => exact .put k hT' hd hx k'.st he k'.items k'.len
    | del k hd hk hx he k' => exact .del k hd hk hx k'.st he k'.items k'.len
    | stale hd hl hx hS he hσ hτ => exact .stale hd (fun hm => by rw [(a.live y).2 hm] at hl; cases hl) hx he (by rw [hσ]) (by rw [hτ])
    | full hd hT hx hS he hσ hτ => exact .full (hd.imp id (fun h => ⟨h.1, (a.live y).1 h.2⟩)) hT hx he (by rw [hσ]) (by rw [hτ])
  · intro hne
    cases hQ with
    | put k hT' hd hx he k' => exact absurd he hne
    | del k hd hk hx he k' => exact absurd he hne
    | stale hd hl hx hS he hσ hτ => rw [hS]; exact ⟨rfl, rfl, rfl, rfl⟩
    | full hd hT hx hS he hσ hτ => rw [hS]; exact ⟨rfl, rfl, rfl, rfl⟩
/-- The law's list, built anew. -/
theorem Mo.built {v v' : Value} {xs ys : List Int} {w' : World} (H : Mo w0 L l n v xs w) (hf : Fr Nil1 w w') (hr : RowI w' w.heap.size v' ys) : Mo w0 L l n v' ys w' := by
  obtain ⟨bl, p, tf, F, σ, h, τ, a, b', c, d⟩ := H.ex
  refine ⟨⟨bl, p, tf, F, σ, h, τ, a.new hf, b', c, fun g hg hk => ?_⟩, H.fr.trans hf, hr.mono H.fr.size⟩
  have h9 := (own_lt hr g hg).1
  rcases hk with hk | hk
  · have := a.row.r.lt _ hk; omega
  · have := (a.row.bb _ hk).2.1; omega
end
end Go.Proofs.YtogjfaiidciedaaGreatDoor
