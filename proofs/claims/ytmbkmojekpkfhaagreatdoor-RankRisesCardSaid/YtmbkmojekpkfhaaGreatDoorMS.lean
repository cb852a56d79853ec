/- A set, and blocks that are none of its own (any number): what its acts leave as it was. -/
import Derived.Test.YtmbkmojekpkfhaaGreatDoorSJ
set_option linter.unusedVariables false
set_option linter.unusedSimpArgs false
namespace Go.Proofs.YtmbkmojekpkfhaaGreatDoor
open Go.RowKit

structure SSP (w0 : World) (s : Nat) (ks : List Int) (B : Nat → Prop) (w : World) : Prop where
  ex : ∃ (p : Nat) (F : PF) (σ : List (Option Int)) (h : Nat) (evs : List Ev), SetS w0 s p F σ h evs w ∧ its σ = ks ∧ ∀ b, B b → ¬ SetB F s b
  lt : ∀ b, B b → b < w.heap.size
section
variable {w0 w : World} {s : Nat} {ks : List Int} {B : Nat → Prop}
theorem SSP.ss (H : SSP w0 s ks B w) : SS w0 s ks w := by
  obtain ⟨p, F, σ, h, evs, a, rfl, _⟩ := H.ex
  exact ⟨⟨p, F, σ, h, evs, a, rfl⟩, a.up, a.row.fr⟩
theorem SSP.new {w' : World} (H : SSP w0 s ks B w) (hf : Fr Nil1 w w') : SSP w0 s ks B w' := by
  obtain ⟨p, F, σ, h, evs, a, e, n⟩ := H.ex
  exact ⟨⟨p, F, σ, h, evs, a.new hf, e, n⟩, fun b hb => by have := H.lt b hb; have := hf.size; omega⟩
theorem SS.beside (H : SS w0 s ks w) : SSP w0 s ks (fun _ => False) w := by
  obtain ⟨p, F, σ, h, evs, a, e⟩ := H.ex
  exact ⟨⟨p, F, σ, h, evs, a, e, fun _ hb => hb.elim⟩, fun _ hb => hb.elim⟩
/-- One block more. -/
theorem SSP.boxed (H : SSP w0 s ks B w) (o : Obj) : SSP w0 s ks (fun b => B b ∨ b = w.heap.size) (w.alloc o) := by
  obtain ⟨p, F, σ, h, evs, a, e, n⟩ := H.ex
  refine ⟨⟨p, F, σ, h, evs, a.new ((Fr.refl _ _).alloc _), e, fun b hb hk => ?_⟩, fun b hb => ?_⟩
  · rcases hb with g | rfl
    · exact n b g hk
    · have := a.lt _ hk; omega
  · rcases hb with g | rfl
    · have := H.lt b g; simp; omega
    · simp
theorem SSP.less {B' : Nat → Prop} (H : SSP w0 s ks B w) (hB : ∀ b, B' b → B b) : SSP w0 s ks B' w := by
  obtain ⟨p, F, σ, h, evs, a, e, n⟩ := H.ex
  exact ⟨⟨p, F, σ, h, evs, a, e, fun b hb => n b (hB b hb)⟩, fun b hb => H.lt b (hB b hb)⟩
/-- A block beside it turns. -/
theorem SSP.turn {w' : World} {S : Nat → Prop} (H : SSP w0 s ks B w) (hf : Fr S w w') (hS : ∀ k, S k → B k ∧ w0.heap.size ≤ k) : SSP w0 s ks B w' := by
  obtain ⟨p, F, σ, h, evs, a, e, n⟩ := H.ex
  exact ⟨⟨p, F, σ, h, evs, a.frS hf (fun k hk => ⟨n k (hS k hk).1, (hS k hk).2⟩), e, n⟩, fun b hb => by have := H.lt b hb; have := hf.size; omega⟩
theorem SSP.insert (H : SSP w0 s ks B w) (hT : ks.length ≤ 2560) (key : Int) :
    Calls Tryz.prog 39 #[.pointer (some ⟨s, 0, none⟩), .int .i64 key] w fun e w' => ∃ (S : St) (er : Int) (ks' : List Int), e = .returned (.tuple #[.agg #[.int .i64 S.k, .int .i64 S.f, .int .i64 S.s, .int .i64 S.c], .int .i64 er]) ∧ Hid (SSP w0 s ks' B w' ∧ InsK ks key S er ks' ∧ ∀ b, B b → w'.heap[b]? = w.heap[b]?) := by
  obtain ⟨p, F, σ, h, evs, a, rfl, nb⟩ := H.ex
  refine (setInsert_any a hT key).mono ?_
  rintro e w' ⟨S, er, rfl, H2⟩
  obtain ⟨F', σ', h', evs', hS, hQ, hm, hf⟩ := H2.out
  refine ⟨S, er, its σ', rfl, hid ⟨⟨⟨p, F', σ', h', evs', hS, rfl, fun b hb hk => ?_⟩, fun b hb => by have := H.lt b hb; have := hf.size; omega⟩, ?_, fun b hb => hf.block b (H.lt b hb) (fun g => absurd (.inl g) (nb b hb))⟩⟩
  · rcases hk with g | g
    · rcases hm b g with g | g
      · exact nb b hb (.inl g)
      · have := H.lt b hb; omega
    · exact nb b hb (.inr g)
  · cases hQ with
    | ok bh seg next v ev hm hl hb hs hc he k =>
      obtain ⟨_, _, _, _, _, hst, _⟩ := k.step
      exact .ok hm hl (stepO_kind hst) he (by rw [k.items]; exact putK_at hc)
    | there hm he hS hσ hh => exact .there hm hS he (by rw [hσ])
    | full hm hT he hS hσ hh => exact .full hm hT hS he (by rw [hσ])
theorem SSP.delete (H : SSP w0 s ks B w) (hT : ks.length ≤ 2560) (key : Int) :
    Calls Tryz.prog 38 #[.pointer (some ⟨s, 0, none⟩), .int .i64 key] w fun e w' => ∃ (S : St) (er : Int) (ks' : List Int), e = .returned (.tuple #[.agg #[.int .i64 S.k, .int .i64 S.f, .int .i64 S.s, .int .i64 S.c], .int .i64 er]) ∧ Hid (SSP w0 s ks' B w' ∧ DelK ks key S er ks' ∧ ∀ b, B b → w'.heap[b]? = w.heap[b]?) := by
  obtain ⟨p, F, σ, h, evs, a, rfl, nb⟩ := H.ex
  refine (setDelete_any a hT key).mono ?_
  rintro e w' ⟨S, er, rfl, H2⟩
  obtain ⟨F', σ', h', evs', hS, hQ, hm, hf⟩ := H2.out
  refine ⟨S, er, its σ', rfl, hid ⟨⟨⟨p, F', σ', h', evs', hS, rfl, fun b hb hk => ?_⟩, fun b hb => by have := H.lt b hb; have := hf.size; omega⟩, ?_, fun b hb => hf.block b (H.lt b hb) (fun g => absurd (.inl g) (nb b hb))⟩⟩
  · rcases hk with g | g
    · rcases hm b g with g | g
      · exact nb b hb (.inl g)
      · have := H.lt b hb; omega
    · exact nb b hb (.inr g)
  · cases hQ with
    | ok j ev hx hc he k =>
      obtain ⟨_, _, _, _, _, hst, _⟩ := k.step
      exact .ok (mem_its.2 ⟨j, hx⟩) (stepO_kind hst) he (by rw [k.items]; exact delK_at hc)
    | none hm he hS hσ hh => exact .none hm hS he (by rw [hσ])
end
end Go.Proofs.YtmbkmojekpkfhaaGreatDoor
