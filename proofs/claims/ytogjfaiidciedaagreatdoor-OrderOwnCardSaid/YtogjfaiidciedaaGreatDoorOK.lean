/- order: an act of a law, whichever it is. -/
import Derived.Test.YtogjfaiidciedaaGreatDoorOJ
set_option linter.unusedVariables false
set_option linter.unusedSimpArgs false
namespace Go.Proofs.YtogjfaiidciedaaGreatDoor
open Go.RowKit Go.Maps

/-- What an act does to a list. -/
inductive DoQ (σ τ : List (Option Int)) (d hn : Int) (x : Int) (S : St) (e : Int) (σ' τ' : List (Option Int)) : Prop
  | put (k : Nat) (hT : (its σ).length < 2560) (hd : (d = 0 ∧ k = 0) ∨ (d = 1 ∧ ∃ r : Nat, (its σ)[r]? = some hn ∧ k = r + 1) ∨ (d = 2 ∧ (its σ)[k]? = some hn)) (hx : x = (τ.length : Int) + 1) (he : e = 0) (k' : PutP σ k τ σ' τ' S)
  | del (k : Nat) (hd : d ≠ 0 ∧ d ≠ 1 ∧ d ≠ 2) (hk : (its σ)[k]? = some hn) (hx : x = 0) (he : e = 0) (k' : TakP σ k τ σ' τ' S)
  | stale (hd : d ≠ 0) (hl : liveB τ hn = false) (hx : x = 0) (hS : S = ⟨0, 0, 0, 0⟩) (he : e = 17) (hσ : σ' = σ) (hτ : τ' = τ)
  | full (hd : d = 0 ∨ ((d = 1 ∨ d = 2) ∧ liveB τ hn = true)) (hT : 2560 ≤ (its σ).length) (hx : x = 0) (hS : S = ⟨0, 0, 0, 0⟩) (he : e = 16) (hσ : σ' = σ) (hτ : τ' = τ)
section
variable {w0 w : World} {L bl p : Nat} {tf : TF} {F : PF} {σ : List (Option Int)} {h : Nat} {τ : List (Option Int)}
/-- What stands behind one. -/
def DoW (w0 w : World) (L bl p : Nat) (tf : TF) (F : PF) (σ τ : List (Option Int)) (d hn x : Int) (S : St) (er : Int) (w' : World) : Prop := ∃ (F' : PF) (σ' : List (Option Int)) (h' : Nat) (τ' : List (Option Int)), OrdW w0 w L bl p tf F F' σ' h' τ' w' ∧ DoQ σ τ d hn x S er σ' τ'
theorem OrdR.index (H : OrdR w0 L bl p tf F σ h τ w) {x : Int} (hl : liveB τ x = true) : ∃ k : Nat, (its σ)[k]? = some x := by
  obtain ⟨k, hk, e⟩ := List.getElem_of_mem ((H.live x).1 hl)
  exact ⟨k, List.getElem?_eq_some_iff.2 ⟨hk, e⟩⟩
theorem OrdR.same (H : OrdR w0 L bl p tf F σ h τ w) {w' : World} (hf : Fr Nil1 w w') : OrdW w0 w L bl p tf F F σ h τ w' := ⟨H.new hf, fun k hk => .inl hk, hf.mono (fun _ _ h => h.elim)⟩
theorem ordFirst_any (H : OrdR w0 L bl p tf F σ h τ w) (hn : τ.length < 100000000) (y : Int) :
    Calls Tryz.prog 22 #[.pointer (some ⟨L, 0, none⟩)] w fun e w' => ∃ (x : Int) (S : St) (er : Int), e = .returned (.tuple #[.int .i64 x, .agg #[.int .i64 S.k, .int .i64 S.f, .int .i64 S.s, .int .i64 S.c], .int .i64 er]) ∧ Hid (DoW w0 w L bl p tf F σ τ 0 y x S er w') := by
  by_cases hT : (its σ).length < 2560
  · refine (ordFirst_ok H hn hT).mono ?_
    rintro e w' ⟨S, F', σ', h', τ', rfl, H2⟩
    exact ⟨_, S, 0, rfl, hid ⟨F', σ', h', τ', H2.out.1, .put 0 hT (.inl ⟨rfl, rfl⟩) rfl rfl H2.out.2⟩⟩
  · refine (ordFirst_full H (by omega)).mono ?_
    rintro e w' ⟨rfl, hf⟩
    exact ⟨0, ⟨0, 0, 0, 0⟩, 16, rfl, hid ⟨F, σ, h, τ, H.same hf, .full (.inl rfl) (by omega) rfl rfl rfl rfl rfl⟩⟩
theorem ordAfter_any (H : OrdR w0 L bl p tf F σ h τ w) (hn : τ.length < 100000000) (y : Int) (h1 : -9223372036854775808 ≤ y) (h2 : y ≤ 9223372036854775807) :
    Calls Tryz.prog 15 #[.pointer (some ⟨L, 0, none⟩), .int .i64 y] w fun e w' => ∃ (x : Int) (S : St) (er : Int), e = .returned (.tuple #[.int .i64 x, .agg #[.int .i64 S.k, .int .i64 S.f, .int .i64 S.s, .int .i64 S.c], .int .i64 er]) ∧ Hid (DoW w0 w L bl p tf F σ τ 1 y x S er w') := by
  cases hl : liveB τ y with
  | true =>
    obtain ⟨k, hk⟩ := H.index hl
    by_cases hT : (its σ).length < 2560
    · refine (ordAfter_ok H y h1 h2 hl hn hT hk).mono ?_
      rintro e w' ⟨S, F', σ', h', τ', rfl, H2⟩
      exact ⟨_, S, 0, rfl, hid ⟨F', σ', h', τ', H2.out.1, .put (k + 1) hT (.inr (.inl ⟨rfl, k, hk, rfl⟩)) rfl rfl H2.out.2⟩⟩
    · refine (ordAfter_full H y h1 h2 hl (by omega)).mono ?_
      rintro e w' ⟨rfl, hf⟩
      exact ⟨0, ⟨0, 0, 0, 0⟩, 16, rfl, hid ⟨F, σ, h, τ, H.same hf, .full (.inr ⟨.inl rfl, hl⟩) (by omega) rfl rfl rfl rfl rfl⟩⟩
  | false =>
    refine (ordAfter_stale H y h1 h2 hl).mono ?_
    rintro e w' ⟨rfl, hf⟩
    exact ⟨0, ⟨0, 0, 0, 0⟩, 17, rfl, hid ⟨F, σ, h, τ, H.same hf, .stale (by omega) hl rfl rfl rfl rfl rfl⟩⟩
theorem ordAhead_any (H : OrdR w0 L bl p tf F σ h τ w) (hn : τ.length < 100000000) (y : Int) (h1 : -9223372036854775808 ≤ y) (h2 : y ≤ 9223372036854775807) :
    Calls Tryz.prog 16 #[.pointer (some ⟨L, 0, none⟩), .int .i64 y] w fun e w' => ∃ (x : Int) (S : St) (er : Int), e = .returned (.tuple #[.int .i64 x, .agg #[.int .i64 S.k, .int .i64 S.f, .int .i64 S.s, .int .i64 S.c], .int .i64 er]) ∧ Hid (DoW w0 w L bl p tf F σ τ 2 y x S er w') := by
  cases hl : liveB τ y with
  | true =>
    obtain ⟨k, hk⟩ := H.index hl
    by_cases hT : (its σ).length < 2560
    · refine (ordAhead_ok H y h1 h2 hl hn hT hk).mono ?_
      rintro e w' ⟨S, F', σ', h', τ', rfl, H2⟩
      exact ⟨_, S, 0, rfl, hid ⟨F', σ', h', τ', H2.out.1, .put k hT (.inr (.inr ⟨rfl, hk⟩)) rfl rfl H2.out.2⟩⟩
    · refine (ordAhead_full H y h1 h2 hl (by omega)).mono ?_
      rintro e w' ⟨rfl, hf⟩
      exact ⟨0, ⟨0, 0, 0, 0⟩, 16, rfl, hid ⟨F, σ, h, τ, H.same hf, .full (.inr ⟨.inr rfl, hl⟩) (by omega) rfl rfl rfl rfl rfl⟩⟩
  | false =>
    refine (ordAhead_stale H y h1 h2 hl).mono ?_
    rintro e w' ⟨rfl, hf⟩
    exact ⟨0, ⟨0, 0, 0, 0⟩, 17, rfl, hid ⟨F, σ, h, τ, H.same hf, .stale (by omega) hl rfl rfl rfl rfl rfl⟩⟩
theorem ordDelete_any (H : OrdR w0 L bl p tf F σ h τ w) (hn : τ.length < 100000000) (hT : (its σ).length ≤ 2560) (d y : Int) (hd : d ≠ 0 ∧ d ≠ 1 ∧ d ≠ 2) (h1 : -9223372036854775808 ≤ y) (h2 : y ≤ 9223372036854775807) :
    Calls Tryz.prog 14 #[.pointer (some ⟨L, 0, none⟩), .int .i64 y] w fun e w' => ∃ (S : St) (er : Int), e = .returned (.tuple #[.agg #[.int .i64 S.k, .int .i64 S.f, .int .i64 S.s, .int .i64 S.c], .int .i64 er]) ∧ Hid (DoW w0 w L bl p tf F σ τ d y 0 S er w') := by
  cases hl : liveB τ y with
  | true =>
    obtain ⟨k, hk⟩ := H.index hl
    refine (ordDelete_ok H y h1 h2 hl hn hT hk).mono ?_
    rintro e w' ⟨S, F', σ', h', τ', rfl, H2⟩
    exact ⟨S, 0, rfl, hid ⟨F', σ', h', τ', H2.out.1, .del k hd hk rfl rfl H2.out.2⟩⟩
  | false =>
    refine (ordDelete_stale H y h1 h2 hl).mono ?_
    rintro e w' ⟨rfl, hf⟩
    exact ⟨⟨0, 0, 0, 0⟩, 17, rfl, hid ⟨F, σ, h, τ, H.same hf, .stale hd.1 hl rfl rfl rfl rfl rfl⟩⟩
theorem DoW.out {d hn x er : Int} {S : St} {w2 w3 : World} {o : Obj} (H : OrdR w0 L bl p tf F σ h τ w) (H2 : DoW w0 (w.alloc o) L bl p tf F σ τ d hn x S er w2) (hf : Fr (fun k => k = w.heap.size) w2 w3) : DoW w0 w L bl p tf F σ τ d hn x S er w3 := by
  obtain ⟨F', σ', h', τ', a, b⟩ := H2
  exact ⟨F', σ', h', τ', OrdW.out H a hf, b⟩
theorem DoW.fr {d hn x er : Int} {S : St} {w2 : World} (H2 : DoW w0 w L bl p tf F σ τ d hn x S er w2) : Fr (OrS F bl L tf) w w2 := by
  obtain ⟨F', σ', h', τ', a, b⟩ := H2
  exact a.fr
end
end Go.Proofs.YtogjfaiidciedaaGreatDoor
