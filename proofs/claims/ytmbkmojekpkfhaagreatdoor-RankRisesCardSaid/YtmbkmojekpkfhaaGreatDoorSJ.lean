/- set.Set: New, Clone, Row, Floor, Ceil; a set said by its keys. -/
import Derived.Test.YtmbkmojekpkfhaaGreatDoorSI
set_option linter.unusedVariables false
set_option linter.unusedSimpArgs false
namespace Go.Proofs.YtmbkmojekpkfhaaGreatDoor
open Go.RowKit

section
variable {w0 w : World} {s p : Nat} {F : PF} {σ : List (Option Int)} {h : Nat} {evs : List Ev}
set_option maxRecDepth 100000 in
set_option maxHeartbeats 4000000 in
theorem setDelete_any (H : SetS w0 s p F σ h evs w) (hT : (its σ).length ≤ 2560) (key : Int) :
    Calls Tryz.prog 38 #[.pointer (some ⟨s, 0, none⟩), .int .i64 key] w fun e w' => ∃ (S : St) (er : Int), e = .returned (.tuple #[.agg #[.int .i64 S.k, .int .i64 S.f, .int .i64 S.s, .int .i64 S.c], .int .i64 er]) ∧ Hid (SActW (SDelQ σ h key) w0 s p F S er w w') := by
  have fa : Fr Nil1 w (w.alloc (.cells #[.int .i64 0, .int .i64 0, .int .i64 0, .int .i64 0] 35)) := (Fr.refl _ _).alloc _
  have HE := hid (setExact_any (H.new fa) key)
  have HH := hid H
  have HNG := hid H.size
  have HFa := hid fa
  by_cases hm : key ∈ its σ
  · have HM := hid hm
    have HT := hid hT
    clear H hT hm fa
    go_enter Tryz.func38, Tryz.ntmps38
    go_wp2_with (first
      | (go_at_call 16; refine (rowDel_key ((HH.out.new HFa.out).new H2.out.2) HQ.out.1 HQ.out.2 HT.out).mono ?_; rintro e w3 ⟨v, S, er, rfl, H3⟩; obtain ⟨_, _, _, _, _, _, _, hf3⟩ := H3.out; have hb3 := (HB2.out.fr' hf3 (fun g => by have := HH.out.row.r.lt _ g; omega)).alloc (.cells #[.int .i64 S.k, .int .i64 S.f, .int .i64 S.s, .int .i64 S.c] 35); have HB3 := hid hb3; have e0 := hb3.cell 0; have e1 := hb3.cell 1; have e2 := hb3.cell 2; have e3 := hb3.cell 3; have ef := hb3.frozen; clear hb3 hf3)
      | (go_at_call 82; refine HE.out.mono ?_; rintro e w2 ⟨r, rfl, H2⟩; obtain ⟨q, rfl, hq, hc⟩ := H2.out.1.at HM.out; have HQ := hid (And.intro hq hc); have HB2 := hid ((zer5 w).fr' H2.out.2 id); have c0 := ((HH.out.new HFa.out).new H2.out.2).c.one.1; clear hq hc))
    have hf := (((HB3.out.set 0 (.int .i64 S.k)).set 1 (.int .i64 S.f)).set 2 (.int .i64 S.s)).set 3 (.int .i64 S.c)
    have z0 := hf.cell 0
    have z1 := hf.cell 1
    have z2 := hf.cell 2
    have z3 := hf.cell 3
    refine bodyPost_ret (v := .tuple #[.agg #[.int .i64 S.k, .int .i64 S.f, .int .i64 S.s, .int .i64 S.c], .int .i64 er]) (by simp [results, Tryz.f38, go_sem, z0, z1, z2, z3]) rfl ?_
    have s2 := H2.out.2.size
    rw [World.size_alloc] at s2
    obtain ⟨_, _, _, _, _, _, _, hf3⟩ := H3.out
    have s3 := hf3.size
    exact ⟨S, er, rfl, hid (SInsM.fin HH.out (sInsM_of HH.out H2.out.2 H3.out (bx := w3.heap.size) (by omega) (.inr (Nat.le_refl _)) ((Fr.refl _ w3).alloc _) (Has.new w3 _ _)) (st5_fr _ _ S HNG.out))⟩
  · have HM := hid hm
    clear H hT hm fa
    go_enter Tryz.func38, Tryz.ntmps38
    go_wp2_with (go_at_call 82; refine HE.out.mono ?_; rintro e w2 ⟨r, rfl, H2⟩; obtain rfl := H2.out.1.out HM.out; have hb2 := (zer5 w).fr' H2.out.2 id; have HB2 := hid hb2; have e0 := hb2.cell 0; have e1 := hb2.cell 1; have e2 := hb2.cell 2; have e3 := hb2.cell 3; have ef := hb2.frozen; clear hb2)
    have hf := (((HB2.out.set 0 (.int .i64 0)).set 1 (.int .i64 0)).set 2 (.int .i64 0)).set 3 (.int .i64 0)
    have z0 := hf.cell 0
    have z1 := hf.cell 1
    have z2 := hf.cell 2
    have z3 := hf.cell 3
    refine bodyPost_ret (v := .tuple #[.agg #[.int .i64 0, .int .i64 0, .int .i64 0, .int .i64 0], .int .i64 14]) (by simp [results, Tryz.f38, go_sem, z0, z1, z2, z3]) rfl ?_
    exact ⟨⟨0, 0, 0, 0⟩, 14, rfl, hid (HH.out.refused H2.out.2 (st5_fr w2 _ ⟨0, 0, 0, 0⟩ HNG.out) (.none HM.out rfl rfl rfl rfl))⟩
end
theorem up_nil : Up (its (List.replicate 32 (none : Option Int))) := by
  have : its (List.replicate 32 (none : Option Int)) = [] := by decide
  rw [this]
  exact List.Pairwise.nil
section
variable {w0 w : World} {s p : Nat} {F : PF} {σ : List (Option Int)} {h : Nat} {evs : List Ev}
theorem setRow_any (H : SetS w0 s p F σ h evs w) : Calls Tryz.prog 71 #[.pointer (some ⟨s, 0, none⟩)] w fun e w' => ∃ F' : PF, e = .returned (.pointer (some ⟨F'.p, 0, none⟩)) ∧ Hid (RowN w F'.p F' σ h [] w' ∧ Fr Nil1 w w') := by
  obtain ⟨c0, cf⟩ := H.c.one
  have HC := hid (pmaClone_any H.row.r)
  rw [H.row.p] at HC
  have HD := hid H.row.d
  clear H
  go_enter Tryz.func71, Tryz.ntmps71
  go_wp2_with (go_at_call 18; refine HC.out.mono ?_; rintro e w1 ⟨F', rfl, h1, h2, h3⟩; have H1 := hid (And.intro h1 (And.intro h2 h3)); clear h1 h2 h3)
  go_ret
  exact ⟨F', rfl, hid ⟨⟨rfl, H1.out.1, HD.out, trivial, H1.out.2.1, H1.out.2.2, fun k hk => hk.elim⟩, H1.out.2.1⟩⟩
/-- What is told of a slot that was found. -/
theorem at_some {σ : List (Option Int)} {q : Nat} {x : Int} (h : σ.getD q none = some x) : atV σ (q : Int) = x ∧ atB σ (q : Int) = true :=
  ⟨by unfold atV; rw [if_pos (by omega), Int.toNat_natCast, h]; rfl, by rw [atB_nat]; exact onOf_some h⟩
theorem at_neg {α : Type} (σ : List (Option Int)) : atV σ (-1) = 0 ∧ atB σ (-1) = false := ⟨rfl, rfl⟩
end
/-- A set that has these keys. -/
structure SS (w0 : World) (s : Nat) (ks : List Int) (w : World) : Prop where
  ex : ∃ (p : Nat) (F : PF) (σ : List (Option Int)) (h : Nat) (evs : List Ev), SetS w0 s p F σ h evs w ∧ its σ = ks
  up : Up ks
  fr : Fr Nil1 w0 w
theorem stepO_kind {τ τ' : List (Option Int)} {h seg h' : Nat} {S : St} (H : StepO τ h seg S τ' h') : S.k ≠ 0 := by
  cases H with
  | win m hm e hh k => rw [e]; show (1 : Int) ≠ 0; omega
  | anew kd hk e hh k => rw [e]; show kd ≠ 0; omega
/-- What an Insert does to keys. -/
inductive InsK (ks : List Int) (key : Int) (S : St) (er : Int) (ks' : List Int) : Prop
  | ok (hm : key ∉ ks) (hT : ks.length < 2560) (hS : S.k ≠ 0) (he : er = 0) (hl : ks' = putK ks key)
  | there (hm : key ∈ ks) (hS : S = ⟨0, 0, 0, 0⟩) (he : er = 15) (hl : ks' = ks)
  | full (hm : key ∉ ks) (hT : 2560 ≤ ks.length) (hS : S = ⟨0, 0, 0, 0⟩) (he : er = 16) (hl : ks' = ks)
/-- What a Delete does to keys. -/
inductive DelK (ks : List Int) (key : Int) (S : St) (er : Int) (ks' : List Int) : Prop
  | ok (hm : key ∈ ks) (hS : S.k ≠ 0) (he : er = 0) (hl : ks' = delK ks key)
  | none (hm : key ∉ ks) (hS : S = ⟨0, 0, 0, 0⟩) (he : er = 14) (hl : ks' = ks)
section
variable {w0 w w' : World} {s : Nat} {ks : List Int}
theorem SS.new (H : SS w0 s ks w) (hf : Fr Nil1 w w') : SS w0 s ks w' := by
  obtain ⟨p, F, σ, h, evs, a, b⟩ := H.ex
  exact ⟨⟨p, F, σ, h, evs, a.new hf, b⟩, H.up, H.fr.trans hf⟩
theorem SS.insert (H : SS w0 s ks w) (hT : ks.length ≤ 2560) (key : Int) :
    Calls Tryz.prog 39 #[.pointer (some ⟨s, 0, none⟩), .int .i64 key] w fun e w' => ∃ (S : St) (er : Int) (ks' : List Int), e = .returned (.tuple #[.agg #[.int .i64 S.k, .int .i64 S.f, .int .i64 S.s, .int .i64 S.c], .int .i64 er]) ∧ Hid (SS w0 s ks' w' ∧ InsK ks key S er ks') := by
  obtain ⟨p, F, σ, h, evs, a, rfl⟩ := H.ex
  refine (setInsert_any a hT key).mono ?_
  rintro e w' ⟨S, er, rfl, H2⟩
  obtain ⟨F', σ', h', evs', hS, hQ, _, _⟩ := H2.out
  refine ⟨S, er, its σ', rfl, hid ⟨⟨⟨p, F', σ', h', evs', hS, rfl⟩, hS.up, hS.row.fr⟩, ?_⟩⟩
  cases hQ with
  | ok bh seg next v ev hm hl hb hs hc he k =>
    obtain ⟨_, _, _, _, _, hst, _⟩ := k.step
    exact .ok hm hl (stepO_kind hst) he (by rw [k.items]; exact putK_at hc)
  | there hm he hS hσ hh => exact .there hm hS he (by rw [hσ])
  | full hm hT he hS hσ hh => exact .full hm hT hS he (by rw [hσ])
theorem SS.delete (H : SS w0 s ks w) (hT : ks.length ≤ 2560) (key : Int) :
    Calls Tryz.prog 38 #[.pointer (some ⟨s, 0, none⟩), .int .i64 key] w fun e w' => ∃ (S : St) (er : Int) (ks' : List Int), e = .returned (.tuple #[.agg #[.int .i64 S.k, .int .i64 S.f, .int .i64 S.s, .int .i64 S.c], .int .i64 er]) ∧ Hid (SS w0 s ks' w' ∧ DelK ks key S er ks') := by
  obtain ⟨p, F, σ, h, evs, a, rfl⟩ := H.ex
  refine (setDelete_any a hT key).mono ?_
  rintro e w' ⟨S, er, rfl, H2⟩
  obtain ⟨F', σ', h', evs', hS, hQ, _, _⟩ := H2.out
  refine ⟨S, er, its σ', rfl, hid ⟨⟨⟨p, F', σ', h', evs', hS, rfl⟩, hS.up, hS.row.fr⟩, ?_⟩⟩
  cases hQ with
  | ok j ev hx hc he k =>
    obtain ⟨_, _, _, _, _, hst, _⟩ := k.step
    exact .ok (mem_its.2 ⟨j, hx⟩) (stepO_kind hst) he (by rw [k.items]; exact delK_at hc)
  | none hm he hS hσ hh => exact .none hm hS he (by rw [hσ])
theorem SS.len (H : SS w0 s ks w) : Calls Tryz.prog 40 #[.pointer (some ⟨s, 0, none⟩)] w fun e w' => e = .returned (.int .i64 ks.length) ∧ w = w' := by
  obtain ⟨p, F, σ, h, evs, a, rfl⟩ := H.ex
  exact setLen_any a
theorem SS.has (H : SS w0 s ks w) (key : Int) : Calls Tryz.prog 41 #[.pointer (some ⟨s, 0, none⟩), .int .i64 key] w fun e w' => e = .returned (.bool (decide (key ∈ ks))) ∧ Fr Nil1 w w' := by
  obtain ⟨p, F, σ, h, evs, a, rfl⟩ := H.ex
  exact setHas_any a key
theorem SS.small (H : SS w0 s ks w) : ks.length ≤ 4096 := by
  obtain ⟨p, F, σ, h, evs, a, rfl⟩ := H.ex
  exact a.row.small.1
theorem SS.keys (H : SS w0 s ks w) : Calls Tryz.prog 37 #[.pointer (some ⟨s, 0, none⟩)] w fun e w' => ∃ A c, e = .returned (.slice A ks.length c) ∧ Hid (Rd w' (.slice A ks.length c) (ints' ks) ∧ Fr Nil1 w w') := by
  have hsm := H.small
  obtain ⟨p, F, σ, h, evs, a, rfl⟩ := H.ex
  refine (setKeys_any a).mono ?_
  rintro e w' ⟨v, rfl, H2⟩
  have hr := H2.out.1.rd (by omega)
  obtain ⟨A, c, e, _⟩ := hr
  rw [ints'_length] at e
  subst e
  exact ⟨A, c, rfl, hid ⟨H2.out.1.rd (by omega), H2.out.2⟩⟩
end
end Go.Proofs.YtmbkmojekpkfhaaGreatDoor
