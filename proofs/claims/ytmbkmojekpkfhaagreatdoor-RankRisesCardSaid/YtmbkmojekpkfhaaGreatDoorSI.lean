/- set.Set: Insert, Delete. -/
import Derived.Test.YtmbkmojekpkfhaaGreatDoorSF
set_option linter.unusedVariables false
set_option linter.unusedSimpArgs false
namespace Go.Proofs.YtmbkmojekpkfhaaGreatDoor
open Go.RowKit

abbrev stepQ : Obj := .cells #[.int .i64 0, .int .i64 0, .int .i64 0, .int .i64 0] 35
theorem zer5 (w : World) : Has (w.alloc stepQ) w.heap.size [.int .i64 0, .int .i64 0, .int .i64 0, .int .i64 0] 35 := Has.new w _ _
theorem st5_fr (w2 : World) (b : Nat) (S : St) (hNG : NG ≤ b) : Fr (fun k => k = b) w2 ((((w2.setCell ⟨b, 0, none⟩ (.int .i64 S.k)).setCell ⟨b, 1, none⟩ (.int .i64 S.f)).setCell ⟨b, 2, none⟩ (.int .i64 S.s)).setCell ⟨b, 3, none⟩ (.int .i64 S.c)) :=
  (((((Fr.refl (fun k => k = b) w2)).setCell ⟨b, 0, none⟩ _ hNG (fun _ => rfl)).setCell ⟨b, 1, none⟩ _ hNG (fun _ => rfl)).setCell ⟨b, 2, none⟩ _ hNG (fun _ => rfl)).setCell ⟨b, 3, none⟩ _ hNG (fun _ => rfl)
theorem fr_sets5 (w : World) (m : Nat) (hg : NG ≤ m) (x1 x2 x3 x4 : Value) : Fr (fun k => k = m) w ((((w.setCell ⟨m, 0, none⟩ x1).setCell ⟨m, 1, none⟩ x2).setCell ⟨m, 2, none⟩ x3).setCell ⟨m, 3, none⟩ x4) :=
  ((((Fr.refl (fun k => k = m) w).setCell ⟨m, 0, none⟩ x1 hg (fun _ => rfl)).setCell ⟨m, 1, none⟩ x2 hg (fun _ => rfl)).setCell ⟨m, 2, none⟩ x3 hg (fun _ => rfl)).setCell ⟨m, 3, none⟩ x4 hg (fun _ => rfl)
theorem cell_sets5 {w : World} {a : Addr} {m : Nat} {v : Value} (hg : NG ≤ m) (h : w.cell? a = some v) (hne : ¬ a.block = m) (x1 x2 x3 x4 : Value) : ((((w.setCell ⟨m, 0, none⟩ x1).setCell ⟨m, 1, none⟩ x2).setCell ⟨m, 2, none⟩ x3).setCell ⟨m, 3, none⟩ x4).cell? a = some v :=
  (fr_sets5 w m hg x1 x2 x3 x4).cell h hne
theorem ExO.at {σ : List (Option Int)} {key r : Int} (H : ExO σ key r) (hm : key ∈ its σ) : ∃ q : Nat, r = q ∧ σ.getD q Option.none = Option.some key ∧ cntOn (onOf σ) q = lessC (its σ) key := by
  cases H with
  | none _ hl => exact absurd hm hl
  | some q hr hq hc => exact ⟨q, hr, hq, hc⟩
theorem ExO.out {σ : List (Option Int)} {key r : Int} (H : ExO σ key r) (hm : key ∉ its σ) : r = -1 := by
  cases H with
  | none hr _ => exact hr
  | some q hr hq hc => exact absurd (mem_its.2 ⟨q, hq⟩) hm
/-- What an Insert of a key does. -/
inductive SInsQ (σ : List (Option Int)) (h : Nat) (key : Int) (S : St) (er : Int) (σ' : List (Option Int)) (h' : Nat) : Prop
  | ok (bh : Int) (seg next : Nat) (v : Int) (ev : List Ev) (hm : key ∉ its σ) (hT : (its σ).length < 2560) (hb : BehC σ bh seg next) (hs : seg < 2 ^ h) (hc : cntOn (onOf σ) next = lessC (its σ) key) (he : er = 0) (k : InsP σ h seg next key v S σ' h' ev)
  | there (hm : key ∈ its σ) (he : er = 15) (hS : S = ⟨0, 0, 0, 0⟩) (hσ : σ' = σ) (hh : h' = h)
  | full (hm : key ∉ its σ) (hT : 2560 ≤ (its σ).length) (he : er = 16) (hS : S = ⟨0, 0, 0, 0⟩) (hσ : σ' = σ) (hh : h' = h)
/-- What a Delete of a key does. -/
inductive SDelQ (σ : List (Option Int)) (h : Nat) (key : Int) (S : St) (er : Int) (σ' : List (Option Int)) (h' : Nat) : Prop
  | ok (j : Nat) (ev : List Ev) (hx : σ.getD j none = some key) (hc : cntOn (onOf σ) j = lessC (its σ) key) (he : er = 0) (k : DelP σ h j key S σ' h' ev)
  | none (hm : key ∉ its σ) (he : er = 14) (hS : S = ⟨0, 0, 0, 0⟩) (hσ : σ' = σ) (hh : h' = h)
/-- What stands behind an act of a set. -/
def SActW (Q : St → Int → List (Option Int) → Nat → Prop) (w0 : World) (s p : Nat) (F : PF) (S : St) (er : Int) (w w' : World) : Prop :=
  ∃ (F' : PF) (σ' : List (Option Int)) (h' : Nat) (evs' : List Ev), SetS w0 s p F' σ' h' evs' w' ∧ Q S er σ' h' ∧ (∀ k, F'.mem k → F.mem k ∨ w.heap.size ≤ k) ∧ Fr F.mem w w'
section
variable {w0 w : World} {s p : Nat} {F : PF} {σ : List (Option Int)} {h : Nat} {evs : List Ev}
theorem SetS.ins {w' : World} {F' : PF} {σ' : List (Option Int)} {h' : Nat} {evs' : List Ev} (H : SetS w0 s p F σ h evs w) (hr : RowN w0 p F' σ' h' evs' w') (hm : ∀ k, F'.mem k → F.mem k ∨ w.heap.size ≤ k) (hf : Fr F.mem w w') (hu : Up (its σ')) : SetS w0 s p F' σ' h' evs' w' :=
  ⟨hr, H.c.fr' hf H.ns, fun hk => by
    rcases hm s hk with g | g
    · exact H.ns g
    · have := H.c.lt; omega, H.ge, H.gs, hu⟩
theorem rowIns_key (H : SetS w0 s p F σ h evs w) {bh key : Int} (hb : BefO σ key bh) (hm : key ∉ its σ) (hT : (its σ).length ≤ 2560) :
    Calls Tryz.prog 17 #[.pointer (some ⟨p, 0, none⟩), .int .i64 bh, .int .i64 key] w fun e w' => ∃ (v : Int) (S : St) (er : Int), e = .returned (.tuple #[.int .i64 v, .agg #[.int .i64 S.k, .int .i64 S.f, .int .i64 S.s, .int .i64 S.c], .int .i64 er]) ∧ Hid (SActW (SInsQ σ h key) w0 s p F S er w w') := by
  have hck : bh = -1 ∨ chkE σ bh = 0 := by
    cases hb with
    | none hr _ => exact .inl hr
    | some q x hr hq _ _ => exact .inr (by rw [hr]; exact chk_of (onOf_some hq))
  by_cases hl : (its σ).length < 2560
  · refine (RowG.insAny H.row hearN hl bh key).mono ?_
    rintro e w' ⟨v, S, er, rfl, H2⟩
    obtain ⟨⟨F', σ', h', ev, hR, hQ, hmm⟩, hf⟩ := H2.out
    have hf' : Fr F.mem w w' := hf.mono (fun k _ hk => hk.resolve_right id)
    refine ⟨v, S, er, rfl, hid ⟨F', σ', h', evs ++ ev, ?_⟩⟩
    cases hQ with
    | bad he h0 hne _ _ _ _ _ => exact absurd (he.trans (hck.resolve_left hne)) h0
    | ok seg next hc hs he k =>
      have hn : cntOn (onOf σ) next = lessC (its σ) key := by
        cases hb with
        | none hr hl0 =>
          cases hc with
          | first _ _ hn => rw [hn, hl0]; rfl
          | «at» b e _ _ _ => omega
        | some q x hr hq _ hc' =>
          cases hc with
          | first e _ _ => omega
          | «at» b e ho _ hn =>
            have : b = q := by omega
            rw [hn, this, cntOn_on _ _ (onOf_some hq), hc']
      have hit : its σ' = putK (its σ) key := by rw [k.items]; exact putK_at hn
      exact ⟨H.ins hR hmm hf' (by rw [hit]; exact up_putK H.up hm), .ok bh seg next v ev hm hl hc hs hn he k, hmm, hf'⟩
  · refine (RowG.full H.row hearN (by omega) bh key hck).mono ?_
    rintro e w' ⟨rfl, H2⟩
    exact ⟨0, ⟨0, 0, 0, 0⟩, 16, rfl, hid ⟨F, σ, h, evs, H.new H2.out.2, .full hm (by omega) rfl rfl rfl rfl, fun k hk => .inl hk, H2.out.2.mono (fun _ _ h => h.elim)⟩⟩
theorem rowDel_key (H : SetS w0 s p F σ h evs w) {q : Nat} {key : Int} (hq : σ.getD q none = some key) (hc : cntOn (onOf σ) q = lessC (its σ) key) (hT : (its σ).length ≤ 2560) :
    Calls Tryz.prog 16 #[.pointer (some ⟨p, 0, none⟩), .int .i64 q] w fun e w' => ∃ (v : Int) (S : St) (er : Int), e = .returned (.tuple #[.int .i64 v, .agg #[.int .i64 S.k, .int .i64 S.f, .int .i64 S.s, .int .i64 S.c], .int .i64 er]) ∧ Hid (SActW (SDelQ σ h key) w0 s p F S er w w') := by
  refine (RowG.delAny H.row hearN hT q).mono ?_
  rintro e w' ⟨v, S, er, rfl, H2⟩
  obtain ⟨⟨F', σ', h', ev, hR, hQ, hmm⟩, hf⟩ := H2.out
  have hf' : Fr F.mem w w' := hf.mono (fun k _ hk => hk.resolve_right id)
  refine ⟨v, S, er, rfl, hid ⟨F', σ', h', evs ++ ev, ?_⟩⟩
  cases hQ with
  | bad he h0 _ _ _ _ _ => exact absurd (he.trans (chk_of (onOf_some hq))) h0
  | ok j hj hx he k =>
    obtain rfl : j = q := by omega
    rw [hq] at hx
    cases hx
    have hit : its σ' = delK (its σ) key := by rw [k.items]; exact delK_at hc
    exact ⟨H.ins hR hmm hf' (by rw [hit]; exact up_delK H.up key), .ok j ev hq hc he k, hmm, hf'⟩
/-- Behind the row's act: the step's box, and the result's. -/
structure SInsM (Q : St → Int → List (Option Int) → Nat → Prop) (w0 : World) (s p : Nat) (F : PF) (w : World) (bx : Nat) (S : St) (er : Int) (wx : World) : Prop where
  ex : ∃ (F' : PF) (σ' : List (Option Int)) (h' : Nat) (evs' : List Ev), SetS w0 s p F' σ' h' evs' wx ∧ Q S er σ' h' ∧ (∀ k, F'.mem k → F.mem k ∨ w.heap.size + 1 ≤ k)
  fr : Fr F.mem w wx
  box : Has wx bx [.int .i64 S.k, .int .i64 S.f, .int .i64 S.s, .int .i64 S.c] 35
  res : Has wx w.heap.size [.int .i64 0, .int .i64 0, .int .i64 0, .int .i64 0] 35
theorem sInsM_of {Q : St → Int → List (Option Int) → Nat → Prop} {w3 w4 wx : World} {bx : Nat} {S : St} {er : Int} (H : SetS w0 s p F σ h evs w) (hf : Fr Nil1 (w.alloc stepQ) w3) (H4 : SActW Q w0 s p F S er w3 w4) (hb : w.heap.size + 1 ≤ bx) (hlt : bx < w3.heap.size ∨ w4.heap.size ≤ bx)
    (hx : Fr (fun k => k = bx) w4 wx) (hbox : Has wx bx [.int .i64 S.k, .int .i64 S.f, .int .i64 S.s, .int .i64 S.c] 35) : SInsM Q w0 s p F w bx S er wx := by
  obtain ⟨F', σ', h', evs', hS, hQ, hmm, hf4⟩ := H4
  have s1 := hf.size
  rw [World.size_alloc] at s1
  have s4 := hf4.size
  have hF : ∀ k, F.mem k → k < w.heap.size := fun k hk => H.row.r.lt k hk
  have hsl := H.c.lt
  have g0 := (H.geB s (.inr rfl))
  have hw0 : w0.heap.size ≤ w.heap.size := H.row.fr.size
  have hF' : ¬ F'.mem bx := fun hk => by
    have h1 := hS.lt bx (.inl hk)
    rcases hmm bx hk with g | g
    · have := hF bx g; omega
    · omega
  refine ⟨⟨F', σ', h', evs', hS.frS hx (fun k hk => ?_), hQ, fun k hk => ?_⟩, ((((Fr.refl F.mem w).alloc stepQ).trans (hf.mono (fun _ _ h => h.elim))).trans hf4).trans' hx (fun j _ hj e => by have e' : j = bx := e; omega), hbox, ((zer5 w).fr' hf id).fr' hf4 (fun g => by have := hF _ g; omega) |>.fr' hx (fun e => by have e' : w.heap.size = bx := e; omega)⟩
  · have e : k = bx := hk
    subst e
    refine ⟨fun hk => ?_, by omega⟩
    rcases hk with g | g
    · exact hF' g
    · omega
  · rcases hmm k hk with g | g
    · exact .inl g
    · exact .inr (by omega)
theorem SInsM.fin {Q : St → Int → List (Option Int) → Nat → Prop} {wx w' : World} {bx : Nat} {S : St} {er : Int} (H : SetS w0 s p F σ h evs w) (H4 : SInsM Q w0 s p F w bx S er wx) (hf : Fr (fun k => k = w.heap.size) wx w') : SActW Q w0 s p F S er w w' := by
  obtain ⟨F', σ', h', evs', hS, hQ, hmm⟩ := H4.ex
  have hF : ∀ k, F.mem k → k < w.heap.size := fun k hk => H.row.r.lt k hk
  have hsl := H.c.lt
  have hw0 : w0.heap.size ≤ w.heap.size := H.row.fr.size
  refine ⟨F', σ', h', evs', hS.frS hf (fun k hk => ?_), hQ, fun k hk => ?_, H4.fr.trans' hf (fun j _ hj e => by have e' : j = w.heap.size := e; omega)⟩
  · have e : k = w.heap.size := hk
    subst e
    refine ⟨fun hk => ?_, hw0⟩
    rcases hk with g | g
    · rcases hmm _ g with g | g
      · have := hF _ g; omega
      · omega
    · omega
  · rcases hmm k hk with g | g
    · exact .inl g
    · exact .inr (by omega)
/-- What is refused: the result's box alone has turned. -/
theorem SetS.refused {Q : St → Int → List (Option Int) → Nat → Prop} {w2 w' : World} {S : St} {er : Int} (H : SetS w0 s p F σ h evs w) (hf : Fr Nil1 (w.alloc stepQ) w2) (hx : Fr (fun k => k = w.heap.size) w2 w') (hQ : Q S er σ h) : SActW Q w0 s p F S er w w' := by
  have hF : ∀ k, F.mem k → k < w.heap.size := fun k hk => H.row.r.lt k hk
  have hsl := H.c.lt
  have hw0 : w0.heap.size ≤ w.heap.size := H.row.fr.size
  refine ⟨F, σ, h, evs, ((H.new ((Fr.refl _ _).alloc stepQ)).new hf).frS hx (fun k hk => ?_), hQ, fun k hk => .inl hk, (((Fr.refl F.mem w).alloc stepQ).trans (hf.mono (fun _ _ h => h.elim))).trans' hx (fun j _ hj e => by have e' : j = w.heap.size := e; omega)⟩
  have e : k = w.heap.size := hk
  subst e
  refine ⟨fun hk => ?_, hw0⟩
  rcases hk with g | g
  · have := hF _ g; omega
  · omega
set_option maxRecDepth 100000 in
set_option maxHeartbeats 4000000 in
theorem setInsert_any (H : SetS w0 s p F σ h evs w) (hT : (its σ).length ≤ 2560) (key : Int) :
    Calls Tryz.prog 39 #[.pointer (some ⟨s, 0, none⟩), .int .i64 key] w fun e w' => ∃ (S : St) (er : Int), e = .returned (.tuple #[.agg #[.int .i64 S.k, .int .i64 S.f, .int .i64 S.s, .int .i64 S.c], .int .i64 er]) ∧ Hid (SActW (SInsQ σ h key) w0 s p F S er w w') := by
  have fa : Fr Nil1 w (w.alloc (.cells #[.int .i64 0, .int .i64 0, .int .i64 0, .int .i64 0] 35)) := (Fr.refl _ _).alloc _
  have HE := hid (setExact_any (H.new fa) key)
  have HH := hid H
  have HNG := hid H.size
  have HFa := hid fa
  by_cases hm : key ∈ its σ
  · have HM := hid hm
    clear H hT hm fa
    go_enter Tryz.func39, Tryz.ntmps39
    go_wp2_with (go_at_call 82; refine HE.out.mono ?_; rintro e w2 ⟨r, rfl, H2⟩; obtain ⟨q, rfl, _, _⟩ := H2.out.1.at HM.out; have hb2 := (zer5 w).fr' H2.out.2 id; have HB2 := hid hb2; have e0 := hb2.cell 0; have e1 := hb2.cell 1; have e2 := hb2.cell 2; have e3 := hb2.cell 3; have ef := hb2.frozen; clear hb2)
    have hf := (((HB2.out.set 0 (.int .i64 0)).set 1 (.int .i64 0)).set 2 (.int .i64 0)).set 3 (.int .i64 0)
    have z0 := hf.cell 0
    have z1 := hf.cell 1
    have z2 := hf.cell 2
    have z3 := hf.cell 3
    refine bodyPost_ret (v := .tuple #[.agg #[.int .i64 0, .int .i64 0, .int .i64 0, .int .i64 0], .int .i64 15]) (by simp [results, Tryz.f39, go_sem, z0, z1, z2, z3]) rfl ?_
    exact ⟨⟨0, 0, 0, 0⟩, 15, rfl, hid (HH.out.refused H2.out.2 (st5_fr w2 _ ⟨0, 0, 0, 0⟩ HNG.out) (.there HM.out rfl rfl rfl rfl))⟩
  · have HM := hid hm
    have HT := hid hT
    clear H hT hm fa
    go_enter Tryz.func39, Tryz.ntmps39
    go_upto_region 5 with (go_at_call 82; refine HE.out.mono ?_; rintro e w2 ⟨r, rfl, H2⟩; obtain rfl := H2.out.1.out HM.out)
    have HS2 := hid ((HH.out.new HFa.out).new H2.out.2)
    obtain ⟨c0, cf⟩ := HS2.out.c.one
    go_cut [7, 8] from 19 to 32 (fun s7 s8 wx => ∃ (bx : Nat) (S : St) (er : Int), s7 = .pointer (some ⟨bx, 0, none⟩) ∧ s8 = .int .i64 er ∧ Hid (SInsM (SInsQ σ h key) w0 s p F w bx S er wx))
    case first =>
      go_region_held3 (fun w' => w'.cell? ⟨s, 0, none⟩ = some (.pointer (some ⟨p, 0, none⟩))) (first | exact k0 | exact c0 | exact cell_sets5 HM2.out.1 k0 HM2.out.2 _ _ _ _ | go_keep) (first
        | (go_at_call 17; (with_reducible refine (rowIns_key HSc.out H3.out.1 HM.out HT.out).mono ?_); rintro e w4 ⟨v, S, er, rfl, H4⟩; obtain ⟨_, _, _, _, hS4, _, _, hf4⟩ := H4.out; have k0 := hS4.c.one.1; have hb4 := HB3.out.fr' hf4 (fun g => by have := HSb.out.row.r.lt _ g; omega); have HM2 := hid (And.intro HSb.out.size (show ¬ s = w2.heap.size by have := HSb.out.c.lt; omega)); have HB4 := hid hb4; have s0 := hb4.cell 0; have s1 := hb4.cell 1; have s2 := hb4.cell 2; have s3 := hb4.cell 3; have sf := hb4.frozen; clear hb4 hS4 hf4)
        | (go_at_call 17; (with_reducible refine (rowIns_key (HS3.out.new ((Fr.refl Nil1 w3).alloc (.cells #[.int .i64 0, .int .i64 0, .int .i64 0, .int .i64 0] 35))) H3.out.1 HM.out HT.out).mono ?_); rintro e w4 ⟨v, S, er, rfl, H4⟩; obtain ⟨_, _, _, _, hS4, _, _, hf4⟩ := H4.out; have k0 := hS4.c.one.1; have hb4 := (zer5 w3).fr' hf4 (fun g => by have := HS3.out.row.r.lt _ g; omega); have HM2 := hid (And.intro HS3.out.size (show ¬ s = w3.heap.size by have := HS3.out.c.lt; omega)); have HB4 := hid hb4; have s0 := hb4.cell 0; have s1 := hb4.cell 1; have s2 := hb4.cell 2; have s3 := hb4.cell 3; have sf := hb4.frozen; clear hb4 hS4 hf4)
        | (go_at_call 17; (with_reducible refine (rowIns_key HS3.out H3.out.1 HM.out HT.out).mono ?_); rintro e w4 ⟨v, S, er, rfl, H4⟩; obtain ⟨_, _, _, _, hS4, _, _, _⟩ := H4.out; have k0 := hS4.c.one.1; clear hS4)
        | (go_at_call 82; (with_reducible refine (setBefore_any (HS2.out.new ((Fr.refl Nil1 w2).alloc (.cells #[.int .i64 0, .int .i64 0, .int .i64 0, .int .i64 0] 35)).drew) key).mono ?_); rintro e w3 ⟨r, rfl, H3⟩; have HSb := hid (HS2.out); have HSc := hid ((HS2.out.new ((Fr.refl Nil1 w2).alloc (.cells #[.int .i64 0, .int .i64 0, .int .i64 0, .int .i64 0] 35)).drew).new H3.out.2); have HB3 := hid ((zer5 w2).drew.fr' H3.out.2 id); have k0 := HSc.out.c.one.1)
        | (go_at_call 82; (with_reducible refine (setBefore_any (HS2.out.new (Fr.refl Nil1 w2).drew) key).mono ?_); rintro e w3 ⟨r, rfl, H3⟩; have HS3 := hid ((HS2.out.new (Fr.refl Nil1 w2).drew).new H3.out.2); have k0 := HS3.out.c.one.1))
      all_goals (try go_wp2_with fail)
      all_goals go_meet
      all_goals (first
        | exact ⟨w4.heap.size, S, er, rfl, rfl, hid (sInsM_of HH.out ((H2.out.2.trans (Fr.refl Nil1 w2).drew).trans H3.out.2) H4.out (by have := H2.out.2.size; have := H3.out.2.size; obtain ⟨_, _, _, _, _, _, _, hf4⟩ := H4.out; have := hf4.size; simp at *; omega) (.inr (Nat.le_refl _)) ((Fr.refl _ w4).alloc _) (Has.new w4 _ _))⟩
        | exact ⟨w3.heap.size, S, er, rfl, rfl, hid (sInsM_of HH.out (((H2.out.2.trans (Fr.refl Nil1 w2).drew).trans H3.out.2).alloc _) H4.out (by have := H2.out.2.size; have := H3.out.2.size; simp at *; omega) (.inl (by simp)) (st5_fr w4 _ S HM2.out.1) ((((HB4.out.set 0 (.int .i64 S.k)).set 1 (.int .i64 S.f)).set 2 (.int .i64 S.s)).set 3 (.int .i64 S.c)))⟩
        | exact ⟨w2.heap.size, S, er, rfl, rfl, hid (sInsM_of HH.out (((H2.out.2.alloc _).drew).trans H3.out.2) H4.out (by have := H2.out.2.size; simp at *; omega) (.inl (by have := H3.out.2.size; simp at *; omega)) (st5_fr w4 _ S HM2.out.1) ((((HB4.out.set 0 (.int .i64 S.k)).set 1 (.int .i64 S.f)).set 2 (.int .i64 S.s)).set 3 (.int .i64 S.c)))⟩)
    case rest =>
      obtain ⟨bx, S, er, rfl, rfl, HX⟩ := hcut
      obtain ⟨W, hW⟩ : ∃ W, W = wc := ⟨_, rfl⟩
      subst hW
      have x0 := HX.out.box.cell 0
      have x1 := HX.out.box.cell 1
      have x2 := HX.out.box.cell 2
      have x3 := HX.out.box.cell 3
      have HB2 := hid HX.out.res
      have e0 := HB2.out.cell 0
      have e1 := HB2.out.cell 1
      have e2 := HB2.out.cell 2
      have e3 := HB2.out.cell 3
      have ef := HB2.out.frozen
      go_wp2_with fail
      have hf := (((HB2.out.set 0 (.int .i64 S.k)).set 1 (.int .i64 S.f)).set 2 (.int .i64 S.s)).set 3 (.int .i64 S.c)
      have z0 := hf.cell 0
      have z1 := hf.cell 1
      have z2 := hf.cell 2
      have z3 := hf.cell 3
      refine bodyPost_ret (v := .tuple #[.agg #[.int .i64 S.k, .int .i64 S.f, .int .i64 S.s, .int .i64 S.c], .int .i64 er]) (by simp [results, Tryz.f39, go_sem, z0, z1, z2, z3]) rfl ?_
      exact ⟨S, er, rfl, hid (SInsM.fin HH.out HX.out (st5_fr W _ S HNG.out))⟩
end
end Go.Proofs.YtmbkmojekpkfhaaGreatDoor
