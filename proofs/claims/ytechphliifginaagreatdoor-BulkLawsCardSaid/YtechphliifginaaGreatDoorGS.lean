/- In one: XB, XC, XD, Y1. -/
import Derived.Test.YtechphliifginaaGreatDoorGQ
/- A row in a law's loop: what each act does to it. -/
set_option linter.unusedVariables false
set_option linter.unusedSimpArgs false
namespace Go.Proofs.YtechphliifginaaGreatDoor
open Go.RowKit

theorem hear_nil : Hear Value.nilFunc (fun _ => False) (fun _ _ => True) :=
  ⟨.inl ⟨rfl, fun _ _ _ _ => trivial⟩, fun _ _ _ _ _ _ _ => trivial⟩
structure RowG (w0 : World) (p : Nat) (tv : Value) (B : Nat → Prop) (J : List Ev → World → Prop) (F : PF) (σ : List (Option Int)) (h : Nat) (evs : List Ev) (wr : World) : Prop where
  p : F.p = p
  r : PmaR wr F σ h tv
  d : Dn σ h
  jj : J evs wr
  fr : Fr Nil1 w0 wr
  mem : ∀ k, F.mem k → w0.heap.size ≤ k
  bb : ∀ k, B k → ¬ F.mem k ∧ k < wr.heap.size ∧ NG ≤ k ∧ w0.heap.size ≤ k
theorem RowG.new {w0 wr w' : World} {p : Nat} {tv : Value} {B : Nat → Prop} {J : List Ev → World → Prop} {F : PF} {σ : List (Option Int)} {h : Nat} {evs : List Ev} (H : RowG w0 p tv B J F σ h evs wr) (T : Hear tv B J) (hf : Fr Nil1 wr w') : RowG w0 p tv B J F σ h evs w' :=
  ⟨H.p, H.r.new hf, H.d, T.keep _ _ _ _ H.jj hf (fun _ h => h.elim), H.fr.trans hf, H.mem, fun k hk => ⟨(H.bb k hk).1, by have := (H.bb k hk).2.1; have := hf.size; omega, (H.bb k hk).2.2⟩⟩
theorem RowG.to {w0 wr w' : World} {p : Nat} {tv : Value} {B : Nat → Prop} {J : List Ev → World → Prop} {F F' : PF} {σ σ' : List (Option Int)} {h h' : Nat} {evs evs' : List Ev} (H : RowG w0 p tv B J F σ h evs wr) (hp : F'.p = F.p) (hr : PmaR w' F' σ' h' tv) (hd : Dn σ' h') (hj : J evs' w') (hm : ∀ k, F'.mem k → F.mem k ∨ wr.heap.size ≤ k) (hf : Fr (fun k => F.mem k ∨ B k) wr w') : RowG w0 p tv B J F' σ' h' evs' w' := by
  have hs := H.fr.size
  have hs' := hf.size
  refine ⟨hp.trans H.p, hr, hd, hj, H.fr.trans' hf (fun j hj _ hh => ?_), fun k hk => ?_, fun k hk => ?_⟩
  · rcases hh with hh | hh
    · have := H.mem j hh; omega
    · have := (H.bb j hh).2.2.2; omega
  · rcases hm k hk with h | h
    · exact H.mem k h
    · omega
  · obtain ⟨b1, b2, b3, b4⟩ := H.bb k hk
    refine ⟨fun hk' => ?_, by omega, b3, b4⟩
    rcases hm k hk' with h | h
    · exact b1 h
    · omega
/-- What an Insert did, without worlds. -/
structure InsP (σ : List (Option Int)) (h seg next : Nat) (x v : Int) (S : St) (σ' : List (Option Int)) (h' : Nat) (ev : List Ev) : Prop where
  items : its σ' = (its σ).take (cntOn (onOf σ) next) ++ x :: (its σ).drop (cntOn (onOf σ) next)
  slot : ∃ q : Nat, v = q ∧ σ'.getD q none = some x ∧ cntOn (onOf σ') q = cntOn (onOf σ) next
  knows : ∀ pos, Knows pos σ → pos x = -1 → legit pos ev ∧ Knows (runEv pos ev) σ'
  told : ev ≠ []
  dom : ∀ e ∈ ev, e.1 ∈ its σ ∨ e.1 ∈ its σ'
  rng : ∀ e ∈ ev, e.2.2 < 4096
  step : ∃ τ, ChgC σ τ (2 ^ h) seg 0 1 ∧ τ.length = σ.length ∧ (∀ k, k < 8 * seg ∨ 8 * seg + 8 ≤ k → τ.getD k none = σ.getD k none) ∧ its τ = its σ' ∧ StepO τ h seg S σ' h' ∧ pickS (cntsL τ) seg h = (S, 0)
structure DelP (σ : List (Option Int)) (h j : Nat) (x : Int) (S : St) (σ' : List (Option Int)) (h' : Nat) (ev : List Ev) : Prop where
  items : its σ' = (its σ).take (cntOn (onOf σ) j) ++ (its σ).drop (cntOn (onOf σ) j + 1)
  knows : ∀ pos, Knows pos σ → legit pos ev ∧ Knows (runEv pos ev) σ'
  told : ev ≠ []
  dom : ∀ e ∈ ev, e.1 ∈ its σ ∨ e.1 ∈ its σ'
  rng : ∀ e ∈ ev, e.2.2 < 4096
  step : ∃ τ, ChgC σ τ (2 ^ h) (j / 8) 1 0 ∧ τ.length = σ.length ∧ (∀ k, k < 8 * (j / 8) ∨ 8 * (j / 8) + 8 ≤ k → τ.getD k none = σ.getD k none) ∧ its τ = its σ' ∧ StepO τ h (j / 8) S σ' h' ∧ pickS (cntsL τ) (j / 8) h = (S, 0)
theorem chkE_zero {σ : List (Option Int)} {s : Int} (h : chkE σ s = 0) : ∃ b : Nat, s = b ∧ onOf σ b = true := by
  unfold chkE at h
  split at h
  · omega
  · split at h
    · rename_i c1 c2
      refine ⟨s.toNat, by omega, ?_⟩
      have := atB_nat σ s.toNat
      rw [Int.toNat_of_nonneg (by omega)] at this
      rw [← this]; exact c2
    · omega
theorem RowG.ins {w0 wr : World} {p : Nat} {tv : Value} {B : Nat → Prop} {J : List Ev → World → Prop} {F : PF} {σ : List (Option Int)} {h : Nat} {evs : List Ev} (H : RowG w0 p tv B J F σ h evs wr) (T : Hear tv B J) (hT : (its σ).length < 2560) (bh x : Int) {seg next : Nat} (hc : BehC σ bh seg next) :
    Calls Tryz.prog 22 #[.pointer (some ⟨p, 0, none⟩), .int .i64 bh, .int .i64 x] wr fun e w' => ∃ (v : Int) (S : St) (F' : PF) (σ' : List (Option Int)) (h' : Nat) (ev : List Ev), e = .returned (.tuple #[.int .i64 v, .agg #[.int .i64 S.k, .int .i64 S.f, .int .i64 S.s, .int .i64 S.c], .int .i64 0]) ∧ Hid (RowG w0 p tv B J F' σ' h' (evs ++ ev) w' ∧ InsP σ h seg next x v S σ' h' ev) := by
  rw [its_length] at hT
  have hB : ∀ k, B k → ¬ F.mem k ∧ k < wr.heap.size ∧ NG ≤ k := fun k hk => ⟨(H.bb k hk).1, (H.bb k hk).2.1, (H.bb k hk).2.2.1⟩
  have key : seg < 2 ^ h → ∀ e w', (∃ (v : Int) (S : St), e = Ending.returned (.tuple #[.int .i64 v, stV S, .int .i64 0]) ∧ InsOut wr F σ h seg next x tv B J evs v S w') →
      ∃ (v : Int) (S : St) (F' : PF) (σ' : List (Option Int)) (h' : Nat) (ev : List Ev), e = .returned (.tuple #[.int .i64 v, .agg #[.int .i64 S.k, .int .i64 S.f, .int .i64 S.s, .int .i64 S.c], .int .i64 0]) ∧ Hid (RowG w0 p tv B J F' σ' h' (evs ++ ev) w' ∧ InsP σ h seg next x v S σ' h' ev) := by
    rintro hs e w' ⟨v, S, rfl, hO⟩
    obtain ⟨⟨F', σ', h', ev, hI⟩, hf⟩ := hO.law H.d hs
    exact ⟨v, S, F', σ', h', ev, rfl, hid ⟨H.to hI.p hI.r hI.d hI.jj hI.mem hf, ⟨hI.items, hI.slot, hI.knows, hI.told, hI.dom, hI.rng, hI.step⟩⟩⟩
  have hz0 : 0 < 2 ^ h := Nat.pow_pos (by omega)
  rw [← H.p]
  rw [← H.p] at key
  cases hc with
  | first e hs hn =>
    subst e hs hn
    exact (pmaInsert_first H.r T H.jj hB H.d hT x).mono (key hz0)
  | «at» b e ho hs hn =>
    subst e hs hn
    have := onOf_lt ho
    have := H.d.len
    exact (pmaInsert_at H.r T H.jj hB H.d hT x b ho).mono (key (by omega))
theorem RowG.del {w0 wr : World} {p : Nat} {tv : Value} {B : Nat → Prop} {J : List Ev → World → Prop} {F : PF} {σ : List (Option Int)} {h : Nat} {evs : List Ev} (H : RowG w0 p tv B J F σ h evs wr) (T : Hear tv B J) (hT : (its σ).length ≤ 2560) (j : Nat) (x : Int) (hx : σ.getD j none = some x) :
    Calls Tryz.prog 21 #[.pointer (some ⟨p, 0, none⟩), .int .i64 j] wr fun e w' => ∃ (S : St) (F' : PF) (σ' : List (Option Int)) (h' : Nat) (ev : List Ev), e = .returned (.tuple #[.int .i64 x, .agg #[.int .i64 S.k, .int .i64 S.f, .int .i64 S.s, .int .i64 S.c], .int .i64 0]) ∧ Hid (RowG w0 p tv B J F' σ' h' (evs ++ ev) w' ∧ DelP σ h j x S σ' h' ev) := by
  rw [its_length] at hT
  have hB : ∀ k, B k → ¬ F.mem k ∧ k < wr.heap.size ∧ NG ≤ k := fun k hk => ⟨(H.bb k hk).1, (H.bb k hk).2.1, (H.bb k hk).2.2.1⟩
  have hp := H.p
  subst hp
  refine (pmaDelete_ok H.r T H.jj hB H.d hT j x hx).mono ?_
  rintro e w' ⟨v, S, rfl, hO⟩
  obtain ⟨⟨F', σ', h', ev, hI⟩, hf⟩ := hO.del H.d hx
  exact ⟨S, F', σ', h', ev, rfl, hid ⟨H.to hI.p hI.r hI.d hI.jj hI.mem hf, ⟨hI.items, hI.knows, hI.told, hI.dom, hI.rng, hI.step⟩⟩⟩
end Go.Proofs.YtechphliifginaaGreatDoor

/- A row in a law's loop: what is asked of it. -/
set_option linter.unusedVariables false
set_option linter.unusedSimpArgs false
namespace Go.Proofs.YtechphliifginaaGreatDoor
open Go.RowKit
variable {w0 wr : World} {p : Nat} {tv : Value} {B : Nat → Prop} {J : List Ev → World → Prop} {F : PF} {σ : List (Option Int)} {h : Nat} {evs : List Ev}

theorem RowG.len (H : RowG w0 p tv B J F σ h evs wr) : Calls Tryz.prog 125 #[.pointer (some ⟨p, 0, none⟩)] wr fun e w' => e = .returned (.int .i64 (its σ).length) ∧ wr = w' := by
  rw [← H.p, its_length]
  exact pmaLen_any H.r
theorem RowG.cap (H : RowG w0 p tv B J F σ h evs wr) : Calls Tryz.prog 30 #[.pointer (some ⟨p, 0, none⟩)] wr fun e w' => e = .returned (.int .i64 (8 * 2 ^ h : Nat)) ∧ wr = w' := by
  rw [← H.p, ← H.d.len]
  exact pmaCap_any H.r
theorem RowG.nth (H : RowG w0 p tv B J F σ h evs wr) (N : Nat) (hN : N < (its σ).length) : Calls Tryz.prog 141 #[.pointer (some ⟨p, 0, none⟩), .int .i64 N] wr fun e w' => ∃ q : Nat, e = .returned (.int .i64 q) ∧ wr = w' ∧ onOf σ q = true ∧ cntOn (onOf σ) q = N := by
  rw [← H.p]
  rw [its_length] at hN
  exact pmaNth_ok H.r N hN
theorem RowG.items (H : RowG w0 p tv B J F σ h evs wr) (T : Hear tv B J) : Calls Tryz.prog 68 #[.pointer (some ⟨p, 0, none⟩)] wr fun e w' => ∃ v, e = .returned v ∧ Hid (RowI w' wr.heap.size v (its σ) ∧ RowG w0 p tv B J F σ h evs w' ∧ Fr Nil1 wr w') := by
  rw [← H.p]
  refine (pmaItems_any H.r).mono ?_
  rintro e w' ⟨v, rfl, h1, h2⟩
  exact ⟨v, rfl, hid ⟨h1, by have := H.new T h2; rwa [H.p], h2⟩⟩
theorem RowG.slots (H : RowG w0 p tv B J F σ h evs wr) (T : Hear tv B J) : Calls Tryz.prog 19 #[.pointer (some ⟨p, 0, none⟩)] wr fun e w' => ∃ f' : SF, e = .returned (.pointer (some ⟨f'.s, 0, none⟩)) ∧ Hid (SlotsR w' f' σ ∧ RowG w0 p tv B J F σ h evs w' ∧ Fr Nil1 wr w') := by
  rw [← H.p]
  refine (pmaSlots_any H.r).mono ?_
  rintro e w' ⟨f', rfl, h1, h2, h3⟩
  exact ⟨f', rfl, hid ⟨h1, by have := H.new T h2; rwa [H.p], h2⟩⟩
theorem RowG.places (H : RowG w0 p tv B J F σ h evs wr) (T : Hear tv B J) {f' : SF} (hs : SlotsR wr f' σ) : Calls Tryz.prog 20 #[.pointer (some ⟨f'.s, 0, none⟩)] wr fun e w' => ∃ v, e = .returned v ∧ Hid (RowI w' wr.heap.size v (idxs (occ σ)) ∧ RowG w0 p tv B J F σ h evs w' ∧ Fr Nil1 wr w') := by
  refine (gapsPlaces_any hs).mono ?_
  rintro e w' ⟨v, rfl, h1, h2⟩
  exact ⟨v, rfl, hid ⟨h1, H.new T h2, h2⟩⟩
theorem RowG.full (H : RowG w0 p tv B J F σ h evs wr) (T : Hear tv B J) (hT : 2560 ≤ (its σ).length) (bh x : Int) (hb : bh = -1 ∨ chkE σ bh = 0) :
    Calls Tryz.prog 22 #[.pointer (some ⟨p, 0, none⟩), .int .i64 bh, .int .i64 x] wr fun e w' => e = .returned (.tuple #[.int .i64 0, .agg #[.int .i64 0, .int .i64 0, .int .i64 0, .int .i64 0], .int .i64 16]) ∧ Hid (RowG w0 p tv B J F σ h evs w' ∧ Fr Nil1 wr w') := by
  rw [← H.p]
  rw [its_length] at hT
  refine (pmaInsert_full H.r bh x hb hT).mono ?_
  rintro e w' ⟨rfl, h2⟩
  exact ⟨rfl, hid ⟨by have := H.new T h2; rwa [H.p], h2⟩⟩
theorem RowG.insBad (H : RowG w0 p tv B J F σ h evs wr) (T : Hear tv B J) (bh x : Int) (h1 : bh ≠ -1) (h0 : chkE σ bh ≠ 0) :
    Calls Tryz.prog 22 #[.pointer (some ⟨p, 0, none⟩), .int .i64 bh, .int .i64 x] wr fun e w' => e = .returned (.tuple #[.int .i64 0, .agg #[.int .i64 0, .int .i64 0, .int .i64 0, .int .i64 0], .int .i64 (chkE σ bh)]) ∧ Hid (RowG w0 p tv B J F σ h evs w' ∧ Fr Nil1 wr w') := by
  rw [← H.p]
  refine (pmaInsert_bad H.r bh x _ h1 rfl h0).mono ?_
  rintro e w' ⟨rfl, h2⟩
  exact ⟨rfl, hid ⟨by have := H.new T h2; rwa [H.p], h2⟩⟩
theorem RowG.delBad (H : RowG w0 p tv B J F σ h evs wr) (T : Hear tv B J) (s : Int) (h0 : chkE σ s ≠ 0) :
    Calls Tryz.prog 21 #[.pointer (some ⟨p, 0, none⟩), .int .i64 s] wr fun e w' => e = .returned (.tuple #[.int .i64 0, .agg #[.int .i64 0, .int .i64 0, .int .i64 0, .int .i64 0], .int .i64 (chkE σ s)]) ∧ Hid (RowG w0 p tv B J F σ h evs w' ∧ Fr Nil1 wr w') := by
  rw [← H.p]
  refine (pmaDelete_bad H.r s _ rfl h0).mono ?_
  rintro e w' ⟨rfl, h2⟩
  exact ⟨rfl, hid ⟨by have := H.new T h2; rwa [H.p], h2⟩⟩
/-- A new row. -/
theorem RowG.made (tv : Value) (hv : tv = Value.nilFunc ∨ ∃ g b c, tv = .func (.func g) b c) (w : World) (hg : GW w) (T : Hear tv B J) (hJ : J [] w) (hf0 : Fr Nil1 w0 w) (hb : ∀ k, B k → k < w.heap.size ∧ NG ≤ k ∧ w0.heap.size ≤ k) :
    Calls Tryz.prog 16 #[tv] w fun e w' => ∃ (p : Nat) (F : PF), e = .returned (.pointer (some ⟨p, 0, none⟩)) ∧ Hid (RowG w0 p tv B J F (List.replicate 32 none) 2 [] w' ∧ Fr Nil1 w w' ∧ w.heap.size ≤ p) := by
  refine (pmaNew_any tv hv w hg).mono ?_
  rintro e w' ⟨F, rfl, h1, h2, h3⟩
  have hs := hf0.size
  have hs2 := h2.size
  exact ⟨F.p, F, rfl, hid ⟨⟨rfl, h1, dn_new, T.keep _ _ _ _ hJ h2 (fun _ h => h.elim), hf0.trans h2, fun k hk => by have := h3 k hk; omega, fun k hk => ⟨fun hm => by have := h3 k hm; have := (hb k hk).1; omega, by have := (hb k hk).1; omega, (hb k hk).2⟩⟩, h2, h3 F.p (.inl rfl)⟩⟩
end Go.Proofs.YtechphliifginaaGreatDoor

/- PmaFull, as it is called. -/
set_option linter.unusedVariables false
set_option linter.unusedSimpArgs false
namespace Go.Proofs.YtechphliifginaaGreatDoor
open Go.RowKit

def Bn : Nat → Prop := fun _ => False
def Jn : List Ev → World → Prop := fun _ _ => True
abbrev RowN (w0 : World) (p : Nat) (F : PF) (σ : List (Option Int)) (h : Nat) (evs : List Ev) (wr : World) : Prop := RowG w0 p Value.nilFunc Bn Jn F σ h evs wr
theorem hearN : Hear Value.nilFunc Bn Jn := hear_nil
theorem ins_len {σ σ' : List (Option Int)} {h seg next h' : Nat} {x v : Int} {S : St} {ev : List Ev} (H : InsP σ h seg next x v S σ' h' ev) : (its σ').length = (its σ).length + 1 := by
  rw [H.items, List.length_append, List.length_cons, List.length_take, List.length_drop]
  omega
theorem behC_of {σ : List (Option Int)} {bh : Int} (h : bh = -1 ∨ ∃ q : Nat, bh = q ∧ onOf σ q = true) : ∃ seg next, BehC σ bh seg next := by
  rcases h with e | ⟨q, e, ho⟩
  · exact ⟨0, 0, .first e rfl rfl⟩
  · exact ⟨_, _, .at q e ho rfl rfl⟩
theorem chk_of {σ : List (Option Int)} {q : Nat} (h : onOf σ q = true) : chkE σ q = 0 := by
  have := onOf_lt h
  unfold chkE
  rw [if_neg (by omega), atB_nat, h]
  rfl
end Go.Proofs.YtechphliifginaaGreatDoor

/- What an act does to a row, whatever its slot. -/
set_option linter.unusedVariables false
set_option linter.unusedSimpArgs false
namespace Go.Proofs.YtechphliifginaaGreatDoor
open Go.RowKit

/-- What an act did to an array. -/
inductive ActP (σ : List (Option Int)) (h : Nat) (S : St) (e : Int) (σ' : List (Option Int)) (h' : Nat) : Prop
  | bad (he : e ≠ 0) (hS : S = ⟨0, 0, 0, 0⟩) (hσ : σ' = σ) (hh : h' = h)
  | win (f s n : Nat) (he : e = 0) (hS : S = ⟨1, (f : Nat), (s : Nat), 8 * (2 ^ h : Nat)⟩) (hh : h' = h) (h0 : 0 < s) (fit : f + s ≤ 2 ^ h) (hn : n ≤ 8 * s) (len : σ'.length = σ.length) (inn : ∀ k : Nat, 8 * f ≤ k → k < 8 * f + 8 * s → (onOf σ' k = true ↔ (k : Int) ∈ plcL n f s)) (out : ∀ k, k < 8 * f ∨ 8 * f + 8 * s ≤ k → σ'.getD k none = σ.getD k none)
  | anew (kd : Int) (hk : kd = 2 ∨ kd = 3) (he : e = 0) (hS : S = ⟨kd, 0, (2 ^ h' : Nat), (8 * 2 ^ h' : Nat)⟩) (hh : h' ≠ h) (k : LaidR (its σ') (2 ^ h') σ')
theorem StepO.act {σ τ τ' : List (Option Int)} {h seg h' : Nat} {S : St} (H : StepO τ h seg S τ' h') (hs : seg < 2 ^ h) (hl : τ.length = σ.length) (ho : ∀ k, k < 8 * seg ∨ 8 * seg + 8 ≤ k → τ.getD k none = σ.getD k none) : ActP σ h S 0 τ' h' := by
  cases H with
  | win m hm e hh k =>
    obtain ⟨f1, f2⟩ := winF_in hm hs
    obtain ⟨g1, g2⟩ := winF_seg seg m
    refine .win (winF seg m) (2 ^ m) _ rfl e hh (by omega) f1 (winC_le _ _ _) (k.len.trans hl) (fun j h1 h2 => k.inn j h1 h2) (fun j hj => ?_)
    rw [k.out j hj]
    exact ho j (by omega)
  | anew kd hk e hh k =>
    refine .anew kd hk rfl e hh ?_
    rw [k.items]
    exact k
/-- An Insert at any slot. -/
inductive InsQ (σ : List (Option Int)) (h : Nat) (bh x v : Int) (S : St) (e : Int) (σ' : List (Option Int)) (h' : Nat) (ev : List Ev) : Prop
  | ok (seg next : Nat) (hc : BehC σ bh seg next) (hs : seg < 2 ^ h) (he : e = 0) (k : InsP σ h seg next x v S σ' h' ev)
  | bad (he : e = chkE σ bh) (h0 : e ≠ 0) (hb : bh ≠ -1) (hv : v = 0) (hS : S = ⟨0, 0, 0, 0⟩) (hσ : σ' = σ) (hh : h' = h) (hev : ev = [])
theorem InsQ.act {σ : List (Option Int)} {h : Nat} {bh x v : Int} {S : St} {e : Int} {σ' : List (Option Int)} {h' : Nat} {ev : List Ev} (H : InsQ σ h bh x v S e σ' h' ev) : ActP σ h S e σ' h' ∧ ((its σ').length = (its σ).length + 1 ∨ its σ' = its σ) := by
  cases H with
  | ok seg next hc hs he k =>
    obtain ⟨τ, _, hl, ho, _, hst, _⟩ := k.step
    subst he
    exact ⟨hst.act hs hl ho, .inl (ins_len k)⟩
  | bad he h0 hb hv hS hσ hh hev => exact ⟨.bad h0 hS hσ hh, .inr (by rw [hσ])⟩
inductive DelQ (σ : List (Option Int)) (h : Nat) (s x : Int) (S : St) (e : Int) (σ' : List (Option Int)) (h' : Nat) (ev : List Ev) : Prop
  | ok (j : Nat) (hj : s = j) (hx : σ.getD j none = some x) (he : e = 0) (k : DelP σ h j x S σ' h' ev)
  | bad (he : e = chkE σ s) (h0 : e ≠ 0) (hv : x = 0) (hS : S = ⟨0, 0, 0, 0⟩) (hσ : σ' = σ) (hh : h' = h) (hev : ev = [])
theorem del_len {σ σ' : List (Option Int)} {h j h' : Nat} {x : Int} {S : St} {ev : List Ev} (hx : σ.getD j none = some x) (H : DelP σ h j x S σ' h' ev) : (its σ').length + 1 = (its σ).length := by
  have h1 := its_get σ j x hx
  have h2 := (List.getElem?_eq_some_iff.1 h1).1
  rw [H.items, List.length_append, List.length_take, List.length_drop]
  omega
theorem DelQ.act {σ : List (Option Int)} {h : Nat} {s x : Int} {S : St} {e : Int} {σ' : List (Option Int)} {h' : Nat} {ev : List Ev} (hl : σ.length = 8 * 2 ^ h) (H : DelQ σ h s x S e σ' h' ev) : ActP σ h S e σ' h' ∧ ((its σ').length + 1 = (its σ).length ∨ its σ' = its σ) := by
  cases H with
  | ok j hj hx he k =>
    obtain ⟨τ, _, hlt, ho, _, hst, _⟩ := k.step
    subst he
    have := getD_lt hx
    exact ⟨hst.act (by omega) hlt ho, .inl (del_len hx k)⟩
  | bad he h0 hv hS hσ hh hev => exact ⟨.bad h0 hS hσ hh, .inr (by rw [hσ])⟩

section
variable {w0 wr : World} {p : Nat} {tv : Value} {B : Nat → Prop} {J : List Ev → World → Prop} {F : PF} {σ : List (Option Int)} {h : Nat} {evs : List Ev}
/-- What stands behind an Insert, of whichever slot. -/
structure InsW (w0 : World) (p : Nat) (tv : Value) (B : Nat → Prop) (J : List Ev → World → Prop) (F : PF) (σ : List (Option Int)) (h : Nat) (evs : List Ev) (wr : World) (bh x v : Int) (S : St) (er : Int) (w' : World) : Prop where
  ex : ∃ (F' : PF) (σ' : List (Option Int)) (h' : Nat) (ev : List Ev), RowG w0 p tv B J F' σ' h' (evs ++ ev) w' ∧ InsQ σ h bh x v S er σ' h' ev ∧ (∀ k, F'.mem k → F.mem k ∨ wr.heap.size ≤ k)
  fr : Fr (fun k => F.mem k ∨ B k) wr w'
structure DelW (w0 : World) (p : Nat) (tv : Value) (B : Nat → Prop) (J : List Ev → World → Prop) (F : PF) (σ : List (Option Int)) (h : Nat) (evs : List Ev) (wr : World) (s x : Int) (S : St) (er : Int) (w' : World) : Prop where
  ex : ∃ (F' : PF) (σ' : List (Option Int)) (h' : Nat) (ev : List Ev), RowG w0 p tv B J F' σ' h' (evs ++ ev) w' ∧ DelQ σ h s x S er σ' h' ev ∧ (∀ k, F'.mem k → F.mem k ∨ wr.heap.size ≤ k)
  fr : Fr (fun k => F.mem k ∨ B k) wr w'
theorem RowG.insAny (H : RowG w0 p tv B J F σ h evs wr) (T : Hear tv B J) (hT : (its σ).length < 2560) (bh x : Int) :
    Calls Tryz.prog 22 #[.pointer (some ⟨p, 0, none⟩), .int .i64 bh, .int .i64 x] wr fun e w' => ∃ (v : Int) (S : St) (er : Int), e = .returned (.tuple #[.int .i64 v, .agg #[.int .i64 S.k, .int .i64 S.f, .int .i64 S.s, .int .i64 S.c], .int .i64 er]) ∧ Hid (InsW w0 p tv B J F σ h evs wr bh x v S er w') := by
  have hT' := hT
  rw [its_length] at hT'
  have hB : ∀ k, B k → ¬ F.mem k ∧ k < wr.heap.size ∧ NG ≤ k := fun k hk => ⟨(H.bb k hk).1, (H.bb k hk).2.1, (H.bb k hk).2.2.1⟩
  have hz0 : 0 < 2 ^ h := Nat.pow_pos (by omega)
  have key : ∀ seg next, BehC σ bh seg next → seg < 2 ^ h → ∀ e w', (∃ (v : Int) (S : St), e = Ending.returned (.tuple #[.int .i64 v, stV S, .int .i64 0]) ∧ InsOut wr F σ h seg next x tv B J evs v S w') →
      ∃ (v : Int) (S : St) (er : Int), e = .returned (.tuple #[.int .i64 v, .agg #[.int .i64 S.k, .int .i64 S.f, .int .i64 S.s, .int .i64 S.c], .int .i64 er]) ∧ Hid (InsW w0 p tv B J F σ h evs wr bh x v S er w') := by
    rintro seg next hc hs e w' ⟨v, S, rfl, hO⟩
    obtain ⟨⟨F', σ', h', ev, hI⟩, hf⟩ := hO.law H.d hs
    exact ⟨v, S, 0, rfl, hid ⟨⟨F', σ', h', ev, H.to hI.p hI.r hI.d hI.jj hI.mem hf, .ok seg next hc hs rfl ⟨hI.items, hI.slot, hI.knows, hI.told, hI.dom, hI.rng, hI.step⟩, hI.mem⟩, hf⟩⟩
  have hp := H.p
  subst hp
  by_cases h1 : bh = -1
  · subst h1
    exact (pmaInsert_first H.r T H.jj hB H.d hT' x).mono (key 0 0 (.first rfl rfl rfl) hz0)
  · by_cases h0 : chkE σ bh = 0
    · obtain ⟨b, rfl, ho⟩ := chkE_zero h0
      have := onOf_lt ho
      have := H.d.len
      exact (pmaInsert_at H.r T H.jj hB H.d hT' x b ho).mono (key (b / 8) (b + 1) (.at b rfl ho rfl rfl) (by omega))
    · refine (pmaInsert_bad H.r bh x _ h1 rfl h0).mono ?_
      rintro e w' ⟨rfl, h2⟩
      exact ⟨0, ⟨0, 0, 0, 0⟩, chkE σ bh, rfl, hid ⟨⟨F, σ, h, [], by rw [List.append_nil]; exact H.new T h2, .bad rfl h0 h1 rfl rfl rfl rfl rfl, fun k hk => .inl hk⟩, h2.mono (fun _ _ h => h.elim)⟩⟩
theorem RowG.delAny (H : RowG w0 p tv B J F σ h evs wr) (T : Hear tv B J) (hT : (its σ).length ≤ 2560) (s : Int) :
    Calls Tryz.prog 21 #[.pointer (some ⟨p, 0, none⟩), .int .i64 s] wr fun e w' => ∃ (x : Int) (S : St) (er : Int), e = .returned (.tuple #[.int .i64 x, .agg #[.int .i64 S.k, .int .i64 S.f, .int .i64 S.s, .int .i64 S.c], .int .i64 er]) ∧ Hid (DelW w0 p tv B J F σ h evs wr s x S er w') := by
  have hT' := hT
  rw [its_length] at hT'
  have hB : ∀ k, B k → ¬ F.mem k ∧ k < wr.heap.size ∧ NG ≤ k := fun k hk => ⟨(H.bb k hk).1, (H.bb k hk).2.1, (H.bb k hk).2.2.1⟩
  have hp := H.p
  subst hp
  by_cases h0 : chkE σ s = 0
  · obtain ⟨j, rfl, ho⟩ := chkE_zero h0
    obtain ⟨x, hx⟩ := onOf_true ho
    refine (pmaDelete_ok H.r T H.jj hB H.d hT' j x hx).mono ?_
    rintro e w' ⟨v, S, rfl, hO⟩
    obtain ⟨⟨F', σ', h', ev, hI⟩, hf⟩ := hO.del H.d hx
    exact ⟨x, S, 0, rfl, hid ⟨⟨F', σ', h', ev, H.to hI.p hI.r hI.d hI.jj hI.mem hf, .ok j rfl hx rfl ⟨hI.items, hI.knows, hI.told, hI.dom, hI.rng, hI.step⟩, hI.mem⟩, hf⟩⟩
  · refine (pmaDelete_bad H.r s _ rfl h0).mono ?_
    rintro e w' ⟨rfl, h2⟩
    exact ⟨0, ⟨0, 0, 0, 0⟩, chkE σ s, rfl, hid ⟨⟨F, σ, h, [], by rw [List.append_nil]; exact H.new T h2, .bad rfl h0 rfl rfl rfl rfl rfl, fun k hk => .inl hk⟩, h2.mono (fun _ _ h => h.elim)⟩⟩
theorem RowG.small (H : RowG w0 p tv B J F σ h evs wr) : (its σ).length ≤ 4096 ∧ (idxs (occ σ)).length = (its σ).length := by
  have h1 := its_length σ
  have h2 := cntOn_le (onOf σ) σ.length
  have h3 := H.d.len
  have h4 := p2_le H.r.h9
  refine ⟨by omega, ?_⟩
  unfold its idxs
  rw [List.length_map, List.length_map]
theorem RowG.itemsR (H : RowG w0 p tv B J F σ h evs wr) (T : Hear tv B J) : Calls Tryz.prog 68 #[.pointer (some ⟨p, 0, none⟩)] wr fun e w' => ∃ v, e = .returned v ∧ Hid (Rd w' v (ints' (its σ)) ∧ RowG w0 p tv B J F σ h evs w' ∧ Fr Nil1 wr w') := by
  refine (H.items T).mono ?_
  rintro e w' ⟨v, rfl, h1⟩
  exact ⟨v, rfl, hid ⟨h1.out.1.rd (by have := H.small.1; omega), h1.out.2⟩⟩
theorem RowG.placesR (H : RowG w0 p tv B J F σ h evs wr) (T : Hear tv B J) {f' : SF} (hs : SlotsR wr f' σ) : Calls Tryz.prog 20 #[.pointer (some ⟨f'.s, 0, none⟩)] wr fun e w' => ∃ v, e = .returned v ∧ Hid (Rd w' v (ints' (idxs (occ σ))) ∧ RowG w0 p tv B J F σ h evs w' ∧ Fr Nil1 wr w') := by
  refine (H.places T hs).mono ?_
  rintro e w' ⟨v, rfl, h1⟩
  exact ⟨v, rfl, hid ⟨h1.out.1.rd (by have := H.small; omega), h1.out.2⟩⟩
end
end Go.Proofs.YtechphliifginaaGreatDoor
