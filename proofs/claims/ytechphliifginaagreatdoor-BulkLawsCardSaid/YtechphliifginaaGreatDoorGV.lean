/- In one: SF, SI, SJ, MS, AC, UT. -/
import Derived.Test.YtechphliifginaaGreatDoorGU
import Derived.Deep.RegionHeld3
import Derived.Deep.Cut
import Derived.Deep.CutRange
/- set.Set: its state, at, and what is asked of it. -/
set_option linter.unusedVariables false
set_option linter.unusedSimpArgs false
namespace Go.Proofs.YtechphliifginaaGreatDoor
open Go.RowKit

theorem RowG.frT {w0 wr w' : World} {p : Nat} {tv : Value} {B : Nat → Prop} {J : List Ev → World → Prop} {F : PF} {σ : List (Option Int)} {h : Nat} {evs : List Ev} (H : RowG w0 p tv B J F σ h evs wr) (T : Hear tv B J) {S : Nat → Prop} (hf : Fr S wr w') (hS : ∀ k, S k → ¬ F.mem k ∧ ¬ B k ∧ w0.heap.size ≤ k) : RowG w0 p tv B J F σ h evs w' :=
  ⟨H.p, H.r.fr hf (fun k hk hs => (hS k hs).1 hk), H.d, T.keep _ _ _ _ H.jj hf (fun k hk => (hS k hk).2.1), H.fr.trans' hf (fun j _ hj hs => by have := (hS j hs).2.2; omega), H.mem, fun k hk => ⟨(H.bb k hk).1, by have := (H.bb k hk).2.1; have := hf.size; omega, (H.bb k hk).2.2⟩⟩
/-- A set: the keys of its row rise. -/
structure SetS (w0 : World) (s p : Nat) (F : PF) (σ : List (Option Int)) (h : Nat) (evs : List Ev) (w : World) : Prop where
  row : RowN w0 p F σ h evs w
  c : Has w s [.pointer (some ⟨p, 0, none⟩)] 125
  ns : ¬ F.mem s
  ge : w0.heap.size ≤ s
  gs : NG ≤ s
  up : Up (its σ)
/-- Its blocks. -/
def SetB (F : PF) (s : Nat) (k : Nat) : Prop := F.mem k ∨ k = s
section
variable {w0 w w' : World} {s p : Nat} {F : PF} {σ : List (Option Int)} {h : Nat} {evs : List Ev}
theorem SetS.new (H : SetS w0 s p F σ h evs w) (hf : Fr Nil1 w w') : SetS w0 s p F σ h evs w' := ⟨H.row.new hearN hf, H.c.fr' hf id, H.ns, H.ge, H.gs, H.up⟩
theorem SetS.frS (H : SetS w0 s p F σ h evs w) {S : Nat → Prop} (hf : Fr S w w') (hS : ∀ k, S k → ¬ SetB F s k ∧ w0.heap.size ≤ k) : SetS w0 s p F σ h evs w' :=
  ⟨H.row.frT hearN hf (fun k hk => ⟨fun g => (hS k hk).1 (.inl g), id, (hS k hk).2⟩), H.c.fr' hf (fun g => (hS s g).1 (.inr rfl)), H.ns, H.ge, H.gs, H.up⟩
theorem SetS.lt (H : SetS w0 s p F σ h evs w) : ∀ k, SetB F s k → k < w.heap.size := by
  rintro k (hk | rfl)
  · exact H.row.r.lt k hk
  · exact H.c.lt
theorem SetS.geB (H : SetS w0 s p F σ h evs w) : ∀ k, SetB F s k → w0.heap.size ≤ k := by
  rintro k (hk | rfl)
  · exact H.row.mem k hk
  · exact H.ge
theorem SetS.size (H : SetS w0 s p F σ h evs w) : NG ≤ w.heap.size := H.row.r.sl.g.size
theorem setView_any (H : SetS w0 s p F σ h evs w) :
    Calls Tryz.prog 164 #[.agg #[.pointer (some ⟨p, 0, none⟩)]] w fun e w' => ∃ f' : SF, e = .returned (.pointer (some ⟨f'.s, 0, none⟩)) ∧ Hid (SlotsR w' f' σ ∧ Fr Nil1 w w') := by
  have fa : Fr Nil1 w (w.alloc (.cells #[.pointer (some ⟨p, 0, none⟩)] 123)) := (Fr.refl _ _).alloc _
  have HS := hid (RowG.slots (H.row.new hearN fa) hearN)
  have HF := hid fa
  clear H fa
  go_enter Tryz.func164, Tryz.ntmps164
  go_wp2_with (go_at_call 19; refine HS.out.mono ?_; rintro e w1 ⟨f', rfl, H1⟩)
  go_ret
  exact ⟨f', rfl, hid ⟨H1.out.1, HF.out.trans H1.out.2.2⟩⟩
/-- The slot of a key, as one looks for it. -/
theorem setAt_any (H : SetS w0 s p F σ h evs w) (key : Int) (g : FuncId) (hent : Enters Tryz.prog g) (Post : Int → Prop)
    (hcall : ∀ (f' : SF) (w1 : World), SlotsR w1 f' σ → Calls Tryz.prog g #[.pointer (some ⟨f'.s, 0, none⟩), .int .i64 key] w1 fun e w2 => ∃ r c : Int, e = .returned (.tuple #[.int .i64 r, .int .i64 c]) ∧ Hid (Post r ∧ Fr Nil1 w1 w2)) :
    Calls Tryz.prog 111 #[.pointer (some ⟨s, 0, none⟩), .func (.func g) #[] #[], .int .i64 key] w fun e w' => ∃ r : Int, e = .returned (.int .i64 r) ∧ Hid (Post r ∧ Fr Nil1 w w') := by
  obtain ⟨c0, cf⟩ := H.c.one
  have HV := hid (setView_any H)
  have HC := hid hcall
  have hen : ∀ (args : Array Value) (W : World), Sem.run Tryz.prog (callFunc g args) W = .ok (.enter g args) W := hent
  clear H hcall hent
  go_enter Tryz.func111, Tryz.ntmps111
  go_wp2_with (first
    | (go_at_call 164; refine HV.out.mono ?_; rintro e w1 ⟨f', rfl, H1⟩; have HC1 := hid (HC.out f' w1 H1.out.1))
    | (go_at_fn g; refine HC1.out.mono ?_; rintro e w2 ⟨r, c, rfl, H2⟩))
  go_ret
  exact ⟨r, rfl, hid ⟨H2.out.1, H1.out.2.trans H2.out.2⟩⟩
theorem setExact_any (H : SetS w0 s p F σ h evs w) (key : Int) :
    Calls Tryz.prog 111 #[.pointer (some ⟨s, 0, none⟩), .func (.func 112) #[] #[], .int .i64 key] w fun e w' => ∃ r : Int, e = .returned (.int .i64 r) ∧ Hid (ExO σ key r ∧ Fr Nil1 w w') :=
  setAt_any H key 112 (enters_of Tryz.func112 (by kernel_rfl) rfl) (ExO σ key) (fun f' w1 hs => findExact_any hs H.up key)
theorem setBefore_any (H : SetS w0 s p F σ h evs w) (key : Int) :
    Calls Tryz.prog 111 #[.pointer (some ⟨s, 0, none⟩), .func (.func 105) #[] #[], .int .i64 key] w fun e w' => ∃ r : Int, e = .returned (.int .i64 r) ∧ Hid (BefO σ key r ∧ Fr Nil1 w w') :=
  setAt_any H key 105 (enters_of Tryz.func105 (by kernel_rfl) rfl) (BefO σ key) (fun f' w1 hs => findBefore_any hs H.up key)
theorem setLower_any (H : SetS w0 s p F σ h evs w) (key : Int) :
    Calls Tryz.prog 111 #[.pointer (some ⟨s, 0, none⟩), .func (.func 118) #[] #[], .int .i64 key] w fun e w' => ∃ r : Int, e = .returned (.int .i64 r) ∧ Hid (LowO σ key r ∧ Fr Nil1 w w') :=
  setAt_any H key 118 (enters_of Tryz.func118 (by kernel_rfl) rfl) (LowO σ key) (fun f' w1 hs => findLower_any hs H.up key)
theorem setLen_any (H : SetS w0 s p F σ h evs w) : Calls Tryz.prog 63 #[.pointer (some ⟨s, 0, none⟩)] w fun e w' => e = .returned (.int .i64 (its σ).length) ∧ w = w' := by
  obtain ⟨c0, cf⟩ := H.c.one
  have HL := hid (RowG.len H.row)
  generalize (its σ).length = z at *
  clear H
  go_enter Tryz.func63, Tryz.ntmps63
  go_wp2_with (go_at_call 125; refine HL.out.mono ?_; rintro e w1 ⟨rfl, rfl⟩)
  go_ret
  exact ⟨rfl, rfl⟩
theorem setKeys_any (H : SetS w0 s p F σ h evs w) : Calls Tryz.prog 51 #[.pointer (some ⟨s, 0, none⟩)] w fun e w' => ∃ v, e = .returned v ∧ Hid (RowI w' w.heap.size v (its σ) ∧ Fr Nil1 w w') := by
  obtain ⟨c0, cf⟩ := H.c.one
  have HL := hid (RowG.items H.row hearN)
  clear H
  go_enter Tryz.func51, Tryz.ntmps51
  go_wp2_with (go_at_call 68; refine HL.out.mono ?_; rintro e w1 ⟨v, rfl, H1⟩)
  go_ret
  exact ⟨v, rfl, hid ⟨H1.out.1, H1.out.2.2⟩⟩
theorem setHas_any (H : SetS w0 s p F σ h evs w) (key : Int) : Calls Tryz.prog 50 #[.pointer (some ⟨s, 0, none⟩), .int .i64 key] w fun e w' => e = .returned (.bool (decide (key ∈ its σ))) ∧ Fr Nil1 w w' := by
  have HL := hid (setExact_any H key)
  clear H
  go_enter Tryz.func50, Tryz.ntmps50
  go_wp2_with (go_at_call 111; refine HL.out.mono ?_; rintro e w1 ⟨r, rfl, H1⟩)
  go_ret
  refine ⟨?_, H1.out.2⟩
  have : decide (0 ≤ r) = decide (key ∈ its σ) := by
    rw [decide_eq_decide]
    cases H1.out.1 with
    | none hr hl => exact ⟨fun h => by omega, fun h => absurd h hl⟩
    | some q hr hq hc => exact ⟨fun _ => mem_its.2 ⟨q, hq⟩, fun _ => by omega⟩
  rw [← this]
  rfl
end
end Go.Proofs.YtechphliifginaaGreatDoor

/- set.Set: Insert, Delete. -/
set_option linter.unusedVariables false
set_option linter.unusedSimpArgs false
namespace Go.Proofs.YtechphliifginaaGreatDoor
open Go.RowKit

abbrev stepQ : Obj := .cells #[.int .i64 0, .int .i64 0, .int .i64 0, .int .i64 0] 35
theorem zer5 (w : World) : Has (w.alloc stepQ) w.heap.size [.int .i64 0, .int .i64 0, .int .i64 0, .int .i64 0] 35 := Has.new w _ _
theorem st5_fr (w2 : World) (b : Nat) (S : St) (hNG : NG ≤ b) : Fr (fun k => k = b) w2 ((((w2.setCell ⟨b, 0, none⟩ (.int .i64 S.k)).setCell ⟨b, 1, none⟩ (.int .i64 S.f)).setCell ⟨b, 2, none⟩ (.int .i64 S.s)).setCell ⟨b, 3, none⟩ (.int .i64 S.c)) :=
  (((((Fr.refl (fun k => k = b) w2)).setCell ⟨b, 0, none⟩ _ hNG (fun _ => rfl)).setCell ⟨b, 1, none⟩ _ hNG (fun _ => rfl)).setCell ⟨b, 2, none⟩ _ hNG (fun _ => rfl)).setCell ⟨b, 3, none⟩ _ hNG (fun _ => rfl)
theorem fr_sets5 (w : World) (m : Nat) (hg : NG ≤ m) (x1 x2 x3 x4 : Value) : Fr (fun k => k = m) w ((((w.setCell ⟨m, 0, none⟩ x1).setCell ⟨m, 1, none⟩ x2).setCell ⟨m, 2, none⟩ x3).setCell ⟨m, 3, none⟩ x4) :=
  ((((Fr.refl (fun k => k = m) w).setCell ⟨m, 0, none⟩ x1 hg (fun _ => rfl)).setCell ⟨m, 1, none⟩ x2 hg (fun _ => rfl)).setCell ⟨m, 2, none⟩ x3 hg (fun _ => rfl)).setCell ⟨m, 3, none⟩ x4 hg (fun _ => rfl)
theorem cell_sets5 {w : World} {a : Addr} {m : Nat} {v : Value} (hg : NG ≤ m) (h : w.cell? a = some v) (hne : ¬ a.block = m) (x1 x2 x3 x4 : Value) : ((((w.setCell ⟨m, 0, none⟩ x1).setCell ⟨m, 1, none⟩ x2).setCell ⟨m, 2, none⟩ x3).setCell ⟨m, 3, none⟩ x4).cell? a = some v :=
  (fr_sets5 w m hg x1 x2 x3 x4).cell h hne
theorem ExO.at {σ : List (Option Int)} {key r : Int} (H : ExO σ key r) (hm : key ∈ its σ) : ∃ q : Nat, r = q ∧ σ.getD q Option.none = Option.some key ∧ cntOn (onOf σ) q = lessC (its σ) key := by
  cases H with
  | none _ hl => exact absurd hm hl
  | some q hr hq hc => exact ⟨q, hr, hq, hc⟩
theorem ExO.out {σ : List (Option Int)} {key r : Int} (H : ExO σ key r) (hm : key ∉ its σ) : r = -1 := by
  cases H with
  | none hr _ => exact hr
  | some q hr hq hc => exact absurd (mem_its.2 ⟨q, hq⟩) hm
/-- What an Insert of a key does. -/
inductive SInsQ (σ : List (Option Int)) (h : Nat) (key : Int) (S : St) (er : Int) (σ' : List (Option Int)) (h' : Nat) : Prop
  | ok (bh : Int) (seg next : Nat) (v : Int) (ev : List Ev) (hm : key ∉ its σ) (hT : (its σ).length < 2560) (hb : BehC σ bh seg next) (hs : seg < 2 ^ h) (hc : cntOn (onOf σ) next = lessC (its σ) key) (he : er = 0) (k : InsP σ h seg next key v S σ' h' ev)
  | there (hm : key ∈ its σ) (he : er = 15) (hS : S = ⟨0, 0, 0, 0⟩) (hσ : σ' = σ) (hh : h' = h)
  | full (hm : key ∉ its σ) (hT : 2560 ≤ (its σ).length) (he : er = 16) (hS : S = ⟨0, 0, 0, 0⟩) (hσ : σ' = σ) (hh : h' = h)
/-- What a Delete of a key does. -/
inductive SDelQ (σ : List (Option Int)) (h : Nat) (key : Int) (S : St) (er : Int) (σ' : List (Option Int)) (h' : Nat) : Prop
  | ok (j : Nat) (ev : List Ev) (hx : σ.getD j none = some key) (hc : cntOn (onOf σ) j = lessC (its σ) key) (he : er = 0) (k : DelP σ h j key S σ' h' ev)
  | none (hm : key ∉ its σ) (he : er = 14) (hS : S = ⟨0, 0, 0, 0⟩) (hσ : σ' = σ) (hh : h' = h)
/-- What stands behind an act of a set. -/
def SActW (Q : St → Int → List (Option Int) → Nat → Prop) (w0 : World) (s p : Nat) (F : PF) (S : St) (er : Int) (w w' : World) : Prop :=
  ∃ (F' : PF) (σ' : List (Option Int)) (h' : Nat) (evs' : List Ev), SetS w0 s p F' σ' h' evs' w' ∧ Q S er σ' h' ∧ (∀ k, F'.mem k → F.mem k ∨ w.heap.size ≤ k) ∧ Fr F.mem w w'
section
variable {w0 w : World} {s p : Nat} {F : PF} {σ : List (Option Int)} {h : Nat} {evs : List Ev}
theorem SetS.ins {w' : World} {F' : PF} {σ' : List (Option Int)} {h' : Nat} {evs' : List Ev} (H : SetS w0 s p F σ h evs w) (hr : RowN w0 p F' σ' h' evs' w') (hm : ∀ k, F'.mem k → F.mem k ∨ w.heap.size ≤ k) (hf : Fr F.mem w w') (hu : Up (its σ')) : SetS w0 s p F' σ' h' evs' w' :=
  ⟨hr, H.c.fr' hf H.ns, fun hk => by
    rcases hm s hk with g | g
    · exact H.ns g
    · have := H.c.lt; omega, H.ge, H.gs, hu⟩
theorem rowIns_key (H : SetS w0 s p F σ h evs w) {bh key : Int} (hb : BefO σ key bh) (hm : key ∉ its σ) (hT : (its σ).length ≤ 2560) :
    Calls Tryz.prog 22 #[.pointer (some ⟨p, 0, none⟩), .int .i64 bh, .int .i64 key] w fun e w' => ∃ (v : Int) (S : St) (er : Int), e = .returned (.tuple #[.int .i64 v, .agg #[.int .i64 S.k, .int .i64 S.f, .int .i64 S.s, .int .i64 S.c], .int .i64 er]) ∧ Hid (SActW (SInsQ σ h key) w0 s p F S er w w') := by
  have hck : bh = -1 ∨ chkE σ bh = 0 := by
    cases hb with
    | none hr _ => exact .inl hr
    | some q x hr hq _ _ => exact .inr (by rw [hr]; exact chk_of (onOf_some hq))
  by_cases hl : (its σ).length < 2560
  · refine (RowG.insAny H.row hearN hl bh key).mono ?_
    rintro e w' ⟨v, S, er, rfl, H2⟩
    obtain ⟨⟨F', σ', h', ev, hR, hQ, hmm⟩, hf⟩ := H2.out
    have hf' : Fr F.mem w w' := hf.mono (fun k _ hk => hk.resolve_right id)
    refine ⟨v, S, er, rfl, hid ⟨F', σ', h', evs ++ ev, ?_⟩⟩
    cases hQ with
    | bad he h0 hne _ _ _ _ _ => exact absurd (he.trans (hck.resolve_left hne)) h0
    | ok seg next hc hs he k =>
      have hn : cntOn (onOf σ) next = lessC (its σ) key := by
        cases hb with
        | none hr hl0 =>
          cases hc with
          | first _ _ hn => rw [hn, hl0]; rfl
          | «at» b e _ _ _ => omega
        | some q x hr hq _ hc' =>
          cases hc with
          | first e _ _ => omega
          | «at» b e ho _ hn =>
            have : b = q := by omega
            rw [hn, this, cntOn_on _ _ (onOf_some hq), hc']
      have hit : its σ' = putK (its σ) key := by rw [k.items]; exact putK_at hn
      exact ⟨H.ins hR hmm hf' (by rw [hit]; exact up_putK H.up hm), .ok bh seg next v ev hm hl hc hs hn he k, hmm, hf'⟩
  · refine (RowG.full H.row hearN (by omega) bh key hck).mono ?_
    rintro e w' ⟨rfl, H2⟩
    exact ⟨0, ⟨0, 0, 0, 0⟩, 16, rfl, hid ⟨F, σ, h, evs, H.new H2.out.2, .full hm (by omega) rfl rfl rfl rfl, fun k hk => .inl hk, H2.out.2.mono (fun _ _ h => h.elim)⟩⟩
theorem rowDel_key (H : SetS w0 s p F σ h evs w) {q : Nat} {key : Int} (hq : σ.getD q none = some key) (hc : cntOn (onOf σ) q = lessC (its σ) key) (hT : (its σ).length ≤ 2560) :
    Calls Tryz.prog 21 #[.pointer (some ⟨p, 0, none⟩), .int .i64 q] w fun e w' => ∃ (v : Int) (S : St) (er : Int), e = .returned (.tuple #[.int .i64 v, .agg #[.int .i64 S.k, .int .i64 S.f, .int .i64 S.s, .int .i64 S.c], .int .i64 er]) ∧ Hid (SActW (SDelQ σ h key) w0 s p F S er w w') := by
  refine (RowG.delAny H.row hearN hT q).mono ?_
  rintro e w' ⟨v, S, er, rfl, H2⟩
  obtain ⟨⟨F', σ', h', ev, hR, hQ, hmm⟩, hf⟩ := H2.out
  have hf' : Fr F.mem w w' := hf.mono (fun k _ hk => hk.resolve_right id)
  refine ⟨v, S, er, rfl, hid ⟨F', σ', h', evs ++ ev, ?_⟩⟩
  cases hQ with
  | bad he h0 _ _ _ _ _ => exact absurd (he.trans (chk_of (onOf_some hq))) h0
  | ok j hj hx he k =>
    obtain rfl : j = q := by omega
    rw [hq] at hx
    cases hx
    have hit : its σ' = delK (its σ) key := by rw [k.items]; exact delK_at hc
    exact ⟨H.ins hR hmm hf' (by rw [hit]; exact up_delK H.up key), .ok j ev hq hc he k, hmm, hf'⟩
/-- Behind the row's act: the step's box, and the result's. -/
structure SInsM (Q : St → Int → List (Option Int) → Nat → Prop) (w0 : World) (s p : Nat) (F : PF) (w : World) (bx : Nat) (S : St) (er : Int) (wx : World) : Prop where
  ex : ∃ (F' : PF) (σ' : List (Option Int)) (h' : Nat) (evs' : List Ev), SetS w0 s p F' σ' h' evs' wx ∧ Q S er σ' h' ∧ (∀ k, F'.mem k → F.mem k ∨ w.heap.size + 1 ≤ k)
  fr : Fr F.mem w wx
  box : Has wx bx [.int .i64 S.k, .int .i64 S.f, .int .i64 S.s, .int .i64 S.c] 35
  res : Has wx w.heap.size [.int .i64 0, .int .i64 0, .int .i64 0, .int .i64 0] 35
theorem sInsM_of {Q : St → Int → List (Option Int) → Nat → Prop} {w3 w4 wx : World} {bx : Nat} {S : St} {er : Int} (H : SetS w0 s p F σ h evs w) (hf : Fr Nil1 (w.alloc stepQ) w3) (H4 : SActW Q w0 s p F S er w3 w4) (hb : w.heap.size + 1 ≤ bx) (hlt : bx < w3.heap.size ∨ w4.heap.size ≤ bx)
    (hx : Fr (fun k => k = bx) w4 wx) (hbox : Has wx bx [.int .i64 S.k, .int .i64 S.f, .int .i64 S.s, .int .i64 S.c] 35) : SInsM Q w0 s p F w bx S er wx := by
  obtain ⟨F', σ', h', evs', hS, hQ, hmm, hf4⟩ := H4
  have s1 := hf.size
  rw [World.size_alloc] at s1
  have s4 := hf4.size
  have hF : ∀ k, F.mem k → k < w.heap.size := fun k hk => H.row.r.lt k hk
  have hsl := H.c.lt
  have g0 := (H.geB s (.inr rfl))
  have hw0 : w0.heap.size ≤ w.heap.size := H.row.fr.size
  have hF' : ¬ F'.mem bx := fun hk => by
    have h1 := hS.lt bx (.inl hk)
    rcases hmm bx hk with g | g
    · have := hF bx g; omega
    · omega
  refine ⟨⟨F', σ', h', evs', hS.frS hx (fun k hk => ?_), hQ, fun k hk => ?_⟩, ((((Fr.refl F.mem w).alloc stepQ).trans (hf.mono (fun _ _ h => h.elim))).trans hf4).trans' hx (fun j _ hj e => by have e' : j = bx := e; omega), hbox, ((zer5 w).fr' hf id).fr' hf4 (fun g => by have := hF _ g; omega) |>.fr' hx (fun e => by have e' : w.heap.size = bx := e; omega)⟩
  · have e : k = bx := hk
    subst e
    refine ⟨fun hk => ?_, by omega⟩
    rcases hk with g | g
    · exact hF' g
    · omega
  · rcases hmm k hk with g | g
    · exact .inl g
    · exact .inr (by omega)
theorem SInsM.fin {Q : St → Int → List (Option Int) → Nat → Prop} {wx w' : World} {bx : Nat} {S : St} {er : Int} (H : SetS w0 s p F σ h evs w) (H4 : SInsM Q w0 s p F w bx S er wx) (hf : Fr (fun k => k = w.heap.size) wx w') : SActW Q w0 s p F S er w w' := by
  obtain ⟨F', σ', h', evs', hS, hQ, hmm⟩ := H4.ex
  have hF : ∀ k, F.mem k → k < w.heap.size := fun k hk => H.row.r.lt k hk
  have hsl := H.c.lt
  have hw0 : w0.heap.size ≤ w.heap.size := H.row.fr.size
  refine ⟨F', σ', h', evs', hS.frS hf (fun k hk => ?_), hQ, fun k hk => ?_, H4.fr.trans' hf (fun j _ hj e => by have e' : j = w.heap.size := e; omega)⟩
  · have e : k = w.heap.size := hk
    subst e
    refine ⟨fun hk => ?_, hw0⟩
    rcases hk with g | g
    · rcases hmm _ g with g | g
      · have := hF _ g; omega
      · omega
    · omega
  · rcases hmm k hk with g | g
    · exact .inl g
    · exact .inr (by omega)
/-- What is refused: the result's box alone has turned. -/
theorem SetS.refused {Q : St → Int → List (Option Int) → Nat → Prop} {w2 w' : World} {S : St} {er : Int} (H : SetS w0 s p F σ h evs w) (hf : Fr Nil1 (w.alloc stepQ) w2) (hx : Fr (fun k => k = w.heap.size) w2 w') (hQ : Q S er σ h) : SActW Q w0 s p F S er w w' := by
  have hF : ∀ k, F.mem k → k < w.heap.size := fun k hk => H.row.r.lt k hk
  have hsl := H.c.lt
  have hw0 : w0.heap.size ≤ w.heap.size := H.row.fr.size
  refine ⟨F, σ, h, evs, ((H.new ((Fr.refl _ _).alloc stepQ)).new hf).frS hx (fun k hk => ?_), hQ, fun k hk => .inl hk, (((Fr.refl F.mem w).alloc stepQ).trans (hf.mono (fun _ _ h => h.elim))).trans' hx (fun j _ hj e => by have e' : j = w.heap.size := e; omega)⟩
  have e : k = w.heap.size := hk
  subst e
  refine ⟨fun hk => ?_, hw0⟩
  rcases hk with g | g
  · have := hF _ g; omega
  · omega
set_option maxRecDepth 100000 in
set_option maxHeartbeats 4000000 in
theorem setInsert_any (H : SetS w0 s p F σ h evs w) (hT : (its σ).length ≤ 2560) (key : Int) :
    Calls Tryz.prog 46 #[.pointer (some ⟨s, 0, none⟩), .int .i64 key] w fun e w' => ∃ (S : St) (er : Int), e = .returned (.tuple #[.agg #[.int .i64 S.k, .int .i64 S.f, .int .i64 S.s, .int .i64 S.c], .int .i64 er]) ∧ Hid (SActW (SInsQ σ h key) w0 s p F S er w w') := by
  have fa : Fr Nil1 w (w.alloc (.cells #[.int .i64 0, .int .i64 0, .int .i64 0, .int .i64 0] 35)) := (Fr.refl _ _).alloc _
  have HE := hid (setExact_any (H.new fa) key)
  have HH := hid H
  have HNG := hid H.size
  have HFa := hid fa
  by_cases hm : key ∈ its σ
  · have HM := hid hm
    clear H hT hm fa
    go_enter Tryz.func46, Tryz.ntmps46
    go_wp2_with (go_at_call 111; refine HE.out.mono ?_; rintro e w2 ⟨r, rfl, H2⟩; obtain ⟨q, rfl, _, _⟩ := H2.out.1.at HM.out; have hb2 := (zer5 w).fr' H2.out.2 id; have HB2 := hid hb2; have e0 := hb2.cell 0; have e1 := hb2.cell 1; have e2 := hb2.cell 2; have e3 := hb2.cell 3; have ef := hb2.frozen; clear hb2)
    have hf := (((HB2.out.set 0 (.int .i64 0)).set 1 (.int .i64 0)).set 2 (.int .i64 0)).set 3 (.int .i64 0)
    have z0 := hf.cell 0
    have z1 := hf.cell 1
    have z2 := hf.cell 2
    have z3 := hf.cell 3
    refine bodyPost_ret (v := .tuple #[.agg #[.int .i64 0, .int .i64 0, .int .i64 0, .int .i64 0], .int .i64 15]) (by simp [results, Tryz.f46, go_sem, z0, z1, z2, z3]) rfl ?_
    exact ⟨⟨0, 0, 0, 0⟩, 15, rfl, hid (HH.out.refused H2.out.2 (st5_fr w2 _ ⟨0, 0, 0, 0⟩ HNG.out) (.there HM.out rfl rfl rfl rfl))⟩
  · have HM := hid hm
    have HT := hid hT
    clear H hT hm fa
    go_enter Tryz.func46, Tryz.ntmps46
    go_upto_region 5 with (go_at_call 111; refine HE.out.mono ?_; rintro e w2 ⟨r, rfl, H2⟩; obtain rfl := H2.out.1.out HM.out)
    have HS2 := hid ((HH.out.new HFa.out).new H2.out.2)
    obtain ⟨c0, cf⟩ := HS2.out.c.one
    go_cut [7, 8] from 19 to 32 (fun s7 s8 wx => ∃ (bx : Nat) (S : St) (er : Int), s7 = .pointer (some ⟨bx, 0, none⟩) ∧ s8 = .int .i64 er ∧ Hid (SInsM (SInsQ σ h key) w0 s p F w bx S er wx))
    case first =>
      go_region_held3 (fun w' => w'.cell? ⟨s, 0, none⟩ = some (.pointer (some ⟨p, 0, none⟩))) (first | exact k0 | exact c0 | exact cell_sets5 HM2.out.1 k0 HM2.out.2 _ _ _ _ | go_keep) (first
        | (go_at_call 22; (with_reducible refine (rowIns_key HSc.out H3.out.1 HM.out HT.out).mono ?_); rintro e w4 ⟨v, S, er, rfl, H4⟩; obtain ⟨_, _, _, _, hS4, _, _, hf4⟩ := H4.out; have k0 := hS4.c.one.1; have hb4 := HB3.out.fr' hf4 (fun g => by have := HSb.out.row.r.lt _ g; omega); have HM2 := hid (And.intro HSb.out.size (show ¬ s = w2.heap.size by have := HSb.out.c.lt; omega)); have HB4 := hid hb4; have s0 := hb4.cell 0; have s1 := hb4.cell 1; have s2 := hb4.cell 2; have s3 := hb4.cell 3; have sf := hb4.frozen; clear hb4 hS4 hf4)
        | (go_at_call 22; (with_reducible refine (rowIns_key (HS3.out.new ((Fr.refl Nil1 w3).alloc (.cells #[.int .i64 0, .int .i64 0, .int .i64 0, .int .i64 0] 35))) H3.out.1 HM.out HT.out).mono ?_); rintro e w4 ⟨v, S, er, rfl, H4⟩; obtain ⟨_, _, _, _, hS4, _, _, hf4⟩ := H4.out; have k0 := hS4.c.one.1; have hb4 := (zer5 w3).fr' hf4 (fun g => by have := HS3.out.row.r.lt _ g; omega); have HM2 := hid (And.intro HS3.out.size (show ¬ s = w3.heap.size by have := HS3.out.c.lt; omega)); have HB4 := hid hb4; have s0 := hb4.cell 0; have s1 := hb4.cell 1; have s2 := hb4.cell 2; have s3 := hb4.cell 3; have sf := hb4.frozen; clear hb4 hS4 hf4)
        | (go_at_call 22; (with_reducible refine (rowIns_key HS3.out H3.out.1 HM.out HT.out).mono ?_); rintro e w4 ⟨v, S, er, rfl, H4⟩; obtain ⟨_, _, _, _, hS4, _, _, _⟩ := H4.out; have k0 := hS4.c.one.1; clear hS4)
        | (go_at_call 111; (with_reducible refine (setBefore_any (HS2.out.new ((Fr.refl Nil1 w2).alloc (.cells #[.int .i64 0, .int .i64 0, .int .i64 0, .int .i64 0] 35)).drew) key).mono ?_); rintro e w3 ⟨r, rfl, H3⟩; have HSb := hid (HS2.out); have HSc := hid ((HS2.out.new ((Fr.refl Nil1 w2).alloc (.cells #[.int .i64 0, .int .i64 0, .int .i64 0, .int .i64 0] 35)).drew).new H3.out.2); have HB3 := hid ((zer5 w2).drew.fr' H3.out.2 id); have k0 := HSc.out.c.one.1)
        | (go_at_call 111; (with_reducible refine (setBefore_any (HS2.out.new (Fr.refl Nil1 w2).drew) key).mono ?_); rintro e w3 ⟨r, rfl, H3⟩; have HS3 := hid ((HS2.out.new (Fr.refl Nil1 w2).drew).new H3.out.2); have k0 := HS3.out.c.one.1))
      all_goals (try go_wp2_with fail)
      all_goals go_meet
      all_goals (first
        | exact ⟨w4.heap.size, S, er, rfl, rfl, hid (sInsM_of HH.out ((H2.out.2.trans (Fr.refl Nil1 w2).drew).trans H3.out.2) H4.out (by have := H2.out.2.size; have := H3.out.2.size; obtain ⟨_, _, _, _, _, _, _, hf4⟩ := H4.out; have := hf4.size; simp at *; omega) (.inr (Nat.le_refl _)) ((Fr.refl _ w4).alloc _) (Has.new w4 _ _))⟩
        | exact ⟨w3.heap.size, S, er, rfl, rfl, hid (sInsM_of HH.out (((H2.out.2.trans (Fr.refl Nil1 w2).drew).trans H3.out.2).alloc _) H4.out (by have := H2.out.2.size; have := H3.out.2.size; simp at *; omega) (.inl (by simp)) (st5_fr w4 _ S HM2.out.1) ((((HB4.out.set 0 (.int .i64 S.k)).set 1 (.int .i64 S.f)).set 2 (.int .i64 S.s)).set 3 (.int .i64 S.c)))⟩
        | exact ⟨w2.heap.size, S, er, rfl, rfl, hid (sInsM_of HH.out (((H2.out.2.alloc _).drew).trans H3.out.2) H4.out (by have := H2.out.2.size; simp at *; omega) (.inl (by have := H3.out.2.size; simp at *; omega)) (st5_fr w4 _ S HM2.out.1) ((((HB4.out.set 0 (.int .i64 S.k)).set 1 (.int .i64 S.f)).set 2 (.int .i64 S.s)).set 3 (.int .i64 S.c)))⟩)
    case rest =>
      obtain ⟨bx, S, er, rfl, rfl, HX⟩ := hcut
      obtain ⟨W, hW⟩ : ∃ W, W = wc := ⟨_, rfl⟩
      subst hW
      have x0 := HX.out.box.cell 0
      have x1 := HX.out.box.cell 1
      have x2 := HX.out.box.cell 2
      have x3 := HX.out.box.cell 3
      have HB2 := hid HX.out.res
      have e0 := HB2.out.cell 0
      have e1 := HB2.out.cell 1
      have e2 := HB2.out.cell 2
      have e3 := HB2.out.cell 3
      have ef := HB2.out.frozen
      go_wp2_with fail
      have hf := (((HB2.out.set 0 (.int .i64 S.k)).set 1 (.int .i64 S.f)).set 2 (.int .i64 S.s)).set 3 (.int .i64 S.c)
      have z0 := hf.cell 0
      have z1 := hf.cell 1
      have z2 := hf.cell 2
      have z3 := hf.cell 3
      refine bodyPost_ret (v := .tuple #[.agg #[.int .i64 S.k, .int .i64 S.f, .int .i64 S.s, .int .i64 S.c], .int .i64 er]) (by simp [results, Tryz.f46, go_sem, z0, z1, z2, z3]) rfl ?_
      exact ⟨S, er, rfl, hid (SInsM.fin HH.out HX.out (st5_fr W _ S HNG.out))⟩
end
end Go.Proofs.YtechphliifginaaGreatDoor

/- set.Set: New, Clone, Row, Floor, Ceil; a set said by its keys. -/
set_option linter.unusedVariables false
set_option linter.unusedSimpArgs false
namespace Go.Proofs.YtechphliifginaaGreatDoor
open Go.RowKit

section
variable {w0 w : World} {s p : Nat} {F : PF} {σ : List (Option Int)} {h : Nat} {evs : List Ev}
set_option maxRecDepth 100000 in
set_option maxHeartbeats 4000000 in
theorem setDelete_any (H : SetS w0 s p F σ h evs w) (hT : (its σ).length ≤ 2560) (key : Int) :
    Calls Tryz.prog 45 #[.pointer (some ⟨s, 0, none⟩), .int .i64 key] w fun e w' => ∃ (S : St) (er : Int), e = .returned (.tuple #[.agg #[.int .i64 S.k, .int .i64 S.f, .int .i64 S.s, .int .i64 S.c], .int .i64 er]) ∧ Hid (SActW (SDelQ σ h key) w0 s p F S er w w') := by
  have fa : Fr Nil1 w (w.alloc (.cells #[.int .i64 0, .int .i64 0, .int .i64 0, .int .i64 0] 35)) := (Fr.refl _ _).alloc _
  have HE := hid (setExact_any (H.new fa) key)
  have HH := hid H
  have HNG := hid H.size
  have HFa := hid fa
  by_cases hm : key ∈ its σ
  · have HM := hid hm
    have HT := hid hT
    clear H hT hm fa
    go_enter Tryz.func45, Tryz.ntmps45
    go_wp2_with (first
      | (go_at_call 21; refine (rowDel_key ((HH.out.new HFa.out).new H2.out.2) HQ.out.1 HQ.out.2 HT.out).mono ?_; rintro e w3 ⟨v, S, er, rfl, H3⟩; obtain ⟨_, _, _, _, _, _, _, hf3⟩ := H3.out; have hb3 := (HB2.out.fr' hf3 (fun g => by have := HH.out.row.r.lt _ g; omega)).alloc (.cells #[.int .i64 S.k, .int .i64 S.f, .int .i64 S.s, .int .i64 S.c] 35); have HB3 := hid hb3; have e0 := hb3.cell 0; have e1 := hb3.cell 1; have e2 := hb3.cell 2; have e3 := hb3.cell 3; have ef := hb3.frozen; clear hb3 hf3)
      | (go_at_call 111; refine HE.out.mono ?_; rintro e w2 ⟨r, rfl, H2⟩; obtain ⟨q, rfl, hq, hc⟩ := H2.out.1.at HM.out; have HQ := hid (And.intro hq hc); have HB2 := hid ((zer5 w).fr' H2.out.2 id); have c0 := ((HH.out.new HFa.out).new H2.out.2).c.one.1; clear hq hc))
    have hf := (((HB3.out.set 0 (.int .i64 S.k)).set 1 (.int .i64 S.f)).set 2 (.int .i64 S.s)).set 3 (.int .i64 S.c)
    have z0 := hf.cell 0
    have z1 := hf.cell 1
    have z2 := hf.cell 2
    have z3 := hf.cell 3
    refine bodyPost_ret (v := .tuple #[.agg #[.int .i64 S.k, .int .i64 S.f, .int .i64 S.s, .int .i64 S.c], .int .i64 er]) (by simp [results, Tryz.f45, go_sem, z0, z1, z2, z3]) rfl ?_
    have s2 := H2.out.2.size
    rw [World.size_alloc] at s2
    obtain ⟨_, _, _, _, _, _, _, hf3⟩ := H3.out
    have s3 := hf3.size
    exact ⟨S, er, rfl, hid (SInsM.fin HH.out (sInsM_of HH.out H2.out.2 H3.out (bx := w3.heap.size) (by omega) (.inr (Nat.le_refl _)) ((Fr.refl _ w3).alloc _) (Has.new w3 _ _)) (st5_fr _ _ S HNG.out))⟩
  · have HM := hid hm
    clear H hT hm fa
    go_enter Tryz.func45, Tryz.ntmps45
    go_wp2_with (go_at_call 111; refine HE.out.mono ?_; rintro e w2 ⟨r, rfl, H2⟩; obtain rfl := H2.out.1.out HM.out; have hb2 := (zer5 w).fr' H2.out.2 id; have HB2 := hid hb2; have e0 := hb2.cell 0; have e1 := hb2.cell 1; have e2 := hb2.cell 2; have e3 := hb2.cell 3; have ef := hb2.frozen; clear hb2)
    have hf := (((HB2.out.set 0 (.int .i64 0)).set 1 (.int .i64 0)).set 2 (.int .i64 0)).set 3 (.int .i64 0)
    have z0 := hf.cell 0
    have z1 := hf.cell 1
    have z2 := hf.cell 2
    have z3 := hf.cell 3
    refine bodyPost_ret (v := .tuple #[.agg #[.int .i64 0, .int .i64 0, .int .i64 0, .int .i64 0], .int .i64 14]) (by simp [results, Tryz.f45, go_sem, z0, z1, z2, z3]) rfl ?_
    exact ⟨⟨0, 0, 0, 0⟩, 14, rfl, hid (HH.out.refused H2.out.2 (st5_fr w2 _ ⟨0, 0, 0, 0⟩ HNG.out) (.none HM.out rfl rfl rfl rfl))⟩
end
theorem up_nil : Up (its (List.replicate 32 (none : Option Int))) := by
  have : its (List.replicate 32 (none : Option Int)) = [] := by decide
  rw [this]
  exact List.Pairwise.nil
theorem setNew_any (w : World) (hg : GW w) : Calls Tryz.prog 64 #[] w fun e w' => ∃ (s p : Nat) (F : PF), e = .returned (.pointer (some ⟨s, 0, none⟩)) ∧ Hid (SetS w s p F (List.replicate 32 none) 2 [] w' ∧ Fr Nil1 w w') := by
  have HN := hid (RowG.made (w0 := w) (B := Bn) (J := Jn) Value.nilFunc (.inl rfl) w hg hearN trivial (Fr.refl _ _) (fun k h => h.elim))
  have HG := hid hg.size
  clear hg
  go_enter Tryz.func64, Tryz.ntmps64
  go_wp2_with (go_at_call 16; refine HN.out.mono ?_; rintro e w1 ⟨p, F, rfl, H1⟩)
  go_ret
  have hs := H1.out.2.1.size
  have hg := HG.out
  exact ⟨w1.heap.size, p, F, rfl, hid ⟨⟨H1.out.1.new hearN ((Fr.refl _ _).alloc _), Has.new w1 _ _, fun hk => by have := H1.out.1.r.lt _ hk; omega, hs, by omega, up_nil⟩, H1.out.2.1.alloc _⟩⟩
section
variable {w0 w : World} {s p : Nat} {F : PF} {σ : List (Option Int)} {h : Nat} {evs : List Ev}
theorem setRow_any (H : SetS w0 s p F σ h evs w) : Calls Tryz.prog 37 #[.pointer (some ⟨s, 0, none⟩)] w fun e w' => ∃ F' : PF, e = .returned (.pointer (some ⟨F'.p, 0, none⟩)) ∧ Hid (RowN w F'.p F' σ h [] w' ∧ Fr Nil1 w w') := by
  obtain ⟨c0, cf⟩ := H.c.one
  have HC := hid (pmaClone_any H.row.r)
  rw [H.row.p] at HC
  have HD := hid H.row.d
  clear H
  go_enter Tryz.func37, Tryz.ntmps37
  go_wp2_with (go_at_call 23; refine HC.out.mono ?_; rintro e w1 ⟨F', rfl, h1, h2, h3⟩; have H1 := hid (And.intro h1 (And.intro h2 h3)); clear h1 h2 h3)
  go_ret
  exact ⟨F', rfl, hid ⟨⟨rfl, H1.out.1, HD.out, trivial, H1.out.2.1, H1.out.2.2, fun k hk => hk.elim⟩, H1.out.2.1⟩⟩
theorem setClone_any (H : SetS w0 s p F σ h evs w) : Calls Tryz.prog 65 #[.pointer (some ⟨s, 0, none⟩)] w fun e w' => ∃ (s' : Nat) (F' : PF), e = .returned (.pointer (some ⟨s', 0, none⟩)) ∧ Hid (SetS w s' F'.p F' σ h [] w' ∧ Fr Nil1 w w') := by
  obtain ⟨c0, cf⟩ := H.c.one
  have HC := hid (pmaClone_any H.row.r)
  rw [H.row.p] at HC
  have HD := hid (And.intro H.row.d (And.intro H.up H.size))
  clear H
  go_enter Tryz.func65, Tryz.ntmps65
  go_wp2_with (go_at_call 23; refine HC.out.mono ?_; rintro e w1 ⟨F', rfl, h1, h2, h3⟩; have H1 := hid (And.intro h1 (And.intro h2 h3)); clear h1 h2 h3)
  go_ret
  have hs := H1.out.2.1.size
  have hg := HD.out.2.2
  exact ⟨w1.heap.size, F', rfl, hid ⟨⟨⟨rfl, H1.out.1.new ((Fr.refl _ _).alloc _), HD.out.1, trivial, H1.out.2.1.alloc _, H1.out.2.2, fun k hk => hk.elim⟩, Has.new w1 _ _, fun hk => by have := H1.out.1.lt _ hk; omega, hs, by omega, HD.out.2.1⟩, H1.out.2.1.alloc _⟩⟩
/-- What is told of a slot that was found. -/
theorem at_some {σ : List (Option Int)} {q : Nat} {x : Int} (h : σ.getD q none = some x) : atV σ (q : Int) = x ∧ atB σ (q : Int) = true :=
  ⟨by unfold atV; rw [if_pos (by omega), Int.toNat_natCast, h]; rfl, by rw [atB_nat]; exact onOf_some h⟩
theorem at_neg {α : Type} (σ : List (Option Int)) : atV σ (-1) = 0 ∧ atB σ (-1) = false := ⟨rfl, rfl⟩
end
/-- A set that has these keys. -/
structure SS (w0 : World) (s : Nat) (ks : List Int) (w : World) : Prop where
  ex : ∃ (p : Nat) (F : PF) (σ : List (Option Int)) (h : Nat) (evs : List Ev), SetS w0 s p F σ h evs w ∧ its σ = ks
  up : Up ks
  fr : Fr Nil1 w0 w
theorem stepO_kind {τ τ' : List (Option Int)} {h seg h' : Nat} {S : St} (H : StepO τ h seg S τ' h') : S.k ≠ 0 := by
  cases H with
  | win m hm e hh k => rw [e]; show (1 : Int) ≠ 0; omega
  | anew kd hk e hh k => rw [e]; show kd ≠ 0; omega
/-- What an Insert does to keys. -/
inductive InsK (ks : List Int) (key : Int) (S : St) (er : Int) (ks' : List Int) : Prop
  | ok (hm : key ∉ ks) (hT : ks.length < 2560) (hS : S.k ≠ 0) (he : er = 0) (hl : ks' = putK ks key)
  | there (hm : key ∈ ks) (hS : S = ⟨0, 0, 0, 0⟩) (he : er = 15) (hl : ks' = ks)
  | full (hm : key ∉ ks) (hT : 2560 ≤ ks.length) (hS : S = ⟨0, 0, 0, 0⟩) (he : er = 16) (hl : ks' = ks)
/-- What a Delete does to keys. -/
inductive DelK (ks : List Int) (key : Int) (S : St) (er : Int) (ks' : List Int) : Prop
  | ok (hm : key ∈ ks) (hS : S.k ≠ 0) (he : er = 0) (hl : ks' = delK ks key)
  | none (hm : key ∉ ks) (hS : S = ⟨0, 0, 0, 0⟩) (he : er = 14) (hl : ks' = ks)
section
variable {w0 w w' : World} {s : Nat} {ks : List Int}
theorem SS.new (H : SS w0 s ks w) (hf : Fr Nil1 w w') : SS w0 s ks w' := by
  obtain ⟨p, F, σ, h, evs, a, b⟩ := H.ex
  exact ⟨⟨p, F, σ, h, evs, a.new hf, b⟩, H.up, H.fr.trans hf⟩
theorem SS.start (w : World) (hg : GW w) : Calls Tryz.prog 64 #[] w fun e w' => ∃ s : Nat, e = .returned (.pointer (some ⟨s, 0, none⟩)) ∧ Hid (SS w s [] w') := by
  refine (setNew_any w hg).mono ?_
  rintro e w' ⟨s, p, F, rfl, H⟩
  exact ⟨s, rfl, hid ⟨⟨p, F, _, 2, [], H.out.1, by decide⟩, List.Pairwise.nil, H.out.2⟩⟩
theorem SS.insert (H : SS w0 s ks w) (hT : ks.length ≤ 2560) (key : Int) :
    Calls Tryz.prog 46 #[.pointer (some ⟨s, 0, none⟩), .int .i64 key] w fun e w' => ∃ (S : St) (er : Int) (ks' : List Int), e = .returned (.tuple #[.agg #[.int .i64 S.k, .int .i64 S.f, .int .i64 S.s, .int .i64 S.c], .int .i64 er]) ∧ Hid (SS w0 s ks' w' ∧ InsK ks key S er ks') := by
  obtain ⟨p, F, σ, h, evs, a, rfl⟩ := H.ex
  refine (setInsert_any a hT key).mono ?_
  rintro e w' ⟨S, er, rfl, H2⟩
  obtain ⟨F', σ', h', evs', hS, hQ, _, _⟩ := H2.out
  refine ⟨S, er, its σ', rfl, hid ⟨⟨⟨p, F', σ', h', evs', hS, rfl⟩, hS.up, hS.row.fr⟩, ?_⟩⟩
  cases hQ with
  | ok bh seg next v ev hm hl hb hs hc he k =>
    obtain ⟨_, _, _, _, _, hst, _⟩ := k.step
    exact .ok hm hl (stepO_kind hst) he (by rw [k.items]; exact putK_at hc)
  | there hm he hS hσ hh => exact .there hm hS he (by rw [hσ])
  | full hm hT he hS hσ hh => exact .full hm hT hS he (by rw [hσ])
theorem SS.delete (H : SS w0 s ks w) (hT : ks.length ≤ 2560) (key : Int) :
    Calls Tryz.prog 45 #[.pointer (some ⟨s, 0, none⟩), .int .i64 key] w fun e w' => ∃ (S : St) (er : Int) (ks' : List Int), e = .returned (.tuple #[.agg #[.int .i64 S.k, .int .i64 S.f, .int .i64 S.s, .int .i64 S.c], .int .i64 er]) ∧ Hid (SS w0 s ks' w' ∧ DelK ks key S er ks') := by
  obtain ⟨p, F, σ, h, evs, a, rfl⟩ := H.ex
  refine (setDelete_any a hT key).mono ?_
  rintro e w' ⟨S, er, rfl, H2⟩
  obtain ⟨F', σ', h', evs', hS, hQ, _, _⟩ := H2.out
  refine ⟨S, er, its σ', rfl, hid ⟨⟨⟨p, F', σ', h', evs', hS, rfl⟩, hS.up, hS.row.fr⟩, ?_⟩⟩
  cases hQ with
  | ok j ev hx hc he k =>
    obtain ⟨_, _, _, _, _, hst, _⟩ := k.step
    exact .ok (mem_its.2 ⟨j, hx⟩) (stepO_kind hst) he (by rw [k.items]; exact delK_at hc)
  | none hm he hS hσ hh => exact .none hm hS he (by rw [hσ])
theorem SS.len (H : SS w0 s ks w) : Calls Tryz.prog 63 #[.pointer (some ⟨s, 0, none⟩)] w fun e w' => e = .returned (.int .i64 ks.length) ∧ w = w' := by
  obtain ⟨p, F, σ, h, evs, a, rfl⟩ := H.ex
  exact setLen_any a
theorem SS.has (H : SS w0 s ks w) (key : Int) : Calls Tryz.prog 50 #[.pointer (some ⟨s, 0, none⟩), .int .i64 key] w fun e w' => e = .returned (.bool (decide (key ∈ ks))) ∧ Fr Nil1 w w' := by
  obtain ⟨p, F, σ, h, evs, a, rfl⟩ := H.ex
  exact setHas_any a key
theorem SS.small (H : SS w0 s ks w) : ks.length ≤ 4096 := by
  obtain ⟨p, F, σ, h, evs, a, rfl⟩ := H.ex
  exact a.row.small.1
theorem SS.keys (H : SS w0 s ks w) : Calls Tryz.prog 51 #[.pointer (some ⟨s, 0, none⟩)] w fun e w' => ∃ A c, e = .returned (.slice A ks.length c) ∧ Hid (Rd w' (.slice A ks.length c) (ints' ks) ∧ Fr Nil1 w w') := by
  have hsm := H.small
  obtain ⟨p, F, σ, h, evs, a, rfl⟩ := H.ex
  refine (setKeys_any a).mono ?_
  rintro e w' ⟨v, rfl, H2⟩
  have hr := H2.out.1.rd (by omega)
  obtain ⟨A, c, e, _⟩ := hr
  rw [ints'_length] at e
  subst e
  exact ⟨A, c, rfl, hid ⟨H2.out.1.rd (by omega), H2.out.2⟩⟩
end
end Go.Proofs.YtechphliifginaaGreatDoor

/- A set, and blocks that are none of its own (any number): what its acts leave as it was. -/
set_option linter.unusedVariables false
set_option linter.unusedSimpArgs false
namespace Go.Proofs.YtechphliifginaaGreatDoor
open Go.RowKit

structure SSP (w0 : World) (s : Nat) (ks : List Int) (B : Nat → Prop) (w : World) : Prop where
  ex : ∃ (p : Nat) (F : PF) (σ : List (Option Int)) (h : Nat) (evs : List Ev), SetS w0 s p F σ h evs w ∧ its σ = ks ∧ ∀ b, B b → ¬ SetB F s b
  lt : ∀ b, B b → b < w.heap.size
section
variable {w0 w : World} {s : Nat} {ks : List Int} {B : Nat → Prop}
theorem SSP.ss (H : SSP w0 s ks B w) : SS w0 s ks w := by
  obtain ⟨p, F, σ, h, evs, a, rfl, _⟩ := H.ex
  exact ⟨⟨p, F, σ, h, evs, a, rfl⟩, a.up, a.row.fr⟩
theorem SSP.new {w' : World} (H : SSP w0 s ks B w) (hf : Fr Nil1 w w') : SSP w0 s ks B w' := by
  obtain ⟨p, F, σ, h, evs, a, e, n⟩ := H.ex
  exact ⟨⟨p, F, σ, h, evs, a.new hf, e, n⟩, fun b hb => by have := H.lt b hb; have := hf.size; omega⟩
theorem SS.beside (H : SS w0 s ks w) : SSP w0 s ks (fun _ => False) w := by
  obtain ⟨p, F, σ, h, evs, a, e⟩ := H.ex
  exact ⟨⟨p, F, σ, h, evs, a, e, fun _ hb => hb.elim⟩, fun _ hb => hb.elim⟩
/-- One block more. -/
theorem SSP.boxed (H : SSP w0 s ks B w) (o : Obj) : SSP w0 s ks (fun b => B b ∨ b = w.heap.size) (w.alloc o) := by
  obtain ⟨p, F, σ, h, evs, a, e, n⟩ := H.ex
  refine ⟨⟨p, F, σ, h, evs, a.new ((Fr.refl _ _).alloc _), e, fun b hb hk => ?_⟩, fun b hb => ?_⟩
  · rcases hb with g | rfl
    · exact n b g hk
    · have := a.lt _ hk; omega
  · rcases hb with g | rfl
    · have := H.lt b g; simp; omega
    · simp
theorem SSP.less {B' : Nat → Prop} (H : SSP w0 s ks B w) (hB : ∀ b, B' b → B b) : SSP w0 s ks B' w := by
  obtain ⟨p, F, σ, h, evs, a, e, n⟩ := H.ex
  exact ⟨⟨p, F, σ, h, evs, a, e, fun b hb => n b (hB b hb)⟩, fun b hb => H.lt b (hB b hb)⟩
/-- A block beside it turns. -/
theorem SSP.turn {w' : World} {S : Nat → Prop} (H : SSP w0 s ks B w) (hf : Fr S w w') (hS : ∀ k, S k → B k ∧ w0.heap.size ≤ k) : SSP w0 s ks B w' := by
  obtain ⟨p, F, σ, h, evs, a, e, n⟩ := H.ex
  exact ⟨⟨p, F, σ, h, evs, a.frS hf (fun k hk => ⟨n k (hS k hk).1, (hS k hk).2⟩), e, n⟩, fun b hb => by have := H.lt b hb; have := hf.size; omega⟩
theorem SSP.insert (H : SSP w0 s ks B w) (hT : ks.length ≤ 2560) (key : Int) :
    Calls Tryz.prog 46 #[.pointer (some ⟨s, 0, none⟩), .int .i64 key] w fun e w' => ∃ (S : St) (er : Int) (ks' : List Int), e = .returned (.tuple #[.agg #[.int .i64 S.k, .int .i64 S.f, .int .i64 S.s, .int .i64 S.c], .int .i64 er]) ∧ Hid (SSP w0 s ks' B w' ∧ InsK ks key S er ks' ∧ ∀ b, B b → w'.heap[b]? = w.heap[b]?) := by
  obtain ⟨p, F, σ, h, evs, a, rfl, nb⟩ := H.ex
  refine (setInsert_any a hT key).mono ?_
  rintro e w' ⟨S, er, rfl, H2⟩
  obtain ⟨F', σ', h', evs', hS, hQ, hm, hf⟩ := H2.out
  refine ⟨S, er, its σ', rfl, hid ⟨⟨⟨p, F', σ', h', evs', hS, rfl, fun b hb hk => ?_⟩, fun b hb => by have := H.lt b hb; have := hf.size; omega⟩, ?_, fun b hb => hf.block b (H.lt b hb) (fun g => absurd (.inl g) (nb b hb))⟩⟩
  · rcases hk with g | g
    · rcases hm b g with g | g
      · exact nb b hb (.inl g)
      · have := H.lt b hb; omega
    · exact nb b hb (.inr g)
  · cases hQ with
    | ok bh seg next v ev hm hl hb hs hc he k =>
      obtain ⟨_, _, _, _, _, hst, _⟩ := k.step
      exact .ok hm hl (stepO_kind hst) he (by rw [k.items]; exact putK_at hc)
    | there hm he hS hσ hh => exact .there hm hS he (by rw [hσ])
    | full hm hT he hS hσ hh => exact .full hm hT hS he (by rw [hσ])
theorem SSP.delete (H : SSP w0 s ks B w) (hT : ks.length ≤ 2560) (key : Int) :
    Calls Tryz.prog 45 #[.pointer (some ⟨s, 0, none⟩), .int .i64 key] w fun e w' => ∃ (S : St) (er : Int) (ks' : List Int), e = .returned (.tuple #[.agg #[.int .i64 S.k, .int .i64 S.f, .int .i64 S.s, .int .i64 S.c], .int .i64 er]) ∧ Hid (SSP w0 s ks' B w' ∧ DelK ks key S er ks' ∧ ∀ b, B b → w'.heap[b]? = w.heap[b]?) := by
  obtain ⟨p, F, σ, h, evs, a, rfl, nb⟩ := H.ex
  refine (setDelete_any a hT key).mono ?_
  rintro e w' ⟨S, er, rfl, H2⟩
  obtain ⟨F', σ', h', evs', hS, hQ, hm, hf⟩ := H2.out
  refine ⟨S, er, its σ', rfl, hid ⟨⟨⟨p, F', σ', h', evs', hS, rfl, fun b hb hk => ?_⟩, fun b hb => by have := H.lt b hb; have := hf.size; omega⟩, ?_, fun b hb => hf.block b (H.lt b hb) (fun g => absurd (.inl g) (nb b hb))⟩⟩
  · rcases hk with g | g
    · rcases hm b g with g | g
      · exact nb b hb (.inl g)
      · have := H.lt b hb; omega
    · exact nb b hb (.inr g)
  · cases hQ with
    | ok j ev hx hc he k =>
      obtain ⟨_, _, _, _, _, hst, _⟩ := k.step
      exact .ok (mem_its.2 ⟨j, hx⟩) (stepO_kind hst) he (by rw [k.items]; exact delK_at hc)
    | none hm he hS hσ hh => exact .none hm hS he (by rw [hσ])
end
end Go.Proofs.YtechphliifginaaGreatDoor

/- Acts of a set. -/
set_option linter.unusedVariables false
set_option linter.unusedSimpArgs false
namespace Go.Proofs.YtechphliifginaaGreatDoor
open Go.RowKit

/-- An act of a set. -/
structure AcS where
  goes : Bool
  key : Int
end Go.Proofs.YtechphliifginaaGreatDoor

/- Plain: keys that come in whichever order make one row; and two sets beside one another. -/
set_option linter.unusedVariables false
set_option linter.unusedSimpArgs false
namespace Go.Proofs.YtechphliifginaaGreatDoor
open Go.RowKit

def putA (ks : List Int) (k : Int) : List Int := if k ∈ ks then ks else putK ks k
def delA (ks : List Int) (k : Int) : List Int := if k ∈ ks then delK ks k else ks
theorem mem_putA {ks : List Int} {k y : Int} : y ∈ putA ks k ↔ y = k ∨ y ∈ ks := by
  unfold putA
  by_cases h : k ∈ ks
  · rw [if_pos h]
    exact ⟨.inr, fun g => by rcases g with rfl | g <;> assumption⟩
  · rw [if_neg h]; exact mem_putK
theorem up_putA {ks : List Int} (H : Up ks) (k : Int) : Up (putA ks k) := by
  unfold putA
  by_cases h : k ∈ ks
  · rw [if_pos h]; exact H
  · rw [if_neg h]; exact up_putK H h
theorem mem_delA {ks : List Int} (H : Up ks) {k y : Int} : y ∈ delA ks k ↔ y ∈ ks ∧ y ≠ k := by
  unfold delA
  by_cases h : k ∈ ks
  · rw [if_pos h]; exact mem_delK H h
  · rw [if_neg h]; exact ⟨fun g => ⟨g, fun e => h (e ▸ g)⟩, fun g => g.1⟩
theorem up_delA {ks : List Int} (H : Up ks) (k : Int) : Up (delA ks k) := by
  unfold delA
  by_cases h : k ∈ ks
  · rw [if_pos h]; exact up_delK H k
  · rw [if_neg h]; exact H
theorem putA_length (ks : List Int) (k : Int) : (putA ks k).length ≤ ks.length + 1 := by
  unfold putA
  split
  · omega
  · rw [putK_length]; omega
theorem delA_length {ks : List Int} (H : Up ks) (k : Int) : (delA ks k).length ≤ ks.length := by
  unfold delA
  split
  · rename_i h; have := delK_length H h; omega
  · omega
theorem InsK.put {ks ks' : List Int} {key er : Int} {S : St} (H : InsK ks key S er ks') (hT : ks.length < 2560) : (er = 0 ∨ er = 15) ∧ ks' = putA ks key := by
  unfold putA
  cases H with
  | ok hm _ _ he hl => rw [if_neg hm]; exact ⟨.inl he, hl⟩
  | there hm _ he hl => rw [if_pos hm]; exact ⟨.inr he, hl⟩
  | full _ h _ _ _ => omega
theorem DelK.del {ks ks' : List Int} {key er : Int} {S : St} (H : DelK ks key S er ks') : (er = 0 ∨ er = 14) ∧ ks' = delA ks key := by
  unfold delA
  cases H with
  | ok hm _ he hl => rw [if_pos hm]; exact ⟨.inl he, hl⟩
  | none hm _ he hl => rw [if_neg hm]; exact ⟨.inr he, hl⟩
/-- Rows that rise and have the same keys are one. -/
theorem up_ext : ∀ {a b : List Int}, Up a → Up b → (∀ y, y ∈ a ↔ y ∈ b) → a = b
  | [], [], _, _, _ => rfl
  | [], y :: b, _, _, h => by have := (h y).2 (List.mem_cons_self ..); cases this
  | x :: a, [], _, _, h => by have := (h x).1 (List.mem_cons_self ..); cases this
  | x :: a, y :: b, ha, hb, h => by
    have a1 := List.pairwise_cons.1 ha
    have b1 := List.pairwise_cons.1 hb
    have e : x = y := by
      have h1 := (h x).1 (List.mem_cons_self ..)
      have h2 := (h y).2 (List.mem_cons_self ..)
      rcases List.mem_cons.1 h1 with g | g
      · exact g
      · rcases List.mem_cons.1 h2 with k | k
        · exact k.symm
        · have := b1.1 x g; have := a1.1 y k; omega
    subst e
    congr 1
    refine up_ext a1.2 b1.2 (fun z => ⟨fun hz => ?_, fun hz => ?_⟩)
    · have := a1.1 z hz
      rcases List.mem_cons.1 ((h z).1 (List.mem_cons_of_mem _ hz)) with g | g
      · omega
      · exact g
    · have := b1.1 z hz
      rcases List.mem_cons.1 ((h z).2 (List.mem_cons_of_mem _ hz)) with g | g
      · omega
      · exact g
/-- Two of a row change their places. -/
def swL (xs : List Int) (a b : Nat) : List Int := (xs.set a (xs.getD b 0)).set b (xs.getD a 0)
theorem swL_length (xs : List Int) (a b : Nat) : (swL xs a b).length = xs.length := by simp [swL]
theorem swL_get {xs : List Int} {a b : Nat} (ha : a < xs.length) (hb : b < xs.length) (i : Nat) : (swL xs a b).getD i 0 = if i = b then xs.getD a 0 else if i = a then xs.getD b 0 else xs.getD i 0 := by
  unfold swL
  rw [List.getD_eq_getElem?_getD, List.getElem?_set, List.getElem?_set]
  by_cases h1 : i = b
  · subst h1
    rw [if_pos rfl, if_pos (by rw [List.length_set]; omega), if_pos rfl]
    rfl
  · rw [if_neg (fun e => h1 e.symm), if_neg h1]
    by_cases h2 : i = a
    · subst h2
      rw [if_pos rfl, if_pos ha, if_pos rfl]
      rfl
    · rw [if_neg (fun e => h2 e.symm), if_neg h2, ← List.getD_eq_getElem?_getD]
theorem mem_getD' {xs : List Int} {y : Int} : y ∈ xs ↔ ∃ i, i < xs.length ∧ xs.getD i 0 = y := by
  constructor
  · intro h
    obtain ⟨i, hi, e⟩ := List.getElem_of_mem h
    exact ⟨i, hi, by rw [List.getD_eq_getElem?_getD, List.getElem?_eq_getElem hi]; exact e⟩
  · rintro ⟨i, hi, e⟩
    rw [List.getD_eq_getElem?_getD, List.getElem?_eq_getElem hi] at e
    exact e ▸ List.getElem_mem hi
theorem mem_swL {xs : List Int} {a b : Nat} (ha : a < xs.length) (hb : b < xs.length) (y : Int) : y ∈ swL xs a b ↔ y ∈ xs := by
  rw [mem_getD', mem_getD', swL_length]
  constructor
  · rintro ⟨i, hi, e⟩
    rw [swL_get ha hb] at e
    by_cases h1 : i = b
    · rw [if_pos h1] at e; exact ⟨a, ha, e⟩
    · rw [if_neg h1] at e
      by_cases h2 : i = a
      · rw [if_pos h2] at e; exact ⟨b, hb, e⟩
      · rw [if_neg h2] at e; exact ⟨i, hi, e⟩
  · rintro ⟨i, hi, e⟩
    by_cases h1 : i = b
    · refine ⟨a, ha, ?_⟩
      rw [swL_get ha hb]
      by_cases h2 : a = b
      · subst h2; subst h1; rw [if_pos rfl]; exact e
      · rw [if_neg h2, if_pos rfl]; exact h1 ▸ e
    · by_cases h2 : i = a
      · exact ⟨b, hb, by rw [swL_get ha hb, if_pos rfl]; exact h2 ▸ e⟩
      · exact ⟨i, hi, by rw [swL_get ha hb, if_neg h1, if_neg h2]; exact e⟩
theorem swL_wf {xs : List Int} {a b : Nat} (ha : a < xs.length) (hb : b < xs.length) (P : Int → Prop) (h : ∀ x ∈ xs, P x) : ∀ x ∈ swL xs a b, P x := fun x hx => h x ((mem_swL ha hb x).1 hx)
/-- An empty set stands in the least array. -/
theorem SetS.base {w0 w1 w : World} {s p : Nat} {F : PF} {σ : List (Option Int)} {h : Nat} {evs : List Ev} (H : SetS w1 s p F σ h evs w) (hf : Fr Nil1 w0 w1) : SetS w0 s p F σ h evs w := by
  have hs := hf.size
  exact ⟨⟨H.row.p, H.row.r, H.row.d, H.row.jj, hf.trans H.row.fr, fun k hk => Nat.le_trans hs (H.row.mem k hk), fun k hk => hk.elim⟩, H.c, H.ns, Nat.le_trans hs H.ge, H.gs, H.up⟩
/-- Two sets, each of its own blocks; and blocks beside both. -/
structure SS2 (w0 : World) (s t : Nat) (ks kt : List Int) (B : Nat → Prop) (w : World) : Prop where
  ex : ∃ (p : Nat) (F : PF) (σ : List (Option Int)) (h : Nat) (evs : List Ev) (p2 : Nat) (F2 : PF) (σ2 : List (Option Int)) (h2 : Nat) (evs2 : List Ev),
    SetS w0 s p F σ h evs w ∧ SetS w0 t p2 F2 σ2 h2 evs2 w ∧ its σ = ks ∧ its σ2 = kt ∧ (∀ k, SetB F s k → ¬ SetB F2 t k) ∧ ∀ b, B b → ¬ SetB F s b ∧ ¬ SetB F2 t b
  lt : ∀ b, B b → b < w.heap.size
section
variable {w0 w w' : World} {s t : Nat} {ks kt : List Int} {B : Nat → Prop}
theorem SS2.symm (H : SS2 w0 s t ks kt B w) : SS2 w0 t s kt ks B w := by
  obtain ⟨p, F, σ, h, evs, p2, F2, σ2, h2, evs2, a, b, c, d, e, n⟩ := H.ex
  exact ⟨⟨p2, F2, σ2, h2, evs2, p, F, σ, h, evs, b, a, d, c, fun k h1 h2 => e k h2 h1, fun b hb => ⟨(n b hb).2, (n b hb).1⟩⟩, H.lt⟩
theorem SS2.left (H : SS2 w0 s t ks kt B w) : SS w0 s ks w := by
  obtain ⟨p, F, σ, h, evs, p2, F2, σ2, h2, evs2, a, b, rfl, d, e, n⟩ := H.ex
  exact ⟨⟨p, F, σ, h, evs, a, rfl⟩, a.up, a.row.fr⟩
theorem SS2.right (H : SS2 w0 s t ks kt B w) : SS w0 t kt w := H.symm.left
theorem SS2.new (H : SS2 w0 s t ks kt B w) (hf : Fr Nil1 w w') : SS2 w0 s t ks kt B w' := by
  obtain ⟨p, F, σ, h, evs, p2, F2, σ2, h2, evs2, a, b, c, d, e, n⟩ := H.ex
  exact ⟨⟨p, F, σ, h, evs, p2, F2, σ2, h2, evs2, a.new hf, b.new hf, c, d, e, n⟩, fun b hb => by have := H.lt b hb; have := hf.size; omega⟩
/-- A set that is made anew stands beside. -/
theorem SSP.andNew {w1 : World} (H : SSP w0 s ks B w) {p2 : Nat} {F2 : PF} {σ2 : List (Option Int)} {h2 : Nat} {evs2 : List Ev} (H2 : SetS w t p2 F2 σ2 h2 evs2 w1) (hf : Fr Nil1 w w1) : SS2 w0 s t ks (its σ2) B w1 := by
  have hfr := H.ss.fr
  obtain ⟨p, F, σ, h, evs, a, rfl, n⟩ := H.ex
  exact ⟨⟨p, F, σ, h, evs, p2, F2, σ2, h2, evs2, a.new hf, H2.base hfr, rfl, rfl, fun k h1 h2 => by have := a.lt k h1; have := H2.geB k h2; omega, fun b hb => ⟨n b hb, fun h2 => by have := H.lt b hb; have := H2.geB b h2; omega⟩⟩, fun b hb => by have := H.lt b hb; have := hf.size; omega⟩
theorem SSP.fresh {B' : Nat → Prop} (H : SSP w0 s ks B w) (hf : Fr Nil1 w w') (hB : ∀ b, B' b → B b ∨ (w.heap.size ≤ b ∧ b < w'.heap.size)) : SSP w0 s ks B' w' := by
  have hs := hf.size
  obtain ⟨p, F, σ, h, evs, a, e, n⟩ := H.ex
  refine ⟨⟨p, F, σ, h, evs, a.new hf, e, fun b hb hk => ?_⟩, fun b hb => ?_⟩
  · rcases hB b hb with g | g
    · exact n b g hk
    · have := a.lt b hk; omega
  · rcases hB b hb with g | g
    · have := H.lt b g; omega
    · exact g.2
theorem SS2.insert (H : SS2 w0 s t ks kt B w) (hT : ks.length < 2560) (key : Int) :
    Calls Tryz.prog 46 #[.pointer (some ⟨s, 0, none⟩), .int .i64 key] w fun e w' => ∃ (S : St) (er : Int), e = .returned (.tuple #[.agg #[.int .i64 S.k, .int .i64 S.f, .int .i64 S.s, .int .i64 S.c], .int .i64 er]) ∧ (er = 0 ∨ er = 15) ∧ Hid (SS2 w0 s t (putA ks key) kt B w' ∧ ∀ b, B b → w'.heap[b]? = w.heap[b]?) := by
  have hlt := H.lt
  obtain ⟨p, F, σ, h, evs, p2, F2, σ2, h2, evs2, a, b, rfl, rfl, d, n⟩ := H.ex
  refine (setInsert_any a (Nat.le_of_lt hT) key).mono ?_
  rintro e w' ⟨S, er, rfl, H2⟩
  obtain ⟨F', σ', h', evs', hS, hQ, hm, hf⟩ := H2.out
  have hq : InsK (its σ) key S er (its σ') := by
    cases hQ with
    | ok bh seg next v ev hm hl hb hs hc he k =>
      obtain ⟨_, _, _, _, _, hst, _⟩ := k.step
      exact .ok hm hl (stepO_kind hst) he (by rw [k.items]; exact putK_at hc)
    | there hm he hS hσ hh => exact .there hm hS he (by rw [hσ])
    | full hm hT he hS hσ hh => exact .full hm hT hS he (by rw [hσ])
  obtain ⟨q1, q2⟩ := hq.put hT
  refine ⟨S, er, rfl, q1, hid ⟨⟨⟨p, F', σ', h', evs', p2, F2, σ2, h2, evs2, hS, b.frS hf (fun k hk => ⟨d k (.inl hk), a.geB k (.inl hk)⟩), q2, rfl, fun k h1 h2 => ?_, fun c hc => ⟨fun h1 => ?_, (n c hc).2⟩⟩, fun c hc => by have := hlt c hc; have := hf.size; omega⟩, fun c hc => hf.block c (hlt c hc) (fun g => absurd (.inl g) (n c hc).1)⟩⟩
  · rcases h1 with g | g
    · rcases hm k g with g | g
      · exact d k (.inl g) h2
      · have := b.lt k h2; omega
    · exact d k (.inr g) h2
  · rcases h1 with g | g
    · rcases hm c g with g | g
      · exact (n c hc).1 (.inl g)
      · have := hlt c hc; omega
    · exact (n c hc).1 (.inr g)
theorem SS2.delete (H : SS2 w0 s t ks kt B w) (hT : ks.length ≤ 2560) (key : Int) :
    Calls Tryz.prog 45 #[.pointer (some ⟨s, 0, none⟩), .int .i64 key] w fun e w' => ∃ (S : St) (er : Int), e = .returned (.tuple #[.agg #[.int .i64 S.k, .int .i64 S.f, .int .i64 S.s, .int .i64 S.c], .int .i64 er]) ∧ (er = 0 ∨ er = 14) ∧ Hid (SS2 w0 s t (delA ks key) kt B w' ∧ ∀ b, B b → w'.heap[b]? = w.heap[b]?) := by
  have hlt := H.lt
  obtain ⟨p, F, σ, h, evs, p2, F2, σ2, h2, evs2, a, b, rfl, rfl, d, n⟩ := H.ex
  refine (setDelete_any a hT key).mono ?_
  rintro e w' ⟨S, er, rfl, H2⟩
  obtain ⟨F', σ', h', evs', hS, hQ, hm, hf⟩ := H2.out
  have hq : DelK (its σ) key S er (its σ') := by
    cases hQ with
    | ok j ev hx hc he k =>
      obtain ⟨_, _, _, _, _, hst, _⟩ := k.step
      exact .ok (mem_its.2 ⟨j, hx⟩) (stepO_kind hst) he (by rw [k.items]; exact delK_at hc)
    | none hm he hS hσ hh => exact .none hm hS he (by rw [hσ])
  obtain ⟨q1, q2⟩ := hq.del
  refine ⟨S, er, rfl, q1, hid ⟨⟨⟨p, F', σ', h', evs', p2, F2, σ2, h2, evs2, hS, b.frS hf (fun k hk => ⟨d k (.inl hk), a.geB k (.inl hk)⟩), q2, rfl, fun k h1 h2 => ?_, fun c hc => ⟨fun h1 => ?_, (n c hc).2⟩⟩, fun c hc => by have := hlt c hc; have := hf.size; omega⟩, fun c hc => hf.block c (hlt c hc) (fun g => absurd (.inl g) (n c hc).1)⟩⟩
  · rcases h1 with g | g
    · rcases hm k g with g | g
      · exact d k (.inl g) h2
      · have := b.lt k h2; omega
    · exact d k (.inr g) h2
  · rcases h1 with g | g
    · rcases hm c g with g | g
      · exact (n c hc).1 (.inl g)
      · have := hlt c hc; omega
    · exact (n c hc).1 (.inr g)
end
theorem SS.keysR {w0 w : World} {s : Nat} {ks : List Int} (H : SS w0 s ks w) : Calls Tryz.prog 51 #[.pointer (some ⟨s, 0, none⟩)] w fun e w' => ∃ v, e = .returned v ∧ Hid (RowI w' w.heap.size v ks ∧ Fr Nil1 w w') := by
  obtain ⟨p, F, σ, h, evs, a, rfl⟩ := H.ex
  exact setKeys_any a
theorem SSP.clone {w0 w : World} {s : Nat} {ks : List Int} {B : Nat → Prop} (H : SSP w0 s ks B w) : Calls Tryz.prog 65 #[.pointer (some ⟨s, 0, none⟩)] w fun e w' => ∃ c : Nat, e = .returned (.pointer (some ⟨c, 0, none⟩)) ∧ Hid (SS2 w0 s c ks ks B w' ∧ Fr Nil1 w w') := by
  have HH := H
  obtain ⟨p, F, σ, h, evs, a, rfl, n⟩ := H.ex
  refine (setClone_any a).mono ?_
  rintro e w' ⟨c, F', rfl, H2⟩
  exact ⟨c, rfl, hid ⟨HH.andNew H2.out.1 H2.out.2, H2.out.2⟩⟩
theorem RowI.same {w w' : World} {base : Nat} {v : Value} {xs : List Int} (h : RowI w base v xs) (hb : ∀ g, v.ownBlock = some g → w'.heap[g]? = w.heap[g]?) : RowI w' base v xs := by
  refine ⟨h.1, ?_⟩
  rcases h.2 with h2 | ⟨g, cap, cur, hv, hg, hh, r⟩
  · exact .inl h2
  · exact .inr ⟨g, cap, cur, hv, hg, (hb g (by rw [hv]; rfl)).trans hh, r⟩
section
variable {w0 w : World} {s p : Nat} {F : PF} {σ : List (Option Int)} {h : Nat} {evs : List Ev}
theorem setCap_any (H : SetS w0 s p F σ h evs w) : Calls Tryz.prog 49 #[.pointer (some ⟨s, 0, none⟩)] w fun e w' => e = .returned (.int .i64 (8 * 2 ^ h : Nat)) ∧ w = w' := by
  obtain ⟨c0, cf⟩ := H.c.one
  have HL := hid (RowG.cap H.row)
  generalize (8 * 2 ^ h : Nat) = z at *
  clear H
  go_enter Tryz.func49, Tryz.ntmps49
  go_wp2_with (go_at_call 30; refine HL.out.mono ?_; rintro e w1 ⟨rfl, rfl⟩)
  go_ret
  exact ⟨rfl, rfl⟩
theorem Dn.none (H : Dn σ h) (he : its σ = []) : h = 2 := by
  rcases Nat.lt_or_ge 2 h with g | g
  · exfalso
    have h0 : 0 < 2 ^ h := Nat.pow_pos (by omega)
    have := H.lo g 0 h0
    have h1 := cntOn_seg σ 0
    have h2 := cntOn_le_of (onOf σ) (show 8 * (0 + 1) ≤ σ.length by have := H.len; omega)
    have h3 := its_length σ
    rw [he] at h3
    simp at h3
    omega
  · have := H.h2; omega
end
theorem SS.capNone {w0 w : World} {s : Nat} {ks : List Int} (H : SS w0 s ks w) (he : ks = []) : Calls Tryz.prog 49 #[.pointer (some ⟨s, 0, none⟩)] w fun e w' => e = .returned (.int .i64 32) ∧ w = w' := by
  obtain ⟨p, F, σ, h, evs, a, rfl⟩ := H.ex
  have := setCap_any a
  rw [a.row.d.none he] at this
  exact this
end Go.Proofs.YtechphliifginaaGreatDoor
