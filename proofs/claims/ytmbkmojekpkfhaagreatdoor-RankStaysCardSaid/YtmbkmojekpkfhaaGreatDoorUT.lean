/- Plain: keys that come in whichever order make one row; and two sets beside one another. -/
import Derived.Test.YtmbkmojekpkfhaaGreatDoorMS
set_option linter.unusedVariables false
set_option linter.unusedSimpArgs false
namespace Go.Proofs.YtmbkmojekpkfhaaGreatDoor
open Go.RowKit

def putA (ks : List Int) (k : Int) : List Int := if k ∈ ks then ks else putK ks k
def delA (ks : List Int) (k : Int) : List Int := if k ∈ ks then delK ks k else ks
theorem mem_putA {ks : List Int} {k y : Int} : y ∈ putA ks k ↔ y = k ∨ y ∈ ks := by
  unfold putA
  by_cases h : k ∈ ks
  · rw [if_pos h]
    exact ⟨.inr, fun g => by rcases g with rfl | g <;> assumption⟩
  · rw [if_neg h]; exact mem_putK
theorem up_putA {ks : List Int} (H : Up ks) (k : Int) : Up (putA ks k) := by
  unfold putA
  by_cases h : k ∈ ks
  · rw [if_pos h]; exact H
  · rw [if_neg h]; exact up_putK H h
theorem mem_delA {ks : List Int} (H : Up ks) {k y : Int} : y ∈ delA ks k ↔ y ∈ ks ∧ y ≠ k := by
  unfold delA
  by_cases h : k ∈ ks
  · rw [if_pos h]; exact mem_delK H h
  · rw [if_neg h]; exact ⟨fun g => ⟨g, fun e => h (e ▸ g)⟩, fun g => g.1⟩
theorem up_delA {ks : List Int} (H : Up ks) (k : Int) : Up (delA ks k) := by
  unfold delA
  by_cases h : k ∈ ks
  · rw [if_pos h]; exact up_delK H k
  · rw [if_neg h]; exact H
theorem putA_length (ks : List Int) (k : Int) : (putA ks k).length ≤ ks.length + 1 := by
  unfold putA
  split
  · omega
  · rw [putK_length]; omega
theorem delA_length {ks : List Int} (H : Up ks) (k : Int) : (delA ks k).length ≤ ks.length := by
  unfold delA
  split
  · rename_i h; have := delK_length H h; omega
  · omega
theorem InsK.put {ks ks' : List Int} {key er : Int} {S : St} (H : InsK ks key S er ks') (hT : ks.length < 2560) : (er = 0 ∨ er = 15) ∧ ks' = putA ks key := by
  unfold putA
  cases H with
  | ok hm _ _ he hl => rw [if_neg hm]; exact ⟨.inl he, hl⟩
  | there hm _ he hl => rw [if_pos hm]; exact ⟨.inr he, hl⟩
  | full _ h _ _ _ => omega
theorem DelK.del {ks ks' : List Int} {key er : Int} {S : St} (H : DelK ks key S er ks') : (er = 0 ∨ er = 14) ∧ ks' = delA ks key := by
  unfold delA
  cases H with
  | ok hm _ he hl => rw [if_pos hm]; exact ⟨.inl he, hl⟩
  | none hm _ he hl => rw [if_neg hm]; exact ⟨.inr he, hl⟩
/-- Rows that rise and have the same keys are one. -/
theorem up_ext : ∀ {a b : List Int}, Up a → Up b → (∀ y, y ∈ a ↔ y ∈ b) → a = b
  | [], [], _, _, _ => rfl
  | [], y :: b, _, _, h => by have := (h y).2 (List.mem_cons_self ..); cases this
  | x :: a, [], _, _, h => by have := (h x).1 (List.mem_cons_self ..); cases this
  | x :: a, y :: b, ha, hb, h => by
    have a1 := List.pairwise_cons.1 ha
    have b1 := List.pairwise_cons.1 hb
    have e : x = y := by
      have h1 := (h x).1 (List.mem_cons_self ..)
      have h2 := (h y).2 (List.mem_cons_self ..)
      rcases List.mem_cons.1 h1 with g | g
      · exact g
      · rcases List.mem_cons.1 h2 with k | k
        · exact k.symm
        · have := b1.1 x g; have := a1.1 y k; omega
    subst e
    congr 1
    refine up_ext a1.2 b1.2 (fun z => ⟨fun hz => ?_, fun hz => ?_⟩)
    · have := a1.1 z hz
      rcases List.mem_cons.1 ((h z).1 (List.mem_cons_of_mem _ hz)) with g | g
      · omega
      · exact g
    · have := b1.1 z hz
      rcases List.mem_cons.1 ((h z).2 (List.mem_cons_of_mem _ hz)) with g | g
      · omega
      · exact g
/-- Two of a row change their places. -/
def swL (xs : List Int) (a b : Nat) : List Int := (xs.set a (xs.getD b 0)).set b (xs.getD a 0)
theorem swL_length (xs : List Int) (a b : Nat) : (swL xs a b).length = xs.length := by simp [swL]
theorem swL_get {xs : List Int} {a b : Nat} (ha : a < xs.length) (hb : b < xs.length) (i : Nat) : (swL xs a b).getD i 0 = if i = b then xs.getD a 0 else if i = a then xs.getD b 0 else xs.getD i 0 := by
  unfold swL
  rw [List.getD_eq_getElem?_getD, List.getElem?_set, List.getElem?_set]
  by_cases h1 : i = b
  · subst h1
    rw [if_pos rfl, if_pos (by rw [List.length_set]; omega), if_pos rfl]
    rfl
  · rw [if_neg (fun e => h1 e.symm), if_neg h1]
    by_cases h2 : i = a
    · subst h2
      rw [if_pos rfl, if_pos ha, if_pos rfl]
      rfl
    · rw [if_neg (fun e => h2 e.symm), if_neg h2, ← List.getD_eq_getElem?_getD]
theorem mem_getD' {xs : List Int} {y : Int} : y ∈ xs ↔ ∃ i, i < xs.length ∧ xs.getD i 0 = y := by
  constructor
  · intro h
    obtain ⟨i, hi, e⟩ := List.getElem_of_mem h
    exact ⟨i, hi, by rw [List.getD_eq_getElem?_getD, List.getElem?_eq_getElem hi]; exact e⟩
  · rintro ⟨i, hi, e⟩
    rw [List.getD_eq_getElem?_getD, List.getElem?_eq_getElem hi] at e
    exact e ▸ List.getElem_mem hi
theorem mem_swL {xs : List Int} {a b : Nat} (ha : a < xs.length) (hb : b < xs.length) (y : Int) : y ∈ swL xs a b ↔ y ∈ xs := by
  rw [mem_getD', mem_getD', swL_length]
  constructor
  · rintro ⟨i, hi, e⟩
    rw [swL_get ha hb] at e
    by_cases h1 : i = b
    · rw [if_pos h1] at e; exact ⟨a, ha, e⟩
    · rw [if_neg h1] at e
      by_cases h2 : i = a
      · rw [if_pos h2] at e; exact ⟨b, hb, e⟩
      · rw [if_neg h2] at e; exact ⟨i, hi, e⟩
  · rintro ⟨i, hi, e⟩
    by_cases h1 : i = b
    · refine ⟨a, ha, ?_⟩
      rw [swL_get ha hb]
      by_cases h2 : a = b
      · subst h2; subst h1; rw [if_pos rfl]; exact e
      · rw [if_neg h2, if_pos rfl]; exact h1 ▸ e
    · by_cases h2 : i = a
      · exact ⟨b, hb, by rw [swL_get ha hb, if_pos rfl]; exact h2 ▸ e⟩
      · exact ⟨i, hi, by rw [swL_get ha hb, if_neg h1, if_neg h2]; exact e⟩
theorem swL_wf {xs : List Int} {a b : Nat} (ha : a < xs.length) (hb : b < xs.length) (P : Int → Prop) (h : ∀ x ∈ xs, P x) : ∀ x ∈ swL xs a b, P x := fun x hx => h x ((mem_swL ha hb x).1 hx)
/-- An empty set stands in the least array. -/
theorem SetS.base {w0 w1 w : World} {s p : Nat} {F : PF} {σ : List (Option Int)} {h : Nat} {evs : List Ev} (H : SetS w1 s p F σ h evs w) (hf : Fr Nil1 w0 w1) : SetS w0 s p F σ h evs w := by
  have hs := hf.size
  exact ⟨⟨H.row.p, H.row.r, H.row.d, H.row.jj, hf.trans H.row.fr, fun k hk => Nat.le_trans hs (H.row.mem k hk), fun k hk => hk.elim⟩, H.c, H.ns, Nat.le_trans hs H.ge, H.gs, H.up⟩
/-- Two sets, each of its own blocks; and blocks beside both. -/
structure SS2 (w0 : World) (s t : Nat) (ks kt : List Int) (B : Nat → Prop) (w : World) : Prop where
  ex : ∃ (p : Nat) (F : PF) (σ : List (Option Int)) (h : Nat) (evs : List Ev) (p2 : Nat) (F2 : PF) (σ2 : List (Option Int)) (h2 : Nat) (evs2 : List Ev),
    SetS w0 s p F σ h evs w ∧ SetS w0 t p2 F2 σ2 h2 evs2 w ∧ its σ = ks ∧ its σ2 = kt ∧ (∀ k, SetB F s k → ¬ SetB F2 t k) ∧ ∀ b, B b → ¬ SetB F s b ∧ ¬ SetB F2 t b
  lt : ∀ b, B b → b < w.heap.size
section
variable {w0 w w' : World} {s t : Nat} {ks kt : List Int} {B : Nat → Prop}
theorem SS2.symm (H : SS2 w0 s t ks kt B w) : SS2 w0 t s kt ks B w := by
  obtain ⟨p, F, σ, h, evs, p2, F2, σ2, h2, evs2, a, b, c, d, e, n⟩ := H.ex
  exact ⟨⟨p2, F2, σ2, h2, evs2, p, F, σ, h, evs, b, a, d, c, fun k h1 h2 => e k h2 h1, fun b hb => ⟨(n b hb).2, (n b hb).1⟩⟩, H.lt⟩
theorem SS2.left (H : SS2 w0 s t ks kt B w) : SS w0 s ks w := by
  obtain ⟨p, F, σ, h, evs, p2, F2, σ2, h2, evs2, a, b, rfl, d, e, n⟩ := H.ex
  exact ⟨⟨p, F, σ, h, evs, a, rfl⟩, a.up, a.row.fr⟩
theorem SS2.right (H : SS2 w0 s t ks kt B w) : SS w0 t kt w := H.symm.left
theorem SS2.new (H : SS2 w0 s t ks kt B w) (hf : Fr Nil1 w w') : SS2 w0 s t ks kt B w' := by
  obtain ⟨p, F, σ, h, evs, p2, F2, σ2, h2, evs2, a, b, c, d, e, n⟩ := H.ex
  exact ⟨⟨p, F, σ, h, evs, p2, F2, σ2, h2, evs2, a.new hf, b.new hf, c, d, e, n⟩, fun b hb => by have := H.lt b hb; have := hf.size; omega⟩
/-- A set that is made anew stands beside. -/
theorem SSP.andNew {w1 : World} (H : SSP w0 s ks B w) {p2 : Nat} {F2 : PF} {σ2 : List (Option Int)} {h2 : Nat} {evs2 : List Ev} (H2 : SetS w t p2 F2 σ2 h2 evs2 w1) (hf : Fr Nil1 w w1) : SS2 w0 s t ks (its σ2) B w1 := by
  have hfr := H.ss.fr
  obtain ⟨p, F, σ, h, evs, a, rfl, n⟩ := H.ex
  exact ⟨⟨p, F, σ, h, evs, p2, F2, σ2, h2, evs2, a.new hf, H2.base hfr, rfl, rfl, fun k h1 h2 => by have := a.lt k h1; have := H2.geB k h2; omega, fun b hb => ⟨n b hb, fun h2 => by have := H.lt b hb; have := H2.geB b h2; omega⟩⟩, fun b hb => by have := H.lt b hb; have := hf.size; omega⟩
theorem SSP.fresh {B' : Nat → Prop} (H : SSP w0 s ks B w) (hf : Fr Nil1 w w') (hB : ∀ b, B' b → B b ∨ (w.heap.size ≤ b ∧ b < w'.heap.size)) : SSP w0 s ks B' w' := by
  have hs := hf.size
  obtain ⟨p, F, σ, h, evs, a, e, n⟩ := H.ex
  refine ⟨⟨p, F, σ, h, evs, a.new hf, e, fun b hb hk => ?_⟩, fun b hb => ?_⟩
  · rcases hB b hb with g | g
    · exact n b g hk
    · have := a.lt b hk; omega
  · rcases hB b hb with g | g
    · have := H.lt b g; omega
    · exact g.2
theorem SS2.insert (H : SS2 w0 s t ks kt B w) (hT : ks.length < 2560) (key : Int) :
    Calls Tryz.prog 39 #[.pointer (some ⟨s, 0, none⟩), .int .i64 key] w fun e w' => ∃ (S : St) (er : Int), e = .returned (.tuple #[.agg #[.int .i64 S.k, .int .i64 S.f, .int .i64 S.s, .int .i64 S.c], .int .i64 er]) ∧ (er = 0 ∨ er = 15) ∧ Hid (SS2 w0 s t (putA ks key) kt B w' ∧ ∀ b, B b → w'.heap[b]? = w.heap[b]?) := by
  have hlt := H.lt
  obtain ⟨p, F, σ, h, evs, p2, F2, σ2, h2, evs2, a, b, rfl, rfl, d, n⟩ := H.ex
  refine (setInsert_any a (Nat.le_of_lt hT) key).mono ?_
  rintro e w' ⟨S, er, rfl, H2⟩
  obtain ⟨F', σ', h', evs', hS, hQ, hm, hf⟩ := H2.out
  have hq : InsK (its σ) key S er (its σ') := by
    cases hQ with
    | ok bh seg next v ev hm hl hb hs hc he k =>
      obtain ⟨_, _, _, _, _, hst, _⟩ := k.step
      exact .ok hm hl (stepO_kind hst) he (by rw [k.items]; exact putK_at hc)
    | there hm he hS hσ hh => exact .there hm hS he (by rw [hσ])
    | full hm hT he hS hσ hh => exact .full hm hT hS he (by rw [hσ])
  obtain ⟨q1, q2⟩ := hq.put hT
  refine ⟨S, er, rfl, q1, hid ⟨⟨⟨p, F', σ', h', evs', p2, F2, σ2, h2, evs2, hS, b.frS hf (fun k hk => ⟨d k (.inl hk), a.geB k (.inl hk)⟩), q2, rfl, fun k h1 h2 => ?_, fun c hc => ⟨fun h1 => ?_, (n c hc).2⟩⟩, fun c hc => by have := hlt c hc; have := hf.size; omega⟩, fun c hc => hf.block c (hlt c hc) (fun g => absurd (.inl g) (n c hc).1)⟩⟩
  · rcases h1 with g | g
    · rcases hm k g with g | g
      · exact d k (.inl g) h2
      · have := b.lt k h2; omega
    · exact d k (.inr g) h2
  · rcases h1 with g | g
    · rcases hm c g with g | g
      · exact (n c hc).1 (.inl g)
      · have := hlt c hc; omega
    · exact (n c hc).1 (.inr g)
theorem SS2.delete (H : SS2 w0 s t ks kt B w) (hT : ks.length ≤ 2560) (key : Int) :
    Calls Tryz.prog 38 #[.pointer (some ⟨s, 0, none⟩), .int .i64 key] w fun e w' => ∃ (S : St) (er : Int), e = .returned (.tuple #[.agg #[.int .i64 S.k, .int .i64 S.f, .int .i64 S.s, .int .i64 S.c], .int .i64 er]) ∧ (er = 0 ∨ er = 14) ∧ Hid (SS2 w0 s t (delA ks key) kt B w' ∧ ∀ b, B b → w'.heap[b]? = w.heap[b]?) := by
  have hlt := H.lt
  obtain ⟨p, F, σ, h, evs, p2, F2, σ2, h2, evs2, a, b, rfl, rfl, d, n⟩ := H.ex
  refine (setDelete_any a hT key).mono ?_
  rintro e w' ⟨S, er, rfl, H2⟩
  obtain ⟨F', σ', h', evs', hS, hQ, hm, hf⟩ := H2.out
  have hq : DelK (its σ) key S er (its σ') := by
    cases hQ with
    | ok j ev hx hc he k =>
      obtain ⟨_, _, _, _, _, hst, _⟩ := k.step
      exact .ok (mem_its.2 ⟨j, hx⟩) (stepO_kind hst) he (by rw [k.items]; exact delK_at hc)
    | none hm he hS hσ hh => exact .none hm hS he (by rw [hσ])
  obtain ⟨q1, q2⟩ := hq.del
  refine ⟨S, er, rfl, q1, hid ⟨⟨⟨p, F', σ', h', evs', p2, F2, σ2, h2, evs2, hS, b.frS hf (fun k hk => ⟨d k (.inl hk), a.geB k (.inl hk)⟩), q2, rfl, fun k h1 h2 => ?_, fun c hc => ⟨fun h1 => ?_, (n c hc).2⟩⟩, fun c hc => by have := hlt c hc; have := hf.size; omega⟩, fun c hc => hf.block c (hlt c hc) (fun g => absurd (.inl g) (n c hc).1)⟩⟩
  · rcases h1 with g | g
    · rcases hm k g with g | g
      · exact d k (.inl g) h2
      · have := b.lt k h2; omega
    · exact d k (.inr g) h2
  · rcases h1 with g | g
    · rcases hm c g with g | g
      · exact (n c hc).1 (.inl g)
      · have := hlt c hc; omega
    · exact (n c hc).1 (.inr g)
end
theorem SS.keysR {w0 w : World} {s : Nat} {ks : List Int} (H : SS w0 s ks w) : Calls Tryz.prog 37 #[.pointer (some ⟨s, 0, none⟩)] w fun e w' => ∃ v, e = .returned v ∧ Hid (RowI w' w.heap.size v ks ∧ Fr Nil1 w w') := by
  obtain ⟨p, F, σ, h, evs, a, rfl⟩ := H.ex
  exact setKeys_any a
theorem RowI.same {w w' : World} {base : Nat} {v : Value} {xs : List Int} (h : RowI w base v xs) (hb : ∀ g, v.ownBlock = some g → w'.heap[g]? = w.heap[g]?) : RowI w' base v xs := by
  refine ⟨h.1, ?_⟩
  rcases h.2 with h2 | ⟨g, cap, cur, hv, hg, hh, r⟩
  · exact .inl h2
  · exact .inr ⟨g, cap, cur, hv, hg, (hb g (by rw [hv]; rfl)).trans hh, r⟩
section
variable {w0 w : World} {s p : Nat} {F : PF} {σ : List (Option Int)} {h : Nat} {evs : List Ev}
theorem Dn.none (H : Dn σ h) (he : its σ = []) : h = 2 := by
  rcases Nat.lt_or_ge 2 h with g | g
  · exfalso
    have h0 : 0 < 2 ^ h := Nat.pow_pos (by omega)
    have := H.lo g 0 h0
    have h1 := cntOn_seg σ 0
    have h2 := cntOn_le_of (onOf σ) (show 8 * (0 + 1) ≤ σ.length by have := H.len; omega)
    have h3 := its_length σ
    rw [he] at h3
    simp at h3
    omega
  · have := H.h2; omega
end
end Go.Proofs.YtmbkmojekpkfhaaGreatDoor
