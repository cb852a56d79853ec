/- In one: W3, W4, W5. -/
import Derived.OwnWalk
import Derived.Test.YtechphliifginaaGreatDoorGG
import Derived.Test.YtechphliifginaaGreatDoorGD
import Derived.Test.YtechphliifginaaGreatDoorGK
import Derived.Test.YtechphliifginaaGreatDoorGC
/- size: empty. -/
set_option linter.unusedVariables false
set_option linter.unusedSimpArgs false
namespace Go.Proofs.YtechphliifginaaGreatDoor
open Go.RowKit

theorem RowI.own_lt {w : World} {base : Nat} {v : Value} {xs : List Int} (h : RowI w base v xs) : ∀ g, v.ownBlock = some g → g < w.heap.size ∧ base ≤ g := by
  intro g e
  rcases h.2 with ⟨rfl, _⟩ | ⟨g', cap, cur, rfl, hb, hh, _⟩
  · simp [Value.ownBlock] at e
  · obtain rfl : g' = g := by simpa [Value.ownBlock] using e
    exact ⟨(Array.getElem?_eq_some_iff.1 hh).1, hb⟩
theorem RowI.frO {S : Nat → Prop} {w w' : World} {base : Nat} {v : Value} {xs : List Int} (h : RowI w base v xs) (hf : Fr S w w') (hS : ∀ g, v.ownBlock = some g → ¬ S g) : RowI w' base v xs := by
  refine ⟨h.1, ?_⟩
  rcases h.2 with h2 | ⟨g, cap, cur, hv, hg, hh, r⟩
  · exact .inl h2
  · refine .inr ⟨g, cap, cur, hv, hg, (hf.block g (Array.getElem?_eq_some_iff.1 hh).1 (fun s => (hS g (by rw [hv]; rfl) s).elim)).trans hh, r⟩
set_option maxRecDepth 100000 in
set_option maxHeartbeats 1000000 in
theorem sizeEmpty_ok (n h : Nat) (h2 : 2 ≤ h) (h9 : h ≤ 9) (hn : n ≤ 8 * 2 ^ h) (w : World) (hg : GW w) :
    Calls Tryz.prog 177 #[.int .i64 n, .int .i64 (8 * 2 ^ h : Nat)] w fun e w' => ∃ (f : SF) (v : Value), e = .returned (.tuple #[.pointer (some ⟨f.s, 0, none⟩), v, .int .i64 0]) ∧
      SlotsR w' f (List.replicate (8 * 2 ^ h) none) ∧ RowI w' w.heap.size v (plcL n 0 (2 ^ h)) ∧ Fr Nil1 w w' ∧ (∀ k, f.mem k → w.heap.size ≤ k) ∧ ∀ k, f.mem k → v.ownBlock ≠ some k := by
  have HSg := hid (fun w => levelSegs_ok h h2 h9 w)
  have hz : 2 ^ h ≤ 512 := Nat.pow_le_pow_right (n := 2) (by omega) h9
  have hz0 : 0 < 2 ^ h := Nat.pow_pos (by omega)
  have HPl := hid (spPlacesL_any n 0 (2 ^ h) hz0 hz hn (by omega) w hg.size)
  have HNw := hid (fun w' (hf : Fr Nil1 w w') => gapsNew_ok ((8 * 2 ^ h : Nat) : Int) w' (by omega) (by omega) (hg.fr hf))
  rw [Int.toNat_natCast] at HNw
  have HG := hid hg
  clear hg
  generalize 2 ^ h = Z at *
  have e9 : ((8 * Z : Nat) : Int) = 8 * (Z : Int) := by omega
  rw [e9] at HSg HNw ⊢
  have hgt : ¬ 8 * (Z : Int) < (n : Int) := by omega
  clear e9
  go_enter Tryz.func177, Tryz.ntmps177
  go_wp2_with (first
    | (go_at_call 92; refine (HSg.out _).mono ?_; rintro e w1 ⟨rfl, rfl⟩)
    | (go_at_call 176; refine HPl.out.mono ?_; rintro e w2 ⟨v, rfl, hR, hF⟩; have H2 := hid (And.intro hR hF); clear hR hF)
    | (go_at_call 69; refine (HNw.out w2 H2.out.2).mono ?_; rintro e w3 ⟨f, rfl, hS, hF, hm⟩; have H3 := hid (And.intro hS (And.intro hF hm)); clear hS hF hm))
  go_ret3
  exact ⟨f, v, rfl, H3.out.1, H2.out.1.new H3.out.2.1, H2.out.2.trans H3.out.2.1, fun k hk => Nat.le_trans H2.out.2.size (H3.out.2.2 k hk), fun k hk e => by
    have a := (H2.out.1.own_lt k e).1
    have b := H3.out.2.2 k hk
    omega⟩
end Go.Proofs.YtechphliifginaaGreatDoor

/- Plain: elements laid at their places, one by one; who is told of it. -/
set_option linter.unusedVariables false
set_option linter.unusedSimpArgs false
namespace Go.Proofs.YtechphliifginaaGreatDoor
open Go.RowKit

/-- The first so many places hold these elements, all other slots are free. -/
structure LayI (N : Nat) (ps vs : List Int) (τ : List (Option Int)) : Prop where
  len : τ.length = N
  le : vs.length ≤ ps.length
  pos : ∀ i, i < vs.length → τ.getD (ps.getD i 0).toNat none = some (vs.getD i 0)
  off : ∀ k : Nat, (∀ i, i < vs.length → ps.getD i 0 ≠ (k : Int)) → τ.getD k none = none
theorem LayI.start (N : Nat) (ps : List Int) : LayI N ps [] (List.replicate N none) :=
  ⟨by simp, by simp, fun i hi => by simp at hi, fun k _ => by
    rw [List.getD_eq_getElem?_getD, List.getElem?_replicate]; split <;> rfl⟩
theorem LayI.free {N : Nat} {ps vs : List Int} {τ : List (Option Int)} (h : LayI N ps vs τ) (hp : PlOK ps 0 N) (hv : vs.length < ps.length) : ∃ q : Nat, ps.getD vs.length 0 = (q : Int) ∧ q < N ∧ onOf τ q = false := by
  have h1 := hp.lo _ (getD_mem hv)
  have h2 := hp.hi _ (getD_mem hv)
  obtain ⟨q, hq⟩ : ∃ q : Nat, ps.getD vs.length 0 = (q : Int) := ⟨(ps.getD vs.length 0).toNat, by omega⟩
  refine ⟨q, hq, by omega, onOf_none_iff.2 (h.off q (fun i hi e => ?_))⟩
  have := pw_getD hp.up hi hv
  omega
theorem getD_snoc (vs : List Int) (x : Int) (i : Nat) : (vs ++ [x]).getD i 0 = if i = vs.length then x else vs.getD i 0 := by
  rw [List.getD_eq_getElem?_getD, List.getD_eq_getElem?_getD]
  by_cases h : i = vs.length
  · subst h; rw [if_pos rfl, List.getElem?_append_right (Nat.le_refl _)]; simp
  · rw [if_neg h]
    rcases Nat.lt_or_ge i vs.length with g | g
    · rw [List.getElem?_append_left g]
    · rw [List.getElem?_append_right g, List.getElem?_eq_none (by simp; omega), List.getElem?_eq_none g]
theorem LayI.step {N : Nat} {ps vs : List Int} {τ : List (Option Int)} (h : LayI N ps vs τ) (hp : PlOK ps 0 N) (hv : vs.length < ps.length) (x : Int) {q : Nat} (hq : ps.getD vs.length 0 = (q : Int)) : LayI N ps (vs ++ [x]) (τ.set q (some x)) := by
  have h2 := hp.hi _ (getD_mem hv)
  have hqN : q < τ.length := by rw [h.len]; omega
  refine ⟨by rw [List.length_set]; exact h.len, by rw [List.length_append]; exact hv, fun i hi => ?_, fun k hk => ?_⟩
  · rw [List.length_append, List.length_singleton] at hi
    rw [getD_setO _ _ _ _ hqN, getD_snoc]
    by_cases e : i = vs.length
    · rw [if_pos e, e, hq, if_pos (by simp)]
    · have hlt := pw_getD hp.up (show i < vs.length by omega) hv
      have h0 := hp.lo _ (getD_mem (show i < ps.length by omega))
      rw [if_neg (by omega), if_neg e]
      exact h.pos i (by omega)
  · rw [getD_setO _ _ _ _ hqN]
    rw [List.length_append, List.length_singleton] at hk
    rw [if_neg (fun e => hk vs.length (by omega) (by rw [hq, e]))]
    exact h.off k (fun i hi => hk i (by omega))
theorem LayI.on {N : Nat} {ps vs : List Int} {τ : List (Option Int)} (h : LayI N ps vs τ) (hp : PlOK ps 0 N) (hv : vs.length = ps.length) (k : Nat) : onOf τ k = true ↔ (k : Int) ∈ ps := by
  constructor
  · intro hk
    by_cases hh : ∃ i, i < vs.length ∧ ps.getD i 0 = (k : Int)
    · obtain ⟨i, h1, h2⟩ := hh
      exact mem_getD.2 ⟨i, by omega, h2⟩
    · have := h.off k (fun i hi e => hh ⟨i, hi, e⟩)
      rw [onOf_none_iff.2 this] at hk
      cases hk
  · intro hk
    obtain ⟨i, h1, h2⟩ := mem_getD.1 hk
    have := h.pos i (by omega)
    rw [h2, Int.toNat_natCast] at this
    exact onOf_some this
theorem LayI.done {n segs : Nat} {vs : List Int} {τ : List (Option Int)} (h0 : 0 < segs) (hn : vs.length = n) (hle : n ≤ 8 * segs) (h : LayI (8 * segs) (plcL n 0 segs) vs τ) : LaidR vs segs τ := by
  have hp := plcL_ok n 0 segs h0 hle
  rw [Nat.mul_zero] at hp
  have hl := plcL_length n 0 segs h0
  have hon := h.on hp (by rw [hl]; exact hn)
  have hrank : ∀ i, i < n → cntOn (onOf τ) ((plcL n 0 segs).getD i 0).toNat = i := by
    intro i hi
    have hb := hp.lo _ (getD_mem (show i < (plcL n 0 segs).length by omega))
    have := cnt_list (onOf τ) ((plcL n 0 segs).take i) 0 ((plcL n 0 segs).getD i 0).toNat (hp.up.sublist (List.take_sublist _ _)) (fun p hpm => by
      obtain ⟨j, hj, rfl⟩ := mem_getD.1 hpm
      rw [List.length_take] at hj
      have e : ((plcL n 0 segs).take i).getD j 0 = (plcL n 0 segs).getD j 0 := by
        rw [List.getD_eq_getElem?_getD, List.getD_eq_getElem?_getD, List.getElem?_take_of_lt (by omega)]
      rw [e]
      have := pw_getD hp.up (show j < i by omega) (by omega)
      have := hp.lo _ (getD_mem (show j < (plcL n 0 segs).length by omega))
      omega) (fun k _ hk => by
      rw [hon k]
      constructor
      · intro hm
        obtain ⟨j, hj, hje⟩ := mem_getD.1 hm
        have hji : j < i := by
          rcases Nat.lt_or_ge j i with g | g
          · exact g
          · rcases Nat.eq_or_lt_of_le g with g | g
            · subst g; omega
            · have := pw_getD hp.up g hj; omega
        exact mem_getD.2 ⟨j, by rw [List.length_take]; omega, by
          rw [List.getD_eq_getElem?_getD, List.getElem?_take_of_lt hji, ← List.getD_eq_getElem?_getD]; exact hje⟩
      · exact fun hm => List.mem_of_mem_take hm) (by omega)
    rw [this, List.length_take]
    show 0 + _ = _
    omega
  have hlen : (its τ).length = vs.length := by
    rw [its_length, h.len]
    have := cnt_list (onOf τ) (plcL n 0 segs) 0 (8 * segs) hp.up (fun p hpm => ⟨by have := hp.lo p hpm; omega, by have := hp.hi p hpm; omega⟩) (fun k _ _ => hon k) (by omega)
    rw [this, hl]
    show 0 + n = _
    omega
  refine ⟨h.len, ?_, fun k hk => by rw [hn]; exact hon k⟩
  apply List.ext_getElem hlen
  intro i h1 h2
  have e1 := its_get τ _ _ (h.pos i h2)
  rw [hrank i (by omega)] at e1
  rw [List.getElem?_eq_getElem h1] at e1
  have := Option.some.inj e1
  rw [this]
  simp [List.getD_eq_getElem?_getD, List.getElem?_eq_getElem h2]

theorem idxOf_get : ∀ (l : List Int), l.Nodup → ∀ k (hk : k < l.length), l.idxOf l[k] = k
  | [], _, k, hk => by simp at hk
  | a :: l, h, 0, hk => by simp [List.idxOf_cons]
  | a :: l, h, k + 1, hk => by
    have h2 := List.nodup_cons.1 h
    have hk' : k < l.length := by simpa using hk
    have ne : (a == l[k]) = false := by
      rw [beq_eq_false_iff_ne]
      rintro rfl
      exact h2.1 (List.getElem_mem _)
    show (a :: l).idxOf l[k] = k + 1
    rw [List.idxOf_cons, ne, idxOf_get l h2.2 k hk']
    rfl
/-- Who is told of a row that is laid anew. -/
def resEv (ps : List Int) (l : List (Nat × Int)) : List Ev := (List.range l.length).map fun i => ((l.getD i (0, 0)).2, ((l.getD i (0, 0)).1 : Int), ps.getD i 0)
theorem resEv_snoc (ps : List Int) (l : List (Nat × Int)) (x : Nat × Int) : resEv ps (l ++ [x]) = resEv ps l ++ [(x.2, (x.1 : Int), ps.getD l.length 0)] := by
  unfold resEv
  rw [List.length_append, List.length_singleton, List.range_succ, List.map_append]
  congr 1
  · apply List.map_congr_left
    intro i hi
    have := List.mem_range.1 hi
    simp [List.getD_eq_getElem?_getD, List.getElem?_append_left this]
  · simp [List.getD_eq_getElem?_getD]
/-- A row that is laid anew: each is told where it was. -/
theorem occTo_mem {σ : List (Option Int)} : ∀ n p x, (p, x) ∈ occTo σ n → p < n ∧ σ.getD p none = some x
  | 0, p, x, h => by simp [occTo] at h
  | n + 1, p, x, h => by
    unfold occTo at h
    rcases List.mem_append.1 h with h | h
    · have := occTo_mem n p x h; exact ⟨by omega, this.2⟩
    · cases e : σ.getD n none with
      | none => rw [e] at h; simp at h
      | some y =>
        rw [e] at h
        simp at h
        rw [h.1, h.2]
        exact ⟨by omega, e⟩
theorem resEv_knows {σ τ : List (Option Int)} {n segs : Nat} (hn : (occ σ).length = n) (h0 : 0 < segs) (hle : n ≤ 8 * segs) (h : LaidR (its σ) segs τ) (pos : Int → Int) (hk : Knows pos σ) :
    legit pos (resEv (plcL n 0 segs) (occ σ)) ∧ Knows (runEv pos (resEv (plcL n 0 segs) (occ σ))) τ := by
  have hil : (its σ).length = n := by unfold its; rw [List.length_map]; exact hn
  have hdist : (its σ).Nodup := by
    have key : ∀ m, (itsTo σ m).Nodup := by
      intro m
      induction m with
      | zero => exact List.nodup_nil
      | succ m ih =>
        cases e : σ.getD m none with
        | none => rw [itsTo_none _ _ e]; exact ih
        | some x =>
          rw [itsTo_some _ _ x e]
          refine List.nodup_append.2 ⟨ih, by simp, fun a ha b hb => ?_⟩
          have := List.mem_singleton.1 hb
          subst this
          rintro rfl
          obtain ⟨⟨p, y⟩, h1, h2⟩ := List.mem_map.1 ha
          obtain ⟨h3, h4⟩ := occTo_mem m p y h1
          simp at h2
          subst h2
          have := hk.uniq h4 e
          omega
    exact key _
  have main : ∀ k, k ≤ n → legit pos (resEv (plcL n 0 segs) ((occ σ).take k)) ∧ (∀ y, runEv pos (resEv (plcL n 0 segs) ((occ σ).take k)) y = if y ∈ (its σ).take k then (plcL n 0 segs).getD ((its σ).idxOf y) 0 else pos y) := by
    intro k
    induction k with
    | zero => intro _; simp [resEv, legit, runEv]
    | succ k ih =>
      intro hkn
      obtain ⟨a, b⟩ := ih (by omega)
      have hlt : k < (occ σ).length := by omega
      have hlt2 : k < (its σ).length := by omega
      obtain ⟨p, x, hpx⟩ : ∃ p x, (occ σ)[k] = (p, x) := ⟨_, _, rfl⟩
      have hix : (its σ)[k] = x := by simp [its, hpx]
      obtain ⟨_, hσ⟩ := occTo_mem σ.length p x (by rw [← hpx]; exact List.getElem_mem hlt)
      have htk : (occ σ).take (k + 1) = (occ σ).take k ++ [(p, x)] := by rw [List.take_succ_eq_append_getElem hlt, hpx]
      have htl : ((occ σ).take k).length = k := by rw [List.length_take]; omega
      have hti : (its σ).take (k + 1) = (its σ).take k ++ [x] := by rw [List.take_succ_eq_append_getElem hlt2, hix]
      have hnot : x ∉ (its σ).take k := by
        intro hm
        have := hdist.sublist (List.take_sublist (k + 1) _)
        rw [hti] at this
        have := (List.nodup_append.1 this).2.2 x hm x (by simp)
        exact this rfl
      have hidx : (its σ).idxOf x = k := by
        have := idxOf_get _ hdist k hlt2
        rwa [hix] at this
      rw [htk, resEv_snoc, htl]
      refine ⟨(legit_append _ _ _).2 ⟨a, ?_, trivial⟩, fun y => ?_⟩
      · show runEv pos _ x = (p : Int)
        rw [b x, if_neg hnot]
        exact (hk x).1 p hσ
      · rw [runEv_append]
        show updI _ x _ y = _
        unfold updI
        rw [hti]
        by_cases e : y = x
        · subst e
          rw [if_pos rfl, if_pos (by simp), hidx]
        · rw [if_neg e, b y]
          have : y ∈ (its σ).take k ++ [x] ↔ y ∈ (its σ).take k := by simp [e]
          simp only [this]
  obtain ⟨a, b⟩ := main n (Nat.le_refl _)
  rw [List.take_of_length_le (by omega)] at a b
  rw [List.take_of_length_le (by omega)] at b
  refine ⟨a, fun y => ⟨fun i hi => ?_, fun hne => ?_⟩⟩
  · have h1 := its_get τ i y hi
    rw [h.items] at h1
    have hm : y ∈ its σ := List.mem_of_getElem? h1
    rw [b y, if_pos hm]
    obtain ⟨hc, hce⟩ := List.getElem?_eq_some_iff.1 h1
    have hidx : (its σ).idxOf y = cntOn (onOf τ) i := by
      have := idxOf_get _ hdist _ hc
      rwa [hce] at this
    rw [hidx]
    have hp := plcL_ok n 0 segs h0 hle
    have hon := (h.on i (by rw [← h.len]; exact getD_lt hi)).1 (onOf_some hi)
    rw [hil] at hon
    obtain ⟨j, hj, hje⟩ := mem_getD.1 hon
    have hrank : cntOn (onOf τ) i = j := by
      have := cnt_list (onOf τ) ((plcL n 0 segs).take j) 0 i (hp.up.sublist (List.take_sublist _ _)) (fun p hpm => by
        obtain ⟨m, hm, rfl⟩ := mem_getD.1 hpm
        rw [List.length_take] at hm
        have e : ((plcL n 0 segs).take j).getD m 0 = (plcL n 0 segs).getD m 0 := by
          rw [List.getD_eq_getElem?_getD, List.getD_eq_getElem?_getD, List.getElem?_take_of_lt (by omega)]
        rw [e]
        have := pw_getD hp.up (show m < j by omega) (by omega)
        have := hp.lo _ (getD_mem (show m < (plcL n 0 segs).length by omega))
        omega) (fun k _ hk => by
        have := h.on k (by have := getD_lt hi; rw [h.len] at this; omega)
        rw [hil] at this
        rw [this]
        constructor
        · intro hm
          obtain ⟨m, hm, hme⟩ := mem_getD.1 hm
          have hmj : m < j := by
            rcases Nat.lt_or_ge m j with g | g
            · exact g
            · rcases Nat.eq_or_lt_of_le g with g | g
              · subst g; omega
              · have := pw_getD hp.up g hm; omega
          exact mem_getD.2 ⟨m, by rw [List.length_take]; omega, by
            rw [List.getD_eq_getElem?_getD, List.getElem?_take_of_lt hmj, ← List.getD_eq_getElem?_getD]; exact hme⟩
        · exact fun hm => List.mem_of_mem_take hm) (by omega)
      rw [this, List.length_take]
      show 0 + _ = _
      omega
    rw [hrank, hje]
  · have hm : y ∉ its σ := by
      rw [← h.items]
      intro hm
      obtain ⟨⟨p, z⟩, h1, h2⟩ := List.mem_map.1 hm
      simp at h2
      subst h2
      exact hne p (occTo_mem _ p z h1).2
    rw [b y, if_neg hm]
    refine (hk y).2 (fun i hi => hm ?_)
    have := its_get σ i y hi
    exact List.mem_of_getElem? this
end Go.Proofs.YtechphliifginaaGreatDoor

/- size: Resize. -/
set_option linter.unusedVariables false
set_option linter.unusedSimpArgs false
namespace Go.Proofs.YtechphliifginaaGreatDoor
open Go.RowKit Go.Shelf
attribute [local go_sem] Oper.semAt_some

theorem KeepsFrom.of_fr {S : Nat → Prop} {A B : World} {M : Nat} (h : Fr S A B) (hS : ∀ k, M ≤ k → ¬ S k) : KeepsFrom M A B :=
  ⟨h.size, fun k o hM ho _ => (h.block k (Array.getElem?_eq_some_iff.1 ho).1 (fun s => (hS k hM s).elim)).trans ho⟩
theorem Teller.grown {g : FuncId} {bnd cps : Array Value} {B : Nat → Prop} {J : List Ev → World → Prop} (T : Teller g bnd cps B J) {evs : List Ev} {w w' : World} {row : Option Nat} (hJ : J evs w) (hg : w.grownBy w' row) (hr : ∀ r, row = some r → NG ≤ r ∧ ¬ B r) : J evs w' :=
  T.keep evs w w' (fun k => row = some k) hJ ((Fr.refl _ w).grown hg (fun k e => (hr k e).1) (fun k e _ => e)) (fun k e => (hr k e).2)

/-- What a round of laying anew holds. -/
structure ResW (w0 : World) (f2 : SF) (σ2len : Nat) (bO bP bK bT bR bE : Nat) (v told : Value) (ps : List Int) (base : Nat) (B : Nat → Prop) (J : List Ev → World → Prop) (evs0 : List Ev) (pre : List (Nat × Int)) (W : World) : Prop where
  o : Has W bO [.pointer (some ⟨f2.s, 0, none⟩)] 31
  p : Has W bP [v] 30
  k : Has W bK [.int .i64 (pre.length : Nat)] 3
  t : Has W bT [told] 26
  r : Has W bR [.pointer none] 31
  e : Has W bE [.int .i64 0] 36
  row : RowI W base v ps
  sl : ∃ τ, LayI σ2len ps (pre.map (·.2)) τ ∧ SlotsR W f2 τ
  j : J (evs0 ++ resEv ps pre) W
  fr : Fr B w0 W

set_option maxRecDepth 100000 in
set_option maxHeartbeats 4000000 in
theorem sizeResize_ok {f : SF} {σ : List (Option Int)} {g : FuncId} {bnd cps : Array Value} {B : Nat → Prop} {J : List Ev → World → Prop} (T : Teller g bnd cps B J) {w : World} {evs : List Ev} (H : SlotsR w f σ) (hJ : J evs w)
    (hB : ∀ k, B k → ¬ f.mem k ∧ k < w.heap.size ∧ NG ≤ k) (h : Nat) (h2 : 2 ≤ h) (h9 : h ≤ 9) (hn : (occ σ).length ≤ 8 * 2 ^ h) :
    Calls Tryz.prog 140 #[.pointer (some ⟨f.s, 0, none⟩), .int .i64 (8 * 2 ^ h : Nat), .func (.func g) bnd cps] w fun e w' => ∃ f2 : SF, e = .returned (.tuple #[.pointer (some ⟨f2.s, 0, none⟩), .int .i64 0]) ∧
      (∃ τ, LaidR (its σ) (2 ^ h) τ ∧ SlotsR w' f2 τ) ∧ J (evs ++ resEv (plcL (occ σ).length 0 (2 ^ h)) (occ σ)) w' ∧ Fr B w w' ∧ ∀ k, f2.mem k → w.heap.size ≤ k := by
  refine (callsIn_wide (n := 3)).1 ?_
  have hG := H.g.size
  have hlt := H.lt
  have hcnt : cntOn (onOf σ) σ.length = (occ σ).length := by rw [← its_length]; simp [its]
  have HLn := hid (fun w' (hf : Fr Nil1 w w') => hcnt ▸ gapsLen_any (H.new hf))
  have hz : 2 ^ h ≤ 512 := Nat.pow_le_pow_right (n := 2) (by omega) h9
  have hz0 : 0 < 2 ^ h := Nat.pow_pos (by omega)
  have hpll := plcL_length (occ σ).length 0 (2 ^ h) hz0
  have hEm := (fun w' (hf : Fr Nil1 w w') => (sizeEmpty_ok (occ σ).length h h2 h9 hn w' (H.g.fr hf)).mono (fun e w2 hh => show ∃ (f2 : SF) (A : Option Addr) (cc : Nat), e = .returned (.tuple #[.pointer (some ⟨f2.s, 0, none⟩), .slice A (occ σ).length cc, .int .i64 0]) ∧
      Hid (SlotsR w2 f2 (List.replicate (8 * 2 ^ h) none) ∧ RowI w2 w'.heap.size (.slice A (occ σ).length cc) (plcL (occ σ).length 0 (2 ^ h)) ∧ Fr Nil1 w' w2 ∧ (∀ k, f2.mem k → w'.heap.size ≤ k) ∧ ∀ k, f2.mem k → (Value.slice A (occ σ).length cc).ownBlock ≠ some k) from by
    obtain ⟨f2, v, he, h1, h2, h3, h4, h5⟩ := hh
    obtain ⟨A, cc, hv, _, _⟩ := h2.rd (by rw [hpll]; omega)
    rw [ints'_length, hpll] at hv
    subst hv
    exact ⟨f2, A, cc, he, hid ⟨h1, h2, h3, h4, h5⟩⟩))
  have HT := hid T
  have HH := hid H
  have HB := hid hB
  have HJ := hid hJ
  have e9 : ((8 * 2 ^ h : Nat) : Int) = 8 * ((2 ^ h : Nat) : Int) := by omega
  have HE9 := hid e9
  have HPlL := hid hpll
  have hpok := plcL_ok (occ σ).length 0 (2 ^ h) hz0 hn
  rw [Nat.mul_zero] at hpok
  have HPok := hid hpok
  have HDn := hid (fun vs τ => LayI.done (n := (occ σ).length) (segs := 2 ^ h) (vs := vs) (τ := τ) hz0)
  have F0 := hid (show Fr Nil1 w (((w.alloc (.cells #[.func (.func g) bnd cps] 26)).alloc (.cells #[.pointer none] 31)).alloc (.cells #[.int .i64 0] 36)) from (((Fr.refl _ _).alloc _).alloc _).alloc _)
  have HB0 := hid (show ∀ w0, (((w.alloc (.cells #[.func (.func g) bnd cps] 26)).alloc (.cells #[.pointer none] 31)).alloc (.cells #[.int .i64 0] 36)) = w0 → Has w0 w.heap.size [.func (.func g) bnd cps] 26 ∧ Has w0 (w.heap.size + 1) [.pointer none] 31 ∧ Has w0 (w.heap.size + 2) [.int .i64 0] 36 from by
    rintro w0 rfl
    have b1 := ((Has.new w [.func (.func g) bnd cps] 26).alloc (.cells #[.pointer none] 31)).alloc (.cells #[.int .i64 0] 36)
    have b2 := (Has.new (w.alloc (.cells #[.func (.func g) bnd cps] 26)) [.pointer none] 31).alloc (.cells #[.int .i64 0] 36)
    have b3 := Has.new ((w.alloc (.cells #[.func (.func g) bnd cps] 26)).alloc (.cells #[.pointer none] 31)) [.int .i64 0] 36
    simp only [World.size_alloc] at b2 b3
    exact ⟨b1, b2, b3⟩)
  clear T H hJ hB hcnt e9 hpok hpll
  have hent := hid (enters_of Tryz.func75 (by kernel_rfl) rfl)
  have he : ∀ W : World, (binOp .eql 26 (.func (.func g) bnd cps) Value.nilFunc).run Tryz.prog W = .ok (.bool false) W := fun _ => rfl
  obtain ⟨y, hy⟩ : ∃ y : Int, ((8 * 2 ^ h : Nat) : Int) = y := ⟨_, rfl⟩
  rw [hy] at hEm ⊢
  have HEm := hid hEm
  clear hy hEm HE9
  generalize hps : plcL (occ σ).length 0 (2 ^ h) = ps at *
  generalize hnn : (occ σ).length = n at *
  have HNN := hid hnn
  clear hps hnn
  (refine callsIn_of_wp_marks Tryz.func140 rfl trivial ?_ rfl; simp only [Tryz.ntmps140, List.size_toArray, List.length_cons, List.length_nil, Nat.reduceAdd, Nat.reduceSub, Array.replicate_succ, Array.replicate_zero, List.push_toArray, List.append_toArray, List.nil_append, List.cons_append])
  gi_wp2_with (first
    | ((first | refine ⟨trivial, wideNo, ?_⟩ | refine ⟨trivial, ?_⟩); gi_at_call 78; refine (callsIn_wide.2 (HLn.out _ F0.out)).mono ?_; rintro e w1 ⟨rfl, rfl⟩)
    | ((first | refine ⟨trivial, wideNo, ?_⟩ | refine ⟨trivial, ?_⟩); gi_at_call 177; refine (callsIn_wide.2 (HEm.out _ F0.out)).mono ?_; rintro e w2 ⟨f2, A, cc, rfl, H2⟩; have B2 := hid (And.intro ((HB0.out _ rfl).1.fr' H2.out.2.2.1 id) (And.intro ((HB0.out _ rfl).2.1.fr' H2.out.2.2.1 id) ((HB0.out _ rfl).2.2.fr' H2.out.2.2.1 id))); obtain ⟨t0, tf⟩ := B2.out.1.one; have hl2 := B2.out.1.lt; have hl3 := B2.out.2.2.lt)
    | ((first | refine ⟨trivial, wideNo, ?_⟩ | refine ⟨trivial, ?_⟩); gi_at_call 72; refine (callsIn_wide.2 (gapsAll_any f.s _)).mono ?_; rintro e w3 ⟨rfl, rfl⟩))
  have hb0 := (((Has.new w2 [.pointer (some ⟨f2.s, 0, none⟩)] 31).alloc (.cells #[.slice A n cc] 30)).alloc (.cells #[.int .i64 0] 3)).alloc (.cells #[.pointer (some ⟨f.s, 0, none⟩)] 31)
  have hb1 := ((Has.new (w2.alloc (.cells #[.pointer (some ⟨f2.s, 0, none⟩)] 31)) [.slice A n cc] 30).alloc (.cells #[.int .i64 0] 3)).alloc (.cells #[.pointer (some ⟨f.s, 0, none⟩)] 31)
  have hb2 := (Has.new ((w2.alloc (.cells #[.pointer (some ⟨f2.s, 0, none⟩)] 31)).alloc (.cells #[.slice A n cc] 30)) [.int .i64 0] 3).alloc (.cells #[.pointer (some ⟨f.s, 0, none⟩)] 31)
  have hb3 := Has.new (((w2.alloc (.cells #[.pointer (some ⟨f2.s, 0, none⟩)] 31)).alloc (.cells #[.slice A n cc] 30)).alloc (.cells #[.int .i64 0] 3)) [.pointer (some ⟨f.s, 0, none⟩)] 31
  have hfr0 : Fr Nil1 w2 ((((w2.alloc (.cells #[.pointer (some ⟨f2.s, 0, none⟩)] 31)).alloc (.cells #[.slice A n cc] 30)).alloc (.cells #[.int .i64 0] 3)).alloc (.cells #[.pointer (some ⟨f.s, 0, none⟩)] 31)) := ((((Fr.refl _ _).alloc _).alloc _).alloc _).alloc _
  simp only [World.size_alloc] at hb1 hb2 hb3
  obtain ⟨W0, hW0⟩ : ∃ W0, ((((w2.alloc (.cells #[.pointer (some ⟨f2.s, 0, none⟩)] 31)).alloc (.cells #[.slice A n cc] 30)).alloc (.cells #[.int .i64 0] 3)).alloc (.cells #[.pointer (some ⟨f.s, 0, none⟩)] 31)) = W0 := ⟨_, rfl⟩
  have hsz : W0.heap.size = w2.heap.size + 4 := by rw [← hW0]; simp
  rw [hW0] at hfr0 hb0 hb1 hb2 hb3 ⊢
  have HB2 := B2.out
  have hfm := fun k hk => (H2.out.1.lt k hk)
  have hfm2 : ∀ k, f2.mem k → w.heap.size + 3 ≤ k := fun k hk => by have := H2.out.2.2.2.1 k hk; simpa using this
  have HFw : Fr Nil1 w w2 := F0.out.trans H2.out.2.2.1
  obtain ⟨R, hR⟩ : ∃ R, w2.heap.size = R := ⟨_, rfl⟩
  obtain ⟨Q, hQ⟩ : ∃ Q, w.heap.size = Q := ⟨_, rfl⟩
  have HQ := hid hQ
  rw [hR] at hb0 hb1 hb2 hb3 hsz hl2 hl3 ⊢
  rw [hQ] at HB2 hfm2 hl2 hl3 ⊢
  have hfmR : ∀ k, f2.mem k → k < R := fun k hk => hR ▸ hfm k hk
  have hBlt : ∀ k, B k → k < Q := fun k hk => hQ ▸ (HB.out k hk).2.1
  have hBg : ∀ k, B k → NG ≤ k := fun k hk => (HB.out k hk).2.2
  have hfQ : ∀ k, f.mem k → k < Q := fun k hk => hQ ▸ hlt k hk
  have hGQ : NG ≤ Q := hQ ▸ hG
  have hrow2 : RowI w2 (Q + 3) (.slice A n cc) ps := (H2.out.2.1).mono (by simp; omega)
  have HS0 : SlotsR W0 f σ := (HH.out.new HFw).new hfr0
  have HPL := hid (HPlL.out)
  have h0 : ResW w f2 (8 * 2 ^ h) R (R + 1) (R + 1 + 1) Q (Q + 1) (Q + 1 + 1) (.slice A n cc) (.func (.func g) bnd cps) ps (Q + 3) B J evs [] W0 :=
    ⟨hb0, hb1, hb2, HB2.1.fr' hfr0 id, HB2.2.1.fr' hfr0 id, HB2.2.2.fr' hfr0 id, hrow2.new hfr0, ⟨_, LayI.start _ _, H2.out.1.new hfr0⟩, HT.out.keep _ _ _ _ (show J (evs ++ resEv ps []) w by unfold resEv; simpa using HJ.out) (HFw.trans hfr0) (fun _ h => h.elim), (HFw.trans hfr0).mono (fun _ _ h => h.elim)⟩
  clear hW0 hfm HFw hb0 hb1 hb2
  refine wpIn_rangeFunc_ownG rfl (by omega) (gf := 132) (lb := #[.pointer (some ⟨R + 1 + 1 + 1, 0, none⟩)]) rfl trivial (enters_of Tryz.func132 (by kernel_rfl) rfl)
    (gapsAll_stops _ (R + 1 + 1 + 1) f σ W0 hb3 HS0) (fun h k => h.trans k) (fun W l o o' hl ho hc hw => KeepT.putObj W0 (fun k hk => by
      rcases hk with hk | hk | hk
      · omega
      · omega
      · have := hfQ k hk; omega) W l o o' hl ho hc hw) (Below.refl _ _) (fun _ => rfl)
    (fun pre W => ResW w f2 (8 * 2 ^ h) R (R + 1) (R + 1 + 1) Q (Q + 1) (Q + 1 + 1) (.slice A n cc) (.func (.func g) bnd cps) ps (Q + 3) B J evs pre W ∧ R + 4 ≤ W.heap.size)
    (fun _ _ _ => False)
    (fun s A' B' row hs hg hrow => ⟨⟨hs.1.o.grownBy hg (fun r e => (hrow r e).2), hs.1.p.grownBy hg (fun r e => (hrow r e).2), hs.1.k.grownBy hg (fun r e => (hrow r e).2), hs.1.t.grownBy hg (fun r e => (hrow r e).2), hs.1.r.grownBy hg (fun r e => (hrow r e).2), hs.1.e.grownBy hg (fun r e => (hrow r e).2), own_grown hs.1.row hg (fun r e => (hrow r e).2), (by
        obtain ⟨τ, t1, t2⟩ := hs.1.sl
        exact ⟨τ, t1, t2.grownBy hg hrow (by omega)⟩), HT.out.grown hs.1.j hg (fun r e => ⟨by have := (hrow r e).1; omega, fun hb => by have := hBlt _ hb; have := (hrow r e).1; omega⟩), hs.1.fr.grownBy hg hrow (by omega) hG⟩, Nat.le_trans hs.2 hg.size⟩)
    (fun _ _ _ _ _ hs _ _ => hs)
    ⟨h0, by omega⟩
    (fun x => { tmps := #[.pointer (some ⟨f.s, 0, none⟩), .int .i64 y, .func (.func g) bnd cps, undef, undef, .pointer (some ⟨Q, 0, none⟩), .pointer (some ⟨Q + 1, 0, none⟩), .pointer (some ⟨Q + 1 + 1, 0, none⟩), .pointer (some ⟨R, 0, none⟩), .pointer (some ⟨R + 1, 0, none⟩), .int .i64 0, .pointer (some ⟨R + 1 + 1, 0, none⟩), .int .i64 (x.1 : Int), .int .i64 x.2, undef, .pointer (some ⟨f.s, 0, none⟩), .bool false, .tuple #[.pointer (some ⟨f2.s, 0, none⟩), .slice A n cc, .int .i64 0], .pointer (some ⟨f.s, 0, none⟩), .int .i64 (n : Int), .int .i64 y, .tuple #[.pointer (some ⟨f2.s, 0, none⟩), .slice A n cc, .int .i64 0], .pointer (some ⟨f2.s, 0, none⟩), .slice A n cc, .int .i64 0, .int .i64 0, .bool false, undef, .func (.func g) bnd cps, .bool false, .pointer (some ⟨f.s, 0, none⟩), .func (.func 132) #[] #[.pointer (some ⟨R + 1 + 1 + 1, 0, none⟩)], .int .i64 (x.1 : Int), .int .i64 x.2, undef, undef, undef, undef, undef, undef, undef, undef, undef, undef, undef, undef, undef, undef, undef, undef, undef, undef, undef, undef, undef], defers := [] }) ?assign ?body ?done ?stop
  case assign =>
    intro l x W K hK
    unfold encIx
    gi_wp2
    exact hK
  case body =>
    rintro l pre x W ⟨HI, hWs⟩ hlt'
    have HII := hid HI
    rw [HNN.out] at hlt'
    obtain ⟨τ, hLay, hSl⟩ := HI.sl
    have hvl : (pre.map (·.2)).length = pre.length := by simp
    have hpl : pre.length < ps.length := by rw [HPL.out]; exact hlt'
    obtain ⟨q, hq, hqN, hqf⟩ := hLay.free HPok.out (by rw [hvl]; exact hpl)
    have hstep := hLay.step HPok.out (by rw [hvl]; exact hpl) x.2 hq
    rw [hvl] at hq
    have hτl : τ.length = 8 * 2 ^ h := hLay.len
    have HPut := hid (fun w' (hf : Fr Nil1 W w') => show Calls Tryz.prog 80 #[.pointer (some ⟨f2.s, 0, none⟩), .int .i64 (q : Int), .int .i64 x.2] w' fun e w'' => e = .returned (.int .i64 0) ∧ SlotsR w'' f2 (τ.set q (some x.2)) ∧ Fr f2.chg w' w'' from by
      have := gapsPut_ok (hSl.new hf) (q : Int) x.2 (by omega) (by omega) (by rw [Int.toNat_natCast]; exact hqf)
      rwa [Int.toNat_natCast] at this)
    obtain ⟨A', c', e', _, hcA⟩ := HI.row.rd (by rw [HPL.out]; omega)
    rw [ints'_length, HPL.out] at e' hcA
    injection e' with e1 e2 e3
    subst e1
    subst e3
    obtain ⟨ad, rfl, hc⟩ := hcA (by omega)
    clear hcA
    have hcell := hc pre.length _ (ints'_get ps _ hpl)
    rw [hq] at hcell
    have HCell := hid hcell
    have HStep := hid hstep
    have hchg : ∀ k, f2.chg k → Q + 3 ≤ k ∧ k < R := fun k hk => ⟨hfm2 k (SF.chg_mem hk), hfmR k (SF.chg_mem hk)⟩
    have hap : ∀ k, f2.mem k → (Value.slice (some ad) n cc).ownBlock ≠ some k := H2.out.2.2.2.2
    have hadb : ∃ gb, ad = ⟨gb, 0, none⟩ ∧ (Value.slice (some ad) n cc).ownBlock = some gb := by
      rcases HI.row.2 with ⟨e, _⟩ | ⟨g', cap', cur, e, hg', _⟩
      · cases e
      · injection e with e1 _ _
        injection e1 with e1
        subst e1
        exact ⟨g', rfl, rfl⟩
    obtain ⟨gb, rfl, hgb⟩ := hadb
    have hrowlt := HI.row.own_lt gb hgb
    have HRow := hid (fun w' (hF : Fr f2.chg W w') => show (Has w' (R + 1 + 1) [.int .i64 (pre.length : Nat)] 3 ∧ Has w' (R + 1) [.slice (some ⟨gb, 0, none⟩) n cc] 30 ∧ Has w' Q [.func (.func g) bnd cps] 26 ∧ w'.cell? ⟨gb, pre.length, none⟩ = some (.int .i64 (q : Int))) from
      ⟨HI.k.fr' hF (fun hh => by have := hchg _ hh; omega), HI.p.fr' hF (fun hh => by have := hchg _ hh; omega), HI.t.fr' hF (fun hh => by have := hchg _ hh; omega), hF.cell (show W.cell? ⟨gb, pre.length, none⟩ = _ by have := HCell.out; rwa [add_flat, Nat.zero_add] at this) (fun hh => hap gb (SF.chg_mem hh) hgb)⟩)
    have HTell := hid (fun w' (hF : Fr f2.chg W w') => HT.out.call (evs ++ resEv ps pre) x.2 (x.1 : Int) (q : Int) w' (HT.out.keep _ _ _ _ HI.j hF (fun k hk hb => by have := hchg k hk; have := hBlt k hb; omega)))
    have hkI : (pre.length : Int) < n := by omega
    have hk0 : (0 : Int) ≤ (pre.length : Int) := by omega
    obtain ⟨c1, c2, c3, c4⟩ := HRow.out W.drew (Fr.refl _ _).drew
    have d1 := c1.cell 0
    have d2 := c2.cell 0
    have d3 := c3.cell 0
    have d0 : W.drew.cell? ⟨R, 0, none⟩ = some (.pointer (some ⟨f2.s, 0, none⟩)) := HI.o.cell 0
    clear c1 c2 c3 hLay hSl hstep hcell hc
    gi_wp2_with fail
    refine wpIn_region_tailR 6 (by kernel_rfl) (by rintro ⟨a, w, hh⟩; exact hh) (by kernel_rfl) (by kernel_rfl) ?_
    simp only [List.take_succ_cons, List.take_zero, List.drop_succ_cons, List.drop_zero]
    change wpStill _ _ W.drew (fun a' => wpList _ _ _ _ a' W.drew) _ _
    obtain ⟨WD, hWD⟩ : ∃ WD, W.drew = WD := ⟨_, rfl⟩
    have HWD := hid hWD
    rw [hWD] at d0 d1 d2 d3 c4 ⊢
    clear hWD
    repeat still_step
    refine wpStill_nil ?_
    go_wp2_with (go_at_call 80; refine (HPut.out WD (HWD.out ▸ (Fr.refl _ _).drew)).mono ?_; rintro e w3 ⟨rfl, hS3, hF3⟩; have H3 := hid (And.intro hS3 hF3); clear hS3 hF3)
    have hF3 : Fr f2.chg W w3 := (HWD.out ▸ (Fr.refl f2.chg W).drew : Fr f2.chg W WD).trans H3.out.2
    have HF3 := hid hF3
    obtain ⟨c1, c2, c3, c4⟩ := HRow.out w3 hF3
    have e1 : w3.drew.cell? ⟨R + 1 + 1, 0, none⟩ = some (.int .i64 (pre.length : Nat)) := c1.cell 0
    have e2 : w3.drew.cell? ⟨R + 1, 0, none⟩ = some (.slice (some ⟨gb, 0, none⟩) n cc) := c2.cell 0
    have e3 : w3.drew.cell? ⟨Q, 0, none⟩ = some (.func (.func g) bnd cps) := c3.cell 0
    have e4 : w3.drew.cell? ⟨gb, pre.length, none⟩ = some (.int .i64 (q : Int)) := c4
    have HTl := hid (HTell.out w3.drew hF3.drew)
    have hentg : ∀ (args : Array Value) (W : World), Sem.run Tryz.prog (callFunc g args) W = .ok (.enter g args) W := HT.out.enters
    have HC1 := hid c1
    clear c1 c2 c3 c4 d0 d1 d2 d3 hF3
    gi_wp2_with fail
    refine wpIn_region_tailR 7 (by kernel_rfl) (by rintro ⟨a, w, hh⟩; exact hh) (by kernel_rfl) (by kernel_rfl) ?_
    simp only [List.take_succ_cons, List.take_zero, List.drop_succ_cons, List.drop_zero]
    change wpStill _ _ w3.drew (fun a' => wpList _ _ _ _ a' w3.drew) _ _
    obtain ⟨WE, hWE⟩ : ∃ WE, w3.drew = WE := ⟨_, rfl⟩
    have HWE := hid hWE
    rw [hWE] at e1 e2 e3 e4 HTl ⊢
    clear hWE
    repeat still_step
    refine wpStill_nil ?_
    go_wp2_with (go_at_fn g; refine HTl.out.mono ?_; rintro e w4 ⟨⟨vv, rfl⟩, hJ4, hF4⟩; have H4 := hid (And.intro hJ4 hF4); clear hJ4 hF4)
    have hk4 : Has w4 (R + 1 + 1) [.int .i64 (pre.length : Nat)] 3 := (HWE.out ▸ HC1.out.drew : Has WE _ _ _).fr' H4.out.2 (fun hb => by have := hBlt _ hb; omega)
    have HK4 := hid hk4
    obtain ⟨k0, kf⟩ := hk4.one
    clear hk4 e1 e2 e3 e4
    gi_wp2_with fail
    have hFE : Fr f2.chg W WE := HWE.out ▸ HF3.out.drew
    have hF5 : Fr (fun k => f2.chg k ∨ B k ∨ k = R + 1 + 1) W (w4.setCell ⟨R + 1 + 1, 0, none⟩ (.int .i64 ((pre.length : Int) + 1))) :=
      ((hFE.mono (fun _ _ h => .inl h)).trans' H4.out.2 (fun _ _ _ h => .inr (.inl h))).setCell ⟨R + 1 + 1, 0, none⟩ _ (by show NG ≤ R + 1 + 1; omega) (fun _ => .inr (.inr rfl))
    have hno : ∀ k, (k = R ∨ k = R + 1 ∨ k = Q ∨ k = Q + 1 ∨ k = Q + 1 + 1 ∨ k = R + 1 + 1 + 1 ∨ f.mem k) → ¬ (f2.chg k ∨ B k ∨ k = R + 1 + 1) := by
      intro k hk hh
      have h1 : f2.chg k → Q + 3 ≤ k ∧ k < R := hchg k
      have h2 : B k → k < Q ∧ ¬ f.mem k := fun hb => ⟨hBlt k hb, (HB.out k hb).1⟩
      have h3 : f.mem k → k < Q := hfQ k
      rcases hk with rfl | rfl | rfl | rfl | rfl | rfl | hk
      all_goals (
        rcases hh with hh | hh | hh
        · have := h1 hh
          first | omega | (have := h3 hk; omega)
        · have := h2 hh
          first | omega | exact this.2 hk
        · first | omega | (have := h3 hk; omega))
    refine ⟨KeepsFrom.of_fr hF5 (fun k hk hh => ?_), KeepT.of_fr hF5 (fun k hk => hno k (by rcases hk with hk | hk <;> simp [hk])), ⟨HII.out.o.fr' hF5 (hno _ (by simp)), HII.out.p.fr' hF5 (hno _ (by simp)), ?_, HII.out.t.fr' hF5 (hno _ (by simp)), HII.out.r.fr' hF5 (hno _ (by simp)), HII.out.e.fr' hF5 (hno _ (by simp)), HII.out.row.frO hF5 (fun g' hg' hh => ?_), ⟨τ.set q (some x.2), ?_, ?_⟩, ?_, ?_⟩, Nat.le_trans hWs hF5.size⟩
    · rcases hh with hh | hh | hh
      · have := hchg k hh; omega
      · have := hBlt k hh; omega
      · omega
    · rw [List.length_append, List.length_singleton]
      exact HK4.out.set 0 _
    · have hgg : g' = gb := by rw [hgb] at hg'; exact (Option.some.inj hg').symm
      subst hgg
      rcases hh with hh | hh | hh
      · exact hap g' (SF.chg_mem hh) hgb
      · have := hBlt _ hh; omega
      · have := (H2.out.2.1.own_lt g' hgb).1; rw [hR] at this; omega
    · rw [List.map_append]
      exact HStep.out
    · have s4 : SlotsR w4 f2 (τ.set q (some x.2)) := ((H3.out.1.new (Fr.refl Nil1 _).drew) |> (HWE.out ▸ ·) : SlotsR WE f2 _).fr H4.out.2 (fun k hk hb => by have := hBlt k hb; have := hfm2 k hk; omega)
      exact s4.fr ((Fr.refl (fun k => k = R + 1 + 1) w4).setCell ⟨R + 1 + 1, 0, none⟩ _ (by show NG ≤ R + 1 + 1; omega) (fun _ => rfl)) (fun k hk e => by have := hfmR k hk; omega)
    · rw [resEv_snoc, hq, ← List.append_assoc]
      exact HT.out.keep _ _ _ _ H4.out.1 ((Fr.refl (fun k => k = R + 1 + 1) w4).setCell ⟨R + 1 + 1, 0, none⟩ _ (by show NG ≤ R + 1 + 1; omega) (fun _ => rfl)) (fun k hk hb => by have := hBlt k hb; omega)
    · exact HII.out.fr.trans' hF5 (fun j _ hj hh => by
        rcases hh with hh | hh | hh
        · have := hchg j hh; rw [HQ.out] at hj; omega
        · exact hh
        · rw [HQ.out] at hj; omega)
  case done =>
    rintro D ys W hD rfl ⟨HI, hWs⟩ hK
    obtain ⟨τ, hLay, hSl⟩ := HI.sl
    have HLd := hid (show LaidR (its σ) (2 ^ h) τ from HDn.out _ _ (by show (List.map _ (occ σ)).length = n; rw [List.length_map]; exact HNN.out) hn hLay)
    have HII := hid HI
    have HSl := hid hSl
    obtain ⟨r0, rf⟩ := HI.r.one
    obtain ⟨e0, ef⟩ := HI.e.one
    obtain ⟨o0, of⟩ := HI.o.one
    have HKK := hid hK
    clear hLay hSl
    gi_wp2_with fail
    have hKD : ((W.setCell ⟨Q + 1, 0, none⟩ (.pointer (some ⟨f2.s, 0, none⟩))).setCell ⟨Q + 1 + 1, 0, none⟩ (.int .i64 0)).heap[D]? = some (.deferred (some [])) :=
      ((KeepsOthers.setCell W ⟨Q + 1, 0, none⟩ _).trans (KeepsOthers.setCell _ ⟨Q + 1 + 1, 0, none⟩ _)).same D _ HKK.out rfl
    have hf1 : Fr (fun k => k = Q + 1 ∨ k = Q + 1 + 1) W ((W.setCell ⟨Q + 1, 0, none⟩ (.pointer (some ⟨f2.s, 0, none⟩))).setCell ⟨Q + 1 + 1, 0, none⟩ (.int .i64 0)) :=
      ((Fr.refl _ _).setCell _ _ (by show NG ≤ Q + 1; omega) (fun _ => .inl rfl)).setCell _ _ (by show NG ≤ Q + 1 + 1; omega) (fun _ => .inr rfl)
    have hr1 : Has ((W.setCell ⟨Q + 1, 0, none⟩ (.pointer (some ⟨f2.s, 0, none⟩))).setCell ⟨Q + 1 + 1, 0, none⟩ (.int .i64 0)) (Q + 1) [.pointer (some ⟨f2.s, 0, none⟩)] 31 := (HII.out.r.set 0 _).other _ (by show Q + 1 ≠ Q + 1 + 1; omega)
    have he1 : Has ((W.setCell ⟨Q + 1, 0, none⟩ (.pointer (some ⟨f2.s, 0, none⟩))).setCell ⟨Q + 1 + 1, 0, none⟩ (.int .i64 0)) (Q + 1 + 1) [.int .i64 0] 36 := (HII.out.e.other _ (by show Q + 1 + 1 ≠ Q + 1; omega)).set 0 _
    obtain ⟨WF, hWF⟩ : ∃ WF, ((W.setCell ⟨Q + 1, 0, none⟩ (.pointer (some ⟨f2.s, 0, none⟩))).setCell ⟨Q + 1 + 1, 0, none⟩ (.int .i64 0)) = WF := ⟨_, rfl⟩
    rw [hWF] at hKD hf1 hr1 he1 ⊢
    have hfD : Fr (fun k => k = D) WF (WF.putObj D (.deferred none)) := (Fr.refl _ WF).grown (grownBy_putObj' WF D _) (fun k e => by injection e with e; omega) (fun k e _ => by injection e with e; exact e.symm)
    obtain ⟨z0, zf⟩ := (hr1.fr' hfD (by omega)).one
    obtain ⟨y0, yf⟩ := (he1.fr' hfD (by omega)).one
    refine ⟨by simp, .inl ⟨_, _, rfl, run_takeDeferred hKD, ?_⟩⟩
    refine ⟨.tuple #[.pointer (some ⟨f2.s, 0, none⟩), .int .i64 0], ?_, f2, rfl, ⟨τ, HLd.out, ?_⟩, ?_, ?_, fun k hk => by have := hfm2 k hk; rw [HQ.out]; omega⟩
    · simp [results, Tryz.f140, go_sem, z0, y0]
    · exact (HSl.out.fr hf1 (fun k hk e => by have := hfm2 k hk; omega)).fr hfD (fun k hk e => by have := hfmR k hk; omega)
    · exact HT.out.keep _ _ _ _ (HT.out.keep _ _ _ _ HII.out.j hf1 (fun k hk hb => by have := hBlt k hb; omega)) hfD (fun k hk hb => by have := hBlt k hb; omega)
    · refine (HII.out.fr.trans' hf1 (fun j _ hj hh => ?_)).trans' hfD (fun j _ hj hh => ?_)
      · rw [HQ.out] at hj; omega
      · rw [HQ.out] at hj; omega
  case stop =>
    rintro D c pre W _ _ h _
    exact h.elim
end Go.Proofs.YtechphliifginaaGreatDoor
