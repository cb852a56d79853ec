/- In one: X1, X2, X3, X4, X5. -/
import Derived.Test.YtechphliifginaaGreatDoorGO
import Derived.Test.YtechphliifginaaGreatDoorGL
import Derived.Test.YtechphliifginaaGreatDoorGE
import Derived.Deep.RegionHeld3
/- What a step does to counts, in plain words: no segment is full behind it. -/
set_option linter.unusedVariables false
set_option linter.unusedSimpArgs false
namespace Go.Proofs.YtechphliifginaaGreatDoor
open Go.RowKit

theorem sumI_append : ∀ (b a : List Int), sumI (a ++ b) = sumI a + sumI b
  | [], a => by simp [sumI]
  | x :: b, a => by
    have h1 := sumI_append b (a ++ [x])
    have h2 := sumI_append b [x]
    rw [sumI_snoc] at h1
    have e0 : sumI [x] = x := by simp [sumI]
    rw [show a ++ x :: b = a ++ [x] ++ b by simp, h1, show x :: b = [x] ++ b from rfl, h2, e0]
    omega
theorem wsum_pre (xs : List Int) (f n : Nat) : wsum xs f n = preI xs (f + n) - preI xs f := by
  unfold wsum preI
  rw [List.take_add, sumI_append]
  omega
theorem wsum_win (σ : List (Option Int)) (Z f n : Nat) (hl : σ.length = 8 * Z) (hf : f + n ≤ Z) : wsum (cntsL σ) f n = (winC σ f n : Nat) := by
  rw [wsum_pre, preI_cnts σ Z hl _ hf, preI_cnts σ Z hl _ (by omega), cntOn_win]
  omega
theorem sumI_cnts (σ : List (Option Int)) (Z : Nat) (hl : σ.length = 8 * Z) : sumI (cntsL σ) = (cntOn (onOf σ) σ.length : Nat) := by
  have := preI_cnts σ Z hl Z (Nat.le_refl _)
  unfold preI at this
  rw [List.take_of_length_le (by rw [cntsL_length, hl]; omega)] at this
  rw [this, hl]

theorem within0 {n : Int} {k h : Nat} (h1 : 1 ≤ h) (hw : withinF n k h = 0) : n ≤ 7 * 2 ^ k ∧ (h ≠ 2 → 2 ^ k ≤ n) := by
  unfold withinF at hw
  split at hw
  · omega
  · rename_i c1
    have hp : (0 : Int) < 2 ^ k := Int.pow_pos (by omega)
    have hh : (0 : Int) < (h : Int) := by omega
    have hk : (0 : Int) ≤ (k : Int) * 2 ^ k := Int.mul_nonneg (by omega) (by omega)
    constructor
    · have c2 : (h : Int) * n ≤ manyF k h := by omega
      unfold manyF at c2
      rw [Int.sub_mul, Int.mul_assoc 2, Int.mul_assoc 7] at c2
      refine Int.le_of_mul_le_mul_left (a := (h : Int)) ?_ hh
      rw [Int.mul_left_comm]
      omega
    · intro h2
      split at hw
      · omega
      · rename_i c2
        unfold fewF at c2
        rw [if_neg h2, Int.add_mul] at c2
        refine Int.le_of_mul_le_mul_left (a := (h : Int)) ?_ hh
        omega
theorem within_up {n : Int} {h : Nat} (h1 : 1 ≤ h) (h9 : h ≤ 9) (hn : n ≤ 4096) (hw : withinF n h h = 1) : 5 * 2 ^ h < n := by
  unfold withinF at hw
  split at hw
  · rename_i c1
    have c2 : manyF h h < h * n := by omega
    unfold manyF at c2
    rw [show 7 * (h : Int) - 2 * h = (h : Int) * 5 by omega, Int.mul_assoc] at c2
    exact Int.lt_of_mul_lt_mul_left c2 (by omega)
  · split at hw <;> omega
theorem within_lo {n : Int} {h : Nat} (h1 : 1 ≤ h) (hn : 0 ≤ n) (hw : withinF n h h = -1) : h ≠ 2 ∧ n < 2 * 2 ^ h := by
  unfold withinF at hw
  split at hw
  · omega
  · split at hw
    · rename_i c2
      unfold fewF at c2
      by_cases e : h = 2
      · rw [if_pos e] at c2
        have : (0 : Int) ≤ h * n := Int.mul_nonneg (by omega) hn
        omega
      · rw [if_neg e, show (h : Int) + h = h * 2 by omega, Int.mul_assoc] at c2
        exact ⟨e, Int.lt_of_mul_lt_mul_left c2 (by omega)⟩
    · omega

/-- No segment is full, and none empty above the least capacity. -/
structure Dn (σ : List (Option Int)) (h : Nat) : Prop where
  h2 : 2 ≤ h
  h9 : h ≤ 9
  len : σ.length = 8 * 2 ^ h
  up : ∀ k, k < 2 ^ h → segC σ k ≤ 7
  lo : 2 < h → ∀ k, k < 2 ^ h → 1 ≤ segC σ k
/-- The same, but in one segment. -/
structure DnX (σ : List (Option Int)) (h seg : Nat) : Prop where
  h2 : 2 ≤ h
  h9 : h ≤ 9
  len : σ.length = 8 * 2 ^ h
  sg : seg < 2 ^ h
  up : ∀ k, k < 2 ^ h → k ≠ seg → segC σ k ≤ 7
  lo : 2 < h → ∀ k, k < 2 ^ h → k ≠ seg → 1 ≤ segC σ k

theorem DnX.total {σ : List (Option Int)} {h seg : Nat} (H : DnX σ h seg) (h2 : 2 < h) : ∀ k, k ≤ 2 ^ h → k ≤ cntOn (onOf σ) (8 * k) + (if seg < k then 1 else 0)
  | 0, _ => by omega
  | k + 1, hk => by
    have ih := H.total h2 k (by omega)
    have := cntOn_seg σ k
    by_cases e : k = seg
    · rw [if_neg (by omega)] at ih
      rw [if_pos (by omega)]
      omega
    · have := H.lo h2 k (by omega) e
      by_cases c : seg < k
      · rw [if_pos c] at ih; rw [if_pos (by omega)]; omega
      · rw [if_neg c] at ih; rw [if_neg (by omega)]; omega
theorem occ_cnt (σ : List (Option Int)) : (occ σ).length = cntOn (onOf σ) σ.length := by rw [← its_length]; simp [its]
theorem laid_dn {τ υ : List (Option Int)} {h : Nat} (h2 : 2 ≤ h) (h9 : h ≤ 9) (hL : LaidR (its τ) (2 ^ h) υ) (hu : (its τ).length ≤ 7 * 2 ^ h) (hl : 2 < h → 2 ^ h ≤ (its τ).length) : Dn υ h := by
  have hz : 0 < 2 ^ h := Nat.pow_pos (by omega)
  have hs : ∀ k, k < 2 ^ h → segC υ k = shr (its τ).length (2 ^ h) k := fun k hk => by
    have a := hL.cnt hz (by omega) k (by omega)
    have b := hL.cnt hz (by omega) (k + 1) (by omega)
    rw [ahd_succ] at b
    have c := cntOn_seg υ k
    omega
  refine ⟨h2, h9, hL.len, fun k hk => ?_, fun h3 k hk => ?_⟩
  · rw [hs k hk]; exact shr_upper _ _ _ _ hz hu
  · rw [hs k hk]; exact shr_lower _ _ _ _ hz (by have := hl h3; omega)
theorem even_dn {τ υ : List (Option Int)} {h seg f S : Nat} (H : DnX τ h seg) (h0 : 0 < S) (hf : f ≤ seg) (hfS : seg < f + S) (hE : EvenR τ (8 * f) (8 * S) (plcL (winC τ f S) f S) υ) (hu : winC τ f S ≤ 7 * S) (hl : 2 < h → S ≤ winC τ f S) : Dn υ h := by
  have hin : ∀ k, f ≤ k → k < f + S → segC υ k = shr (winC τ f S) S (k - f) := fun k h1 h2 => by
    have a := hE.cnt h0 (by omega) (k - f) (by omega)
    have b := hE.cnt h0 (by omega) (k - f + 1) (by omega)
    rw [ahd_succ, show f + (k - f + 1) = k + 1 by omega] at b
    rw [show f + (k - f) = k by omega] at a
    have c := cntOn_seg υ k
    omega
  have hout : ∀ k, ¬ (f ≤ k ∧ k < f + S) → segC υ k = segC τ k := fun k hk => segC_same (fun j h1 h2 => onOf_eq (hE.out j (by omega)))
  refine ⟨H.h2, H.h9, hE.len.trans H.len, fun k hk => ?_, fun h3 k hk => ?_⟩
  · by_cases c : f ≤ k ∧ k < f + S
    · rw [hin k c.1 c.2]; exact shr_upper _ _ _ _ h0 hu
    · rw [hout k c]; exact H.up k hk (by omega)
  · by_cases c : f ≤ k ∧ k < f + S
    · rw [hin k c.1 c.2]; exact shr_lower _ _ _ _ h0 (by have := hl h3; omega)
    · rw [hout k c]; exact H.lo h3 k hk (by omega)
theorem findF_is {xs : List Int} {seg h m : Nat} : ∀ f k, findF xs seg h f k = some m → withinF (wsum xs (winF seg m) (2 ^ m)) m h = 0
  | 0, _, e => by unfold findF at e; exact absurd e (by simp)
  | f + 1, k, e => by
    unfold findF at e
    split at e
    · injection e with e; subst e; assumption
    · exact findF_is f (k + 1) e
theorem findF_not {xs : List Int} {seg h : Nat} : ∀ f k, findF xs seg h f k = none → ∀ m, k ≤ m → m < k + f → withinF (wsum xs (winF seg m) (2 ^ m)) m h ≠ 0
  | 0, k, _ => fun m h1 h2 => by omega
  | f + 1, k, e => fun m h1 h2 => by
    unfold findF at e
    split at e
    · exact absurd e (by simp)
    · by_cases c : m = k
      · rw [c]; assumption
      · exact findF_not f (k + 1) e m (by omega) (by omega)
/-- What a step may be. -/
inductive StepC (τ : List (Option Int)) (h seg : Nat) : Prop
  | win (m : Nat) (e : lvl (cntsL τ) seg h = some m) (p : pickS (cntsL τ) seg h = (⟨1, (winF seg m : Nat), (2 ^ m : Nat), 8 * (2 ^ h : Nat)⟩, 0))
      (k : ∀ υ, EvenR τ (8 * winF seg m) (8 * 2 ^ m) (plcL (winC τ (winF seg m) (2 ^ m)) (winF seg m) (2 ^ m)) υ → Dn υ h)
  | grow (h' : Nat) (e : h' = h + 1) (h9 : h' ≤ 9) (fit : (occ τ).length ≤ 8 * 2 ^ h') (p : pickS (cntsL τ) seg h = (⟨2, 0, (2 ^ h' : Nat), (8 * 2 ^ h' : Nat)⟩, 0)) (k : ∀ υ, LaidR (its τ) (2 ^ h') υ → Dn υ h')
  | shrink (h' : Nat) (e : h = h' + 1) (h2 : 2 ≤ h') (fit : (occ τ).length ≤ 8 * 2 ^ h') (p : pickS (cntsL τ) seg h = (⟨3, 0, (2 ^ h' : Nat), (8 * 2 ^ h' : Nat)⟩, 0)) (k : ∀ υ, LaidR (its τ) (2 ^ h') υ → Dn υ h')
theorem winF_seg (seg m : Nat) : winF seg m ≤ seg ∧ seg < winF seg m + 2 ^ m := by
  have : 0 < 2 ^ m := Nat.pow_pos (by omega)
  have := Nat.mod_lt seg this
  have := Nat.mod_le seg (2 ^ m)
  unfold winF
  omega
theorem step_case {τ : List (Option Int)} {h seg : Nat} (H : DnX τ h seg) (hT : cntOn (onOf τ) τ.length ≤ 2560) : StepC τ h seg := by
  have hz : 0 < 2 ^ h := Nat.pow_pos (by omega)
  have hz4 : 4 ≤ 2 ^ h := Nat.pow_le_pow_right (n := 2) (by omega) H.h2
  have hcl : (cntsL τ).length = 2 ^ h := by rw [cntsL_length, H.len]; omega
  have h9 := H.h9
  have h2 := H.h2
  have hseg := H.sg
  have hil : (its τ).length = cntOn (onOf τ) τ.length := its_length τ
  have hoc := occ_cnt τ
  have cast : ∀ k : Nat, ((2 ^ k : Nat) : Int) = 2 ^ k := fun k => by rw [Int.natCast_pow]; rfl
  cases hl : lvl (cntsL τ) seg h with
  | some m =>
    have hm := lvl_le hl
    obtain ⟨w1, w2⟩ := winF_in hm H.sg
    have hw := findF_is _ _ hl
    rw [wsum_win τ (2 ^ h) _ _ H.len w1] at hw
    obtain ⟨u1, u2⟩ := within0 (by omega) hw
    obtain ⟨s1, s2⟩ := winF_seg seg m
    rw [← cast m] at u1 u2
    refine .win m hl (by unfold pickS; rw [hl, hcl]) (fun υ hE => even_dn H w2 s1 s2 hE (by omega) (fun h3 => ?_))
    have := u2 (by omega)
    omega
  | none =>
    have hno := findF_not _ _ hl h (by omega) (by omega)
    have e0 : winF seg h = 0 := by unfold winF; rw [Nat.mod_eq_of_lt H.sg]; omega
    rw [e0, wsum_win τ (2 ^ h) 0 (2 ^ h) H.len (by omega)] at hno
    have ew : winC τ 0 (2 ^ h) = cntOn (onOf τ) τ.length := by
      unfold winC
      rw [Nat.zero_add, ← H.len]
      exact Nat.sub_zero _
    rw [ew] at hno
    have hsum := sumI_cnts τ (2 ^ h) H.len
    rcases withinF_cases ((cntOn (onOf τ) τ.length : Nat) : Int) h h with c | c | c
    · have := within_up (by omega) H.h9 (by omega) c
      rw [← cast h] at this
      have hlt : h < 9 := by
        rcases Nat.lt_or_ge h 9 with g | g
        · exact g
        · have e9 : h = 9 := by omega
          subst e9
          omega
      have e2 : 2 ^ (h + 1) = 2 * 2 ^ h := by rw [Nat.pow_succ]; omega
      have h512 : 2 ^ h ≤ 256 := Nat.pow_le_pow_right (n := 2) (by omega) (show h ≤ 8 by omega)
      have hle : cntOn (onOf τ) τ.length ≤ 8 * 2 ^ h := by have := cntOn_le (onOf τ) τ.length; rw [H.len] at this ⊢; exact this
      refine .grow (h + 1) rfl (by omega) (by rw [hoc, e2]; omega) ?_ (fun υ hL => laid_dn (by omega) (by omega) hL (by rw [hil, e2]; omega) (fun _ => by rw [hil, e2]; omega))
      unfold pickS
      rw [hl]
      simp only
      rw [hsum, c, if_neg (by omega), if_neg (by omega), hcl, e2]
      congr 2 <;> omega
    · exact absurd c hno
    · obtain ⟨d1, d2⟩ := within_lo (by omega) (by omega) c
      obtain ⟨g, rfl⟩ : ∃ g, h = g + 1 := ⟨h - 1, by omega⟩
      rw [← cast (g + 1)] at d2
      have e2 : 2 ^ (g + 1) = 2 * 2 ^ g := by rw [Nat.pow_succ]; omega
      have hlow := H.total (by omega) (2 ^ (g + 1)) (Nat.le_refl _)
      rw [if_pos H.sg, ← H.len] at hlow
      have hg2 : 2 ≤ g := by omega
      have hg4 : 4 ≤ 2 ^ g := Nat.pow_le_pow_right (n := 2) (by omega) hg2
      refine .shrink g rfl hg2 (by rw [hoc]; omega) ?_ (fun υ hL => laid_dn hg2 (by omega) hL (by rw [hil]; omega) (fun _ => by rw [hil]; omega))
      unfold pickS
      rw [hl]
      simp only
      rw [hsum, c, if_pos (by omega), hcl, e2]
      congr 2 <;> omega
end Go.Proofs.YtechphliifginaaGreatDoor

/- pma.step, said once. -/
set_option linter.unusedVariables false
set_option linter.unusedSimpArgs false
namespace Go.Proofs.YtechphliifginaaGreatDoor
open Go.RowKit

/-- What a step did to an array. -/
inductive StepO (τ : List (Option Int)) (h seg : Nat) (S : St) (τ' : List (Option Int)) (h' : Nat) : Prop
  | win (m : Nat) (hm : m ≤ h) (e : S = ⟨1, (winF seg m : Nat), (2 ^ m : Nat), 8 * (2 ^ h : Nat)⟩) (hh : h' = h) (k : EvenR τ (8 * winF seg m) (8 * 2 ^ m) (plcL (winC τ (winF seg m) (2 ^ m)) (winF seg m) (2 ^ m)) τ')
  | anew (kd : Int) (hk : kd = 2 ∨ kd = 3) (e : S = ⟨kd, 0, (2 ^ h' : Nat), (8 * 2 ^ h' : Nat)⟩) (hh : h' ≠ h) (k : LaidR (its τ) (2 ^ h') τ')
theorem StepO.its {τ τ' : List (Option Int)} {h seg h' : Nat} {S : St} (H : StepO τ h seg S τ' h') : its τ' = its τ := by
  cases H with
  | win m hm e hh k => exact k.items
  | anew kd hk e hh k => exact k.items
theorem StepO.cap {τ τ' : List (Option Int)} {h seg h' : Nat} {S : St} (H : StepO τ h seg S τ' h') : S.c = (8 * 2 ^ h' : Nat) := by
  cases H with
  | win m hm e hh k => rw [e, hh]; show 8 * ((2 ^ h : Nat) : Int) = _; omega
  | anew kd hk e hh k => rw [e]
/-- What the events of a step say. -/
structure EvO (τ τ' : List (Option Int)) (ev : List Ev) : Prop where
  knows : ∀ pos, Knows pos τ → legit pos ev ∧ Knows (runEv pos ev) τ'
  dom : ∀ e ∈ ev, e.1 ∈ its τ
  rng : ∀ e ∈ ev, e.2.2 < 4096
theorem resEv_rng (ps : List Int) (l : List (Nat × Int)) (hl : l.length ≤ ps.length) (hp : ∀ p ∈ ps, p < 4096) : ∀ e ∈ resEv ps l, e.2.2 < 4096 := by
  intro e he
  unfold resEv at he
  obtain ⟨i, hi, rfl⟩ := List.mem_map.1 he
  exact hp _ (getD_mem (by have := List.mem_range.1 hi; omega))
theorem steps_rng {σ τ : List (Option Int)} {evs : List Ev} (h : Steps σ evs τ) (hl : σ.length ≤ 4096) : ∀ e ∈ evs, e.2.2 < 4096 := by
  induction h with
  | nil => intro e he; cases he
  | @move evs τ x i j hs hm ih =>
    intro e he
    rcases List.mem_append.1 he with h1 | h1
    · exact ih e h1
    · rw [List.mem_singleton.1 h1]
      have := hm.hj
      have := hs.length
      show (j : Int) < 4096
      omega
theorem resEv_dom (ps : List Int) (l : List (Nat × Int)) : ∀ e ∈ resEv ps l, e.1 ∈ l.map (·.2) := by
  intro e he
  unfold resEv at he
  obtain ⟨i, hi, rfl⟩ := List.mem_map.1 he
  have hi' : i < l.length := List.mem_range.1 hi
  show (l.getD i (0, 0)).2 ∈ _
  rw [List.getD_eq_getElem?_getD, List.getElem?_eq_getElem hi']
  exact List.mem_map.2 ⟨l[i], List.getElem_mem hi', rfl⟩
structure StepOut (w : World) (F : PF) (τ : List (Option Int)) (h seg : Nat) (slot : Int) (tv : Value) (B : Nat → Prop) (J : List Ev → World → Prop) (evs : List Ev) (v : Int) (S : St) (w' : World) : Prop where
  pk : pickS (cntsL τ) seg h = (S, 0)
  ex : ∃ (F' : PF) (τ' : List (Option Int)) (h' : Nat) (ev : List Ev), F'.p = F.p ∧ PmaR w' F' τ' h' tv ∧ Dn τ' h' ∧ StepO τ h seg S τ' h' ∧ J (evs ++ ev) w' ∧ EvO τ τ' ev ∧ (∀ k, F'.mem k → F.mem k ∨ w.heap.size ≤ k) ∧
    (∀ j : Nat, slot = j → onOf τ j = true → ∃ q : Nat, v = q ∧ τ'.getD q none = τ.getD j none ∧ cntOn (onOf τ') q = cntOn (onOf τ) j)
  fr : Fr (fun k => F.mem k ∨ B k) w w'

theorem rank_lt {τ : List (Option Int)} {j : Nat} (h : onOf τ j = true) : cntOn (onOf τ) j < (occ τ).length := by
  obtain ⟨x, hx⟩ := onOf_true h
  have := List.getElem?_eq_some_iff.1 (its_get τ j x hx)
  obtain ⟨h1, _⟩ := this
  rw [its_length] at h1
  rw [occ_cnt]
  exact h1
theorem rank_get {τ υ : List (Option Int)} {j q : Nat} (hi : its υ = its τ) (h : onOf τ j = true) (hq : onOf υ q = true) (hr : cntOn (onOf υ) q = cntOn (onOf τ) j) : υ.getD q none = τ.getD j none := by
  obtain ⟨x, hx⟩ := onOf_true h
  obtain ⟨y, hy⟩ := onOf_true hq
  have a := its_get τ j x hx
  have b := its_get υ q y hy
  rw [hi, hr, a] at b
  injection b with b
  rw [hx, hy, b]
theorem pmaStep_ok {w : World} {F : PF} {τ : List (Option Int)} {h : Nat} {tv : Value} {B : Nat → Prop} {J : List Ev → World → Prop} {evs : List Ev} (H : PmaR w F τ h tv) (T : Hear tv B J) (hJ : J evs w)
    (hB : ∀ k, B k → ¬ F.mem k ∧ k < w.heap.size ∧ NG ≤ k) (seg : Nat) (slot : Int) (D : DnX τ h seg) (hT : cntOn (onOf τ) τ.length ≤ 2560) (hsl : slot ≤ τ.length) :
    Calls Tryz.prog 77 #[.pointer (some ⟨F.p, 0, none⟩), .int .i64 seg, .int .i64 slot] w fun e w' => ∃ (v : Int) (S : St), e = .returned (.tuple #[.int .i64 v, stV S, .int .i64 0]) ∧ StepOut w F τ h seg slot tv B J evs v S w' := by
  have anew : ∀ (h' : Nat) (kd : Int), kd = 2 ∨ kd = 3 → h' ≠ h → (occ τ).length ≤ 8 * 2 ^ h' → pickS (cntsL τ) seg h = (⟨kd, 0, (2 ^ h' : Nat), (8 * 2 ^ h' : Nat)⟩, 0) → (∀ υ, LaidR (its τ) (2 ^ h') υ → Dn υ h') → ∀ e w',
      (∃ (v : Int) (F' : PF) (τ' : List (Option Int)), e = Ending.returned (.tuple #[.int .i64 v, stV ⟨kd, 0, (2 ^ h' : Nat), (8 * 2 ^ h' : Nat)⟩, .int .i64 0]) ∧
      LaidR (its τ) (2 ^ h') τ' ∧ F'.p = F.p ∧ PmaR w' F' τ' h' tv ∧ J (evs ++ resEv (plcL (occ τ).length 0 (2 ^ h')) (occ τ)) w' ∧ Fr (fun k => F.mem k ∨ B k) w w' ∧ (∀ k, F'.mem k → k = F.p ∨ w.heap.size ≤ k) ∧
      (cntOn (onOf τ) slot.toNat < (occ τ).length → ∃ p : Nat, v = p ∧ onOf τ' p = true ∧ cntOn (onOf τ') p = cntOn (onOf τ) slot.toNat)) →
      ∃ (v : Int) (S : St), e = .returned (.tuple #[.int .i64 v, stV S, .int .i64 0]) ∧ StepOut w F τ h seg slot tv B J evs v S w' := by
    rintro h' kd hk hne hfit hp hd e w' ⟨v, F', τ', rfl, hL, hFp, hP, hj, hf, hm, hv⟩
    have hz' : 0 < 2 ^ h' := Nat.pow_pos (by omega)
    refine ⟨v, _, rfl, hp, ⟨F', τ', h', _, hFp, hP, hd τ' hL, .anew kd hk rfl hne hL, hj, ⟨fun pos hpos => resEv_knows rfl hz' hfit hL pos hpos, resEv_dom _ _, resEv_rng _ _ (by rw [plcL_length _ _ _ hz']; exact Nat.le_refl _) (fun q hq => by have h1 := (plcL_ok _ 0 _ hz' hfit).hi q hq; have h2 := p2_le hP.h9; omega)⟩, fun k hk => ?_, fun j hj hon => ?_⟩, hf⟩
    · rcases hm k hk with rfl | h
      · exact .inl (.inl rfl)
      · exact .inr h
    · subst hj
      rw [Int.toNat_natCast] at hv
      obtain ⟨p, rfl, p1, p2⟩ := hv (rank_lt hon)
      exact ⟨p, rfl, rank_get hL.items hon p1 p2, p2⟩
  cases step_case D hT with
  | win m e p k =>
    refine (pmaStep_win H T hJ (fun k hk => ⟨(hB k hk).1, (hB k hk).2.1⟩) seg slot D.sg e).mono ?_
    rintro e' w' ⟨r, τ', rfl, hs, hE, hP, hj, hf⟩
    refine ⟨_, _, rfl, p, ⟨F, τ', h, r, rfl, hP, k τ' hE, .win m (lvl_le e) rfl rfl hE, hj, ⟨fun pos hpos => hs.knows pos hpos, steps_dom hs, steps_rng hs (by have := D.len; have := p2_le H.h9; omega)⟩, fun _ hk => .inl hk, fun j hj hon => ?_⟩, hf⟩
    subst hj
    exact hs.track j hon
  | grow h' e h9 fit p k => exact (pmaStep_grow H T hJ hB seg slot D.sg hsl (by have := D.h2; omega) h9 fit p).mono (anew h' 2 (.inl rfl) (by omega) fit p k)
  | shrink h' e h2 fit p k => exact (pmaStep_shrink H T hJ hB seg slot D.sg hsl h2 (by have := D.h9; omega) fit p).mono (anew h' 3 (.inr rfl) (by omega) fit p k)
end Go.Proofs.YtechphliifginaaGreatDoor

/- A change of one slot, in counts; rebal.Open said once. -/
set_option linter.unusedVariables false
set_option linter.unusedSimpArgs false
namespace Go.Proofs.YtechphliifginaaGreatDoor
open Go.RowKit

/-- Counts differ in one segment. -/
def ChgC (σ τ : List (Option Int)) (Z seg a b : Nat) : Prop := ∀ k, k ≤ Z → cntOn (onOf τ) (8 * k) + (if seg < k then a else 0) = cntOn (onOf σ) (8 * k) + (if seg < k then b else 0)
theorem ChgC.seg {σ τ : List (Option Int)} {Z seg a b : Nat} (H : ChgC σ τ Z seg a b) : (∀ k, k < Z → k ≠ seg → segC τ k = segC σ k) ∧ (seg < Z → segC τ seg + a = segC σ seg + b) := by
  refine ⟨fun k hk hne => ?_, fun hs => ?_⟩
  · have h1 := H k (by omega)
    have h2 := H (k + 1) (by omega)
    have h3 := cntOn_seg σ k
    have h4 := cntOn_seg τ k
    by_cases c : seg < k
    · rw [if_pos c, if_pos c] at h1
      rw [if_pos (by omega), if_pos (by omega)] at h2
      omega
    · rw [if_neg c, if_neg c] at h1
      rw [if_neg (by omega), if_neg (by omega)] at h2
      omega
  · have h1 := H seg (by omega)
    have h2 := H (seg + 1) (by omega)
    have h3 := cntOn_seg σ seg
    have h4 := cntOn_seg τ seg
    rw [if_neg (by omega), if_neg (by omega)] at h1
    rw [if_pos (by omega), if_pos (by omega)] at h2
    omega
theorem ChgC.cnts {σ τ : List (Option Int)} {Z seg a b : Nat} (H : ChgC σ τ Z seg a b) (hl : σ.length = 8 * Z) (hl2 : τ.length = 8 * Z) (hs : seg < Z) : cntsL τ = (cntsL σ).set seg ((cntsL σ).getD seg 0 + ((b : Int) - a)) := by
  obtain ⟨h1, h2⟩ := H.seg
  have h3 := h2 hs
  rw [cntsL_getD σ seg (by omega)]
  refine List.ext_getElem (by rw [List.length_set, cntsL_length, cntsL_length, hl, hl2]) fun j g1 g2 => ?_
  rw [List.getElem_set]
  rw [cntsL_length, hl2] at g1
  simp only [cntsL, List.getElem_map, List.getElem_range]
  by_cases e : seg = j
  · subst e; rw [if_pos rfl]; omega
  · rw [if_neg e, h1 j (by omega) (fun h => e h.symm)]
theorem ChgC.dnx {σ τ : List (Option Int)} {h seg a b : Nat} (D : Dn σ h) (H : ChgC σ τ (2 ^ h) seg a b) (hl2 : τ.length = σ.length) (hs : seg < 2 ^ h) : DnX τ h seg :=
  ⟨D.h2, D.h9, hl2.trans D.len, hs, fun k hk hne => by rw [H.seg.1 k hk hne]; exact D.up k hk, fun h3 k hk hne => by rw [H.seg.1 k hk hne]; exact D.lo h3 k hk⟩
theorem ChgC.total {σ τ : List (Option Int)} {h seg a b : Nat} (D : Dn σ h) (H : ChgC σ τ (2 ^ h) seg a b) (hl2 : τ.length = σ.length) (hs : seg < 2 ^ h) : cntOn (onOf τ) τ.length + a = cntOn (onOf σ) σ.length + b := by
  have := H (2 ^ h) (Nat.le_refl _)
  rw [if_pos hs, if_pos hs, ← D.len] at this
  rw [hl2]
  exact this
theorem OpenR.cnt {σ τ : List (Option Int)} {seg next slot : Nat} (H : OpenR σ (8 * seg) next τ slot) (hl : 8 * seg + 8 ≤ σ.length) (k : Nat) (hk : 8 * k ≤ σ.length) : cntOn (onOf τ) (8 * k) = cntOn (onOf σ) (8 * k) := by
  by_cases c : k ≤ seg
  · exact cntOn_congr _ _ _ (fun j hj => onOf_eq (H.out j (.inl (by omega))))
  · exact cntOn_top H.len H.items (8 * k) hk (fun j hj => onOf_eq (H.out j (.inr (by omega))))
theorem OpenR.chg {σ τ : List (Option Int)} {Z seg next slot : Nat} (H : OpenR σ (8 * seg) next τ slot) (hl : σ.length = 8 * Z) (hs : seg < Z) (x : Int) : ChgC σ (τ.set slot (some x)) Z seg 0 1 := by
  intro k hk
  have hlo := H.lo
  have hhi := H.hi
  have hslot : slot < τ.length := by have := H.len; omega
  have h1 := cntOn_set (σ := τ) (some x) hslot (8 * k)
  rw [H.free, H.cnt (by omega) k (by omega)] at h1
  have e0 : (false).toNat = 0 := rfl
  have e1 : (some x).isSome.toNat = 1 := rfl
  rw [e0, e1] at h1
  by_cases c : seg < k
  · rw [if_pos c, if_pos c]
    rw [if_pos (by omega), if_pos (by omega)] at h1
    omega
  · rw [if_neg c, if_neg c]
    rw [if_neg (by omega), if_neg (by omega)] at h1
    omega
theorem take_chg {σ : List (Option Int)} {j Z : Nat} (hl : σ.length = 8 * Z) (hj : onOf σ j = true) : ChgC σ (σ.set j none) Z (j / 8) 1 0 := by
  intro k hk
  have hjl := onOf_lt hj
  have h1 := cntOn_set (σ := σ) none hjl (8 * k)
  rw [hj] at h1
  have e0 : (true).toNat = 1 := rfl
  have e1 : (none : Option Int).isSome.toNat = 0 := rfl
  rw [e0, e1] at h1
  by_cases c : j / 8 < k
  · rw [if_pos c, if_pos c]
    rw [if_pos (by omega), if_pos (by omega)] at h1
    omega
  · rw [if_neg c, if_neg c]
    rw [if_neg (by omega), if_neg (by omega)] at h1
    omega

/-- Behind which slot: none, or one that is occupied. -/
inductive BehC (σ : List (Option Int)) (bh : Int) (seg next : Nat) : Prop
  | first (e : bh = -1) (hs : seg = 0) (hn : next = 0)
  | at (b : Nat) (e : bh = b) (ho : onOf σ b = true) (hs : seg = b / 8) (hn : next = b + 1)
theorem rebalOpen_any {f : SF} {σ : List (Option Int)} {g : FuncId} {bnd cps : Array Value} {B : Nat → Prop} {J : List Ev → World → Prop} (T : Teller g bnd cps B J) {w : World} {evs : List Ev}
    (H : SlotsR w f σ) (hJ : J evs w) (hB : ∀ k, B k → ¬ f.mem k ∧ k < w.heap.size) (seg next : Nat) (bh : Int) (hl : 8 * (seg + 1) ≤ σ.length) (h512 : seg + 1 ≤ 512) (hc : BehC σ bh seg next) (h7 : segC σ seg ≤ 7) :
    Calls Tryz.prog 79 #[.pointer (some ⟨f.s, 0, none⟩), .int .i64 seg, .int .i64 bh, .func (.func g) bnd cps] w fun e w' => ∃ slot : Nat, e = .returned (.tuple #[.int .i64 slot, .int .i64 0]) ∧ OpenW w f σ B J evs (8 * seg) next slot w' := by
  obtain ⟨j, j1, j2, j3⟩ := seg_free h7
  cases hc with
  | first e hs hn =>
    subst e hs hn
    refine (rebalOpen_first T H hJ hB 0 hl h512 ⟨j, j1, j2, j3⟩).mono ?_
    rintro e w' ⟨rfl, hW⟩
    exact ⟨0, rfl, hW⟩
  | «at» b e ho hs hn =>
    subst e hs hn
    by_cases c : ∃ j, b + 1 ≤ j ∧ j < 8 * (b / 8) + 8 ∧ onOf σ j = false
    · refine (rebalOpen_right T H hJ hB (b / 8) hl h512 b (by omega) (by omega) ho c).mono ?_
      rintro e w' ⟨rfl, hW⟩
      exact ⟨b + 1, by rw [Int.natCast_add]; rfl, hW⟩
    · have hall : ∀ j, b + 1 ≤ j → j < 8 * (b / 8) + 8 → onOf σ j = true := fun j h1 h2 => by
        cases e : onOf σ j with
        | true => rfl
        | false => exact absurd ⟨j, h1, h2, e⟩ c
      have hjb : j < b := by
        rcases Nat.lt_trichotomy j b with g | g | g
        · exact g
        · subst g; rw [ho] at j3; exact absurd j3 (by simp)
        · have := hall j (by omega) j2; rw [this] at j3; exact absurd j3 (by simp)
      refine (rebalOpen_left T H hJ hB (b / 8) hl h512 b (by omega) (by omega) ho ⟨j, j1, hjb, j3⟩ hall).mono ?_
      rintro e w' ⟨rfl, hW⟩
      exact ⟨b, rfl, hW⟩

/-- A step's outcome, told of an earlier world and a later one. -/
theorem StepOut.done {w w5 w6 w7 : World} {F : PF} {τ : List (Option Int)} {h seg : Nat} {slot : Int} {tv : Value} {B : Nat → Prop} {J : List Ev → World → Prop} {evs : List Ev} {v : Int} {S : St} {Q : Nat}
    (H : StepOut w5 F τ h seg slot tv B J evs v S w6) (T : Hear tv B J) (h1 : Fr (fun k => F.mem k ∨ B k) w w5) (hq : w.heap.size ≤ Q) (hq5 : Q < w5.heap.size) (hF : ¬ F.mem Q) (hB : ¬ B Q) (h7 : Fr (fun k => k = Q) w6 w7) :
    StepOut w F τ h seg slot tv B J evs v S w7 := by
  obtain ⟨F', τ', h', ev, p1, p2, p3, p4, p5, p6, p7, p8⟩ := H.ex
  have hs := h1.size
  refine ⟨H.pk, ⟨F', τ', h', ev, p1, p2.fr h7 (fun k hk e => ?_), p3, p4, T.keep _ _ _ _ p5 h7 (fun k e hb => hB (e ▸ hb)), p6, fun k hk => (p7 k hk).imp id (fun h => by omega), p8⟩, ?_⟩
  · subst e
    rcases p7 k hk with h | h
    · exact hF h
    · omega
  · exact (h1.trans H.fr).trans' h7 (fun j hj _ e => by omega)
end Go.Proofs.YtechphliifginaaGreatDoor

/- pma.Insert (printed by mkx4.py). -/
set_option linter.unusedVariables false
set_option linter.unusedSimpArgs false
namespace Go.Proofs.YtechphliifginaaGreatDoor
open Go.RowKit

/-- What an Insert did. -/
structure InsOut (w : World) (F : PF) (σ : List (Option Int)) (h seg next : Nat) (x : Int) (tv : Value) (B : Nat → Prop) (J : List Ev → World → Prop) (evs : List Ev) (v : Int) (S : St) (w' : World) : Prop where
  ex : ∃ (e1 : List Ev) (τ : List (Option Int)) (slot : Nat), Steps σ e1 τ ∧ OpenR σ (8 * seg) next τ slot ∧ StepOut w F (τ.set slot (some x)) h seg slot tv B J (evs ++ e1 ++ [(x, -1, (slot : Int))]) v S w'

set_option maxRecDepth 100000 in
set_option maxHeartbeats 4000000 in
theorem pmaInsert_at {w : World} {F : PF} {σ : List (Option Int)} {h : Nat} {tv : Value} {B : Nat → Prop} {J : List Ev → World → Prop} {evs : List Ev} (H : PmaR w F σ h tv) (T : Hear tv B J) (hJ : J evs w)
    (hB : ∀ k, B k → ¬ F.mem k ∧ k < w.heap.size ∧ NG ≤ k) (D : Dn σ h) (hT : cntOn (onOf σ) σ.length < 2560) (x : Int) (b : Nat) (hb : onOf σ b = true) :
    Calls Tryz.prog 22 #[.pointer (some ⟨F.p, 0, none⟩), .int .i64 b, .int .i64 x] w fun e w' => ∃ (v : Int) (S : St), e = .returned (.tuple #[.int .i64 v, stV S, .int .i64 0]) ∧ InsOut w F σ h (b / 8) (b + 1) x tv B J evs v S w' := by
  have hG := H.sl.g.size
  have hz := p2_le H.h9
  have hz0 : 0 < 2 ^ h := Nat.pow_pos (by omega)
  have hplt := H.lt
  have hlen := H.len
  obtain ⟨ap1, ap2, ap3, ap4, ap5⟩ := H.apart
  obtain ⟨Q, hQ⟩ : ∃ Q, w.heap.size = Q := ⟨_, rfl⟩
  have hbl := onOf_lt hb
  have hsg : b / 8 < 2 ^ h := by omega
  have e8 : (b : Int) / 8 = ((b / 8 : Nat) : Int) := by omega
  generalize hsgd : b / 8 = sg at *
  have h7 := D.up sg hsg
  have F0 : Fr Nil1 w (w.alloc (.cells #[.int .i64 0, .int .i64 0, .int .i64 0, .int .i64 0] 35)) := (Fr.refl _ _).alloc _
  have hR0 : Has (w.alloc (.cells #[.int .i64 0, .int .i64 0, .int .i64 0, .int .i64 0] 35)) Q [.int .i64 0, .int .i64 0, .int .i64 0, .int .i64 0] 35 := hQ ▸ Has.new w _ _
  obtain ⟨W0, hW0⟩ : ∃ W0, (w.alloc (.cells #[.int .i64 0, .int .i64 0, .int .i64 0, .int .i64 0] 35)) = W0 := ⟨_, rfl⟩
  have HW0 := hid hW0
  rw [hW0] at F0 hR0
  have H0 := H.new F0
  have J0 := T.keep _ _ _ _ hJ F0 (fun _ h => h.elim)
  have hmem : ∀ k, F.mem k ∨ B k → k < Q := fun k hk => by
    rw [← hQ]
    rcases hk with hk | hk
    · exact hplt k hk
    · exact (hB k hk).2.1
  have hq0 := hR0.lt
  have hLn := gapsLen_any H0.sl
  have hCk := pmaCheck_any H0 (b : Int)
  have hck0 : chkE σ b = 0 := by unfold chkE; rw [if_neg (by omega), atB_nat, hb]; rfl
  rw [hck0] at hCk
  have HCk := hid hCk
  clear hCk hck0
  have hOp := rebalOpen_any (evs := evs) (tell_teller (p := F.p) (s0 := .pointer (some ⟨F.sl.s, 0, none⟩)) (t0 := .pointer (some ⟨F.t, 0, none⟩)) T (fun hb => (hB _ hb).1 (.inl rfl))) H0.sl ⟨J0, H0.row⟩ (fun k hk => by
        rcases hk with hk | rfl
        · exact ⟨fun hm => (hB k hk).1 (.inr (.inl hm)), by have := hmem k (.inr hk); omega⟩
        · exact ⟨ap1, by have := hmem F.p (.inl (.inl rfl)); omega⟩)
      sg (b + 1) (b) (by rw [hlen]; omega) (by omega) (.at b rfl hb hsgd.symm rfl) h7
  have HOp := hid hOp
  have HLn := hid hLn
  have HT := hid T
  have HB := hid hB
  have HD := hid D
  have HMem := hid hmem
  have HR0 := hid hR0
  have HP0 := hid H0
  have HF0 := hid F0
  have hgp := H.gp
  have HTot := hid hT
  have htI : ((cntOn (onOf σ) σ.length : Nat) : Int) < 2560 := by omega
  have dfull : decide ((2560 : Int) ≤ ((cntOn (onOf σ) σ.length : Nat) : Int)) = false := decide_eq_false (by omega)
  obtain ⟨r0, r1, r2, rf⟩ := H0.row.three
  obtain ⟨qc0, qc1, qc2, qc3, qcf⟩ := hR0.four
  clear hOp hLn T hB D hmem H0 J0 H hJ hR0 F0 hplt hT
  have HCk' := HD
  have hchgm : ∀ k, (F.sl.chg k ∨ TellB F.p B k) → F.mem k ∨ B k := fun k hk => by
    rcases hk with hk | hk | rfl
    · exact .inl (.inr (.inl (SF.chg_mem hk)))
    · exact .inr hk
    · exact .inl (.inl rfl)
  have hchgt : ∀ k, k = F.t ∨ k = F.d → ¬ (F.sl.chg k ∨ TellB F.p B k) := fun k hk hh => by
    have hkF : F.mem k := by rcases hk with rfl | rfl; exact .inr (.inr (.inl rfl)); exact .inr (.inr (.inr rfl))
    rcases hh with hh | hh | hh
    · rcases hk with rfl | rfl
      · exact ap4 (SF.chg_mem hh)
      · exact ap5 (SF.chg_mem hh)
    · exact (HB.out k hh).1 hkF
    · rcases hk with rfl | rfl
      · exact ap2 hh.symm
      · exact ap3 hh.symm
  have HCm := hid hchgm
  have HCt := hid hchgt
  have HPut := hid (fun τ1 (slot : Nat) w2 (hs : SlotsR w2 F.sl τ1) (ho : OpenR σ (8 * sg) (b + 1) τ1 slot) => show Calls Tryz.prog 80 #[.pointer (some ⟨F.sl.s, 0, none⟩), .int .i64 slot, .int .i64 x] w2 fun e w' => e = .returned (.int .i64 0) ∧ SlotsR w' F.sl (τ1.set slot (some x)) ∧ Fr F.sl.chg w2 w' from by
    have h1 := ho.hi
    have h2 := ho.len
    have := gapsPut_ok hs slot x (by omega) (by omega) (by rw [Int.toNat_natCast]; exact ho.free)
    rw [Int.toNat_natCast] at this
    exact this)
  have HAdd := hid (fun τ1 (slot : Nat) w4 (ho : OpenR σ (8 * sg) (b + 1) τ1 slot) (ht : TreeR w4 F.t F.d h (cntsL σ)) => show Calls Tryz.prog 76 #[.pointer (some ⟨F.t, 0, none⟩), .int .i64 sg, .int .i64 1] w4 fun e w' => e = .returned (.int .i64 0) ∧ TreeR w' F.t F.d h (cntsL (τ1.set slot (some x))) ∧ Fr (fun k => k = F.d) w4 w' from by
    have hc := ho.chg hlen hsg x
    have he := hc.cnts hlen (by rw [List.length_set, ho.len, hlen]) hsg
    have h8 : (cntsL σ).getD sg 0 + 1 ≤ 8 := by rw [cntsL_getD σ _ (by omega)]; omega
    have h0 : 0 ≤ (cntsL σ).getD sg 0 + 1 := by rw [cntsL_getD σ _ (by omega)]; omega
    have := treeAdd_ok ht sg 1 hsg h0 h8
    rw [show ((1 : Nat) : Int) - ((0 : Nat) : Int) = 1 by omega] at he
    rw [← he] at this
    exact this)
  have HStp := hid (fun τ1 (slot : Nat) w5 e1 (ho : OpenR σ (8 * sg) (b + 1) τ1 slot) (hp : PmaR w5 F (τ1.set slot (some x)) h tv) (hj : J (evs ++ e1 ++ [(x, -1, (slot : Int))]) w5) (hsz : w.heap.size ≤ w5.heap.size) =>
    show Calls Tryz.prog 77 #[.pointer (some ⟨F.p, 0, none⟩), .int .i64 sg, .int .i64 slot] w5 fun e w' => ∃ (v : Int) (S : St), e = .returned (.tuple #[.int .i64 v, .agg #[.int .i64 S.k, .int .i64 S.f, .int .i64 S.s, .int .i64 S.c], .int .i64 0]) ∧ StepOut w5 F (τ1.set slot (some x)) h sg slot tv B J (evs ++ e1 ++ [(x, -1, (slot : Int))]) v S w' from by
    have hc := ho.chg hlen hsg x
    have hl2 : (τ1.set slot (some x)).length = σ.length := by rw [List.length_set, ho.len]
    have ht := hc.total HD.out hl2 hsg
    have hlim := HTot.out
    have h1 := ho.hi
    exact pmaStep_ok hp HT.out hj (fun k hk => ⟨(HB.out k hk).1, by have := (HB.out k hk).2.1; omega, (HB.out k hk).2.2⟩) sg slot (hc.dnx HD.out hl2 hsg) (by omega) (by rw [hl2]; omega))
  have hpB := hid (show ¬ B F.p from fun hb => (HB.out _ hb).1 (.inl rfl))
  clear hchgm hchgt
  generalize cntOn (onOf σ) σ.length = NT at *
  go_enter Tryz.func22, Tryz.ntmps22
  go_wp2_with (first
    | (go_at_call 73; (try rw [hW0]); refine HCk.out.mono ?_; rintro e w1 ⟨rfl, rfl⟩)
    | (go_at_call 78; (try rw [hW0]); refine HLn.out.mono ?_; rintro e w1 ⟨rfl, rfl⟩)
    | (go_at_call 79; refine HOp.out.mono ?_; rintro e w2 ⟨slot, rfl, hW⟩; obtain ⟨e1, τ1, hS, hO, hSl, hJ2⟩ := hW.ex; have hF2 := hW.fr; have HS := hid hS; have HO := hid hO; have HSl := hid hSl; have HJ2 := hid hJ2; have HF2 := hid hF2; have g0 := hJ2.2.cell 0; have g1 := hJ2.2.cell 1; clear hW hS hO hSl hJ2 hF2)
    | (go_at_call 80; refine (HPut.out τ1 slot w2 HSl.out HO.out).mono ?_; rintro e w3 ⟨rfl, hs3, hf3⟩; have HT3 := hid (show TellJ F.p (.pointer (some ⟨F.sl.s, 0, none⟩)) (.pointer (some ⟨F.t, 0, none⟩)) tv J (evs ++ e1) w3 from ⟨HT.out.keep _ _ _ _ HJ2.out.1 hf3 (fun k hk hb => (HB.out k hb).1 (.inr (.inl (SF.chg_mem hk)))), HJ2.out.2.fr' hf3 (fun hk => ap1 (SF.chg_mem hk))⟩); have H3 := hid (And.intro hs3 hf3); clear hs3 hf3)
    | (go_at_call 75; refine (pmaTell_ok HT.out hpB.out (evs ++ e1) x (-1) slot w3 HT3.out).mono ?_; rintro e w4 ⟨⟨v4, rfl⟩, hJ4, hf4⟩; have H4 := hid (And.intro hJ4 hf4); have g2 := hJ4.2.cell 1; have hF4 : Fr (fun k => F.sl.chg k ∨ TellB F.p B k) W0 w4 := (HF2.out.trans (H3.out.2.mono (fun _ _ h => .inl h))).trans (hf4.mono (fun _ _ h => .inr (.inl h))); have HF4 := hid hF4; have HT4 := hid (HP0.out.tr.fr hF4 (HCt.out _ (.inl rfl)) (HCt.out _ (.inr rfl))); clear hJ4 hf4 hF4)
    | (go_at_call 76; refine (HAdd.out τ1 slot w4 HO.out HT4.out).mono ?_; rintro e w5 ⟨rfl, hT5, hf5⟩; have HF5 := hid (show Fr (fun k => F.mem k ∨ B k) W0 w5 from (HF4.out.mono (fun k _ h => HCm.out k h)).trans (hf5.mono (fun k _ e => .inl (.inr (.inr (.inr e)))))); have H5 := hid (And.intro hT5 hf5); clear hT5 hf5)
    | (go_at_call 77; have hs5 : w.heap.size ≤ w5.heap.size := (by have h1 := HF5.out.size; have h2 := HF0.out.size; omega); have hp5 : PmaR w5 F (τ1.set slot (some x)) h tv := ⟨hgp, HP0.out.h2, HP0.out.h9, by rw [List.length_set, HO.out.len, hlen], H4.out.1.2.fr' H5.out.2 ap3, (H3.out.1.fr H4.out.2 (fun k hk hb => (HB.out k hb).1 (.inr (.inl hk)))).fr H5.out.2 (fun k hk e => ap5 (e ▸ hk)), H5.out.1, HP0.out.ne⟩; refine (HStp.out τ1 slot w5 e1 HO.out hp5 (HT.out.keep _ _ _ _ H4.out.1.1 H5.out.2 (fun k e hb => (HB.out k hb).1 (.inr (.inr (.inr e))))) hs5).mono ?_; rintro e w6 ⟨v, S, rfl, hOut⟩; have HOut := hid hOut; have HR6 := hid ((HR0.out.fr' HF5.out (fun hk => by have := HMem.out Q hk; omega)).fr' hOut.fr (fun hk => by have := HMem.out Q hk; omega)); obtain ⟨z0, z1, z2, z3, zf⟩ := HR6.out.four; clear hOut hp5))
  have hRF : Has ((((w6.setCell ⟨Q, 0, none⟩ (.int .i64 S.k)).setCell ⟨Q, 1, none⟩ (.int .i64 S.f)).setCell ⟨Q, 2, none⟩ (.int .i64 S.s)).setCell ⟨Q, 3, none⟩ (.int .i64 S.c)) Q [.int .i64 S.k, .int .i64 S.f, .int .i64 S.s, .int .i64 S.c] 35 := HR6.out.set4 (.int .i64 S.k) (.int .i64 S.f) (.int .i64 S.s) (.int .i64 S.c)
  have gq : NG ≤ Q := by omega
  have hFF : Fr (fun k => k = Q) w6 ((((w6.setCell ⟨Q, 0, none⟩ (.int .i64 S.k)).setCell ⟨Q, 1, none⟩ (.int .i64 S.f)).setCell ⟨Q, 2, none⟩ (.int .i64 S.s)).setCell ⟨Q, 3, none⟩ (.int .i64 S.c)) := ((((Fr.refl (fun k => k = Q) w6).setCell ⟨Q, 0, none⟩ (.int .i64 S.k) gq (fun _ => rfl)).setCell ⟨Q, 1, none⟩ (.int .i64 S.f) gq (fun _ => rfl)).setCell ⟨Q, 2, none⟩ (.int .i64 S.s) gq (fun _ => rfl)).setCell ⟨Q, 3, none⟩ (.int .i64 S.c) gq (fun _ => rfl)
  obtain ⟨WF, hWF⟩ : ∃ WF, ((((w6.setCell ⟨Q, 0, none⟩ (.int .i64 S.k)).setCell ⟨Q, 1, none⟩ (.int .i64 S.f)).setCell ⟨Q, 2, none⟩ (.int .i64 S.s)).setCell ⟨Q, 3, none⟩ (.int .i64 S.c)) = WF := ⟨_, rfl⟩
  rw [hWF] at hRF hFF ⊢
  clear z0 z1 z2 z3 zf
  obtain ⟨z0, z1, z2, z3, zf⟩ := hRF.four
  refine bodyPost_ret (v := .tuple #[.int .i64 v, .agg #[.int .i64 S.k, .int .i64 S.f, .int .i64 S.s, .int .i64 S.c], .int .i64 0]) (by simp [results, Tryz.f22, go_sem, z0, z1, z2, z3]) rfl ?_
  have hsz := HF5.out.size
  exact ⟨v, S, rfl, ⟨e1, τ1, slot, HS.out, HO.out, HOut.out.done HT.out ((HF0.out.mono (fun _ _ h => h.elim)).trans HF5.out) (by omega) (by omega) (fun hk => by have := HMem.out Q (.inl hk); omega) (fun hk => by have := HMem.out Q (.inr hk); omega) hFF⟩⟩

set_option maxRecDepth 100000 in
set_option maxHeartbeats 4000000 in
theorem pmaInsert_first {w : World} {F : PF} {σ : List (Option Int)} {h : Nat} {tv : Value} {B : Nat → Prop} {J : List Ev → World → Prop} {evs : List Ev} (H : PmaR w F σ h tv) (T : Hear tv B J) (hJ : J evs w)
    (hB : ∀ k, B k → ¬ F.mem k ∧ k < w.heap.size ∧ NG ≤ k) (D : Dn σ h) (hT : cntOn (onOf σ) σ.length < 2560) (x : Int) :
    Calls Tryz.prog 22 #[.pointer (some ⟨F.p, 0, none⟩), .int .i64 (-1), .int .i64 x] w fun e w' => ∃ (v : Int) (S : St), e = .returned (.tuple #[.int .i64 v, stV S, .int .i64 0]) ∧ InsOut w F σ h 0 0 x tv B J evs v S w' := by
  have hG := H.sl.g.size
  have hz := p2_le H.h9
  have hz0 : 0 < 2 ^ h := Nat.pow_pos (by omega)
  have hplt := H.lt
  have hlen := H.len
  obtain ⟨ap1, ap2, ap3, ap4, ap5⟩ := H.apart
  obtain ⟨Q, hQ⟩ : ∃ Q, w.heap.size = Q := ⟨_, rfl⟩
  have hsg : 0 < 2 ^ h := hz0

  have h7 := D.up 0 hsg
  have F0 : Fr Nil1 w (w.alloc (.cells #[.int .i64 0, .int .i64 0, .int .i64 0, .int .i64 0] 35)) := (Fr.refl _ _).alloc _
  have hR0 : Has (w.alloc (.cells #[.int .i64 0, .int .i64 0, .int .i64 0, .int .i64 0] 35)) Q [.int .i64 0, .int .i64 0, .int .i64 0, .int .i64 0] 35 := hQ ▸ Has.new w _ _
  obtain ⟨W0, hW0⟩ : ∃ W0, (w.alloc (.cells #[.int .i64 0, .int .i64 0, .int .i64 0, .int .i64 0] 35)) = W0 := ⟨_, rfl⟩
  have HW0 := hid hW0
  rw [hW0] at F0 hR0
  have H0 := H.new F0
  have J0 := T.keep _ _ _ _ hJ F0 (fun _ h => h.elim)
  have hmem : ∀ k, F.mem k ∨ B k → k < Q := fun k hk => by
    rw [← hQ]
    rcases hk with hk | hk
    · exact hplt k hk
    · exact (hB k hk).2.1
  have hq0 := hR0.lt
  have hLn := gapsLen_any H0.sl
  have hlp : F.p < w.heap.size := hplt F.p (.inl rfl)
  have hlq : F.p < Q := by omega
  obtain ⟨o0, o1, o2, of⟩ := H.row.three
  have hOp := rebalOpen_any (evs := evs) (tell_teller (p := F.p) (s0 := .pointer (some ⟨F.sl.s, 0, none⟩)) (t0 := .pointer (some ⟨F.t, 0, none⟩)) T (fun hb => (hB _ hb).1 (.inl rfl))) H0.sl ⟨J0, H0.row⟩ (fun k hk => by
        rcases hk with hk | rfl
        · exact ⟨fun hm => (hB k hk).1 (.inr (.inl hm)), by have := hmem k (.inr hk); omega⟩
        · exact ⟨ap1, by have := hmem F.p (.inl (.inl rfl)); omega⟩)
      0 0 (-1) (by rw [hlen]; omega) (by omega) (.first rfl rfl rfl) h7
  have HOp := hid hOp
  have HLn := hid hLn
  have HT := hid T
  have HB := hid hB
  have HD := hid D
  have HMem := hid hmem
  have HR0 := hid hR0
  have HP0 := hid H0
  have HF0 := hid F0
  have hgp := H.gp
  have HTot := hid hT
  have htI : ((cntOn (onOf σ) σ.length : Nat) : Int) < 2560 := by omega
  have dfull : decide ((2560 : Int) ≤ ((cntOn (onOf σ) σ.length : Nat) : Int)) = false := decide_eq_false (by omega)
  obtain ⟨r0, r1, r2, rf⟩ := H0.row.three
  obtain ⟨qc0, qc1, qc2, qc3, qcf⟩ := hR0.four
  clear hOp hLn T hB D hmem H0 J0 H hJ hR0 F0 hplt hT
  have HCk' := HD
  have hchgm : ∀ k, (F.sl.chg k ∨ TellB F.p B k) → F.mem k ∨ B k := fun k hk => by
    rcases hk with hk | hk | rfl
    · exact .inl (.inr (.inl (SF.chg_mem hk)))
    · exact .inr hk
    · exact .inl (.inl rfl)
  have hchgt : ∀ k, k = F.t ∨ k = F.d → ¬ (F.sl.chg k ∨ TellB F.p B k) := fun k hk hh => by
    have hkF : F.mem k := by rcases hk with rfl | rfl; exact .inr (.inr (.inl rfl)); exact .inr (.inr (.inr rfl))
    rcases hh with hh | hh | hh
    · rcases hk with rfl | rfl
      · exact ap4 (SF.chg_mem hh)
      · exact ap5 (SF.chg_mem hh)
    · exact (HB.out k hh).1 hkF
    · rcases hk with rfl | rfl
      · exact ap2 hh.symm
      · exact ap3 hh.symm
  have HCm := hid hchgm
  have HCt := hid hchgt
  have HPut := hid (fun τ1 (slot : Nat) w2 (hs : SlotsR w2 F.sl τ1) (ho : OpenR σ (8 * 0) 0 τ1 slot) => show Calls Tryz.prog 80 #[.pointer (some ⟨F.sl.s, 0, none⟩), .int .i64 slot, .int .i64 x] w2 fun e w' => e = .returned (.int .i64 0) ∧ SlotsR w' F.sl (τ1.set slot (some x)) ∧ Fr F.sl.chg w2 w' from by
    have h1 := ho.hi
    have h2 := ho.len
    have := gapsPut_ok hs slot x (by omega) (by omega) (by rw [Int.toNat_natCast]; exact ho.free)
    rw [Int.toNat_natCast] at this
    exact this)
  have HAdd := hid (fun τ1 (slot : Nat) w4 (ho : OpenR σ (8 * 0) 0 τ1 slot) (ht : TreeR w4 F.t F.d h (cntsL σ)) => show Calls Tryz.prog 76 #[.pointer (some ⟨F.t, 0, none⟩), .int .i64 0, .int .i64 1] w4 fun e w' => e = .returned (.int .i64 0) ∧ TreeR w' F.t F.d h (cntsL (τ1.set slot (some x))) ∧ Fr (fun k => k = F.d) w4 w' from by
    have hc := ho.chg hlen hsg x
    have he := hc.cnts hlen (by rw [List.length_set, ho.len, hlen]) hsg
    have h8 : (cntsL σ).getD 0 0 + 1 ≤ 8 := by rw [cntsL_getD σ _ (by omega)]; omega
    have h0 : 0 ≤ (cntsL σ).getD 0 0 + 1 := by rw [cntsL_getD σ _ (by omega)]; omega
    have := treeAdd_ok ht 0 1 hsg h0 h8
    rw [show ((1 : Nat) : Int) - ((0 : Nat) : Int) = 1 by omega] at he
    rw [← he] at this
    exact this)
  have HStp := hid (fun τ1 (slot : Nat) w5 e1 (ho : OpenR σ (8 * 0) 0 τ1 slot) (hp : PmaR w5 F (τ1.set slot (some x)) h tv) (hj : J (evs ++ e1 ++ [(x, -1, (slot : Int))]) w5) (hsz : w.heap.size ≤ w5.heap.size) =>
    show Calls Tryz.prog 77 #[.pointer (some ⟨F.p, 0, none⟩), .int .i64 0, .int .i64 slot] w5 fun e w' => ∃ (v : Int) (S : St), e = .returned (.tuple #[.int .i64 v, .agg #[.int .i64 S.k, .int .i64 S.f, .int .i64 S.s, .int .i64 S.c], .int .i64 0]) ∧ StepOut w5 F (τ1.set slot (some x)) h 0 slot tv B J (evs ++ e1 ++ [(x, -1, (slot : Int))]) v S w' from by
    have hc := ho.chg hlen hsg x
    have hl2 : (τ1.set slot (some x)).length = σ.length := by rw [List.length_set, ho.len]
    have ht := hc.total HD.out hl2 hsg
    have hlim := HTot.out
    have h1 := ho.hi
    exact pmaStep_ok hp HT.out hj (fun k hk => ⟨(HB.out k hk).1, by have := (HB.out k hk).2.1; omega, (HB.out k hk).2.2⟩) 0 slot (hc.dnx HD.out hl2 hsg) (by omega) (by rw [hl2]; omega))
  have hpB := hid (show ¬ B F.p from fun hb => (HB.out _ hb).1 (.inl rfl))
  clear hchgm hchgt
  generalize cntOn (onOf σ) σ.length = NT at *
  go_enter Tryz.func22, Tryz.ntmps22
  go_wp2_with (first
    | (go_at_call 78; (try rw [hW0]); refine HLn.out.mono ?_; rintro e w1 ⟨rfl, rfl⟩)
    | (go_at_call 79; refine HOp.out.mono ?_; rintro e w2 ⟨slot, rfl, hW⟩; obtain ⟨e1, τ1, hS, hO, hSl, hJ2⟩ := hW.ex; have hF2 := hW.fr; have HS := hid hS; have HO := hid hO; have HSl := hid hSl; have HJ2 := hid hJ2; have HF2 := hid hF2; have g0 := hJ2.2.cell 0; have g1 := hJ2.2.cell 1; clear hW hS hO hSl hJ2 hF2)
    | (go_at_call 80; refine (HPut.out τ1 slot w2 HSl.out HO.out).mono ?_; rintro e w3 ⟨rfl, hs3, hf3⟩; have HT3 := hid (show TellJ F.p (.pointer (some ⟨F.sl.s, 0, none⟩)) (.pointer (some ⟨F.t, 0, none⟩)) tv J (evs ++ e1) w3 from ⟨HT.out.keep _ _ _ _ HJ2.out.1 hf3 (fun k hk hb => (HB.out k hb).1 (.inr (.inl (SF.chg_mem hk)))), HJ2.out.2.fr' hf3 (fun hk => ap1 (SF.chg_mem hk))⟩); have H3 := hid (And.intro hs3 hf3); clear hs3 hf3)
    | (go_at_call 75; refine (pmaTell_ok HT.out hpB.out (evs ++ e1) x (-1) slot w3 HT3.out).mono ?_; rintro e w4 ⟨⟨v4, rfl⟩, hJ4, hf4⟩; have H4 := hid (And.intro hJ4 hf4); have g2 := hJ4.2.cell 1; have hF4 : Fr (fun k => F.sl.chg k ∨ TellB F.p B k) W0 w4 := (HF2.out.trans (H3.out.2.mono (fun _ _ h => .inl h))).trans (hf4.mono (fun _ _ h => .inr (.inl h))); have HF4 := hid hF4; have HT4 := hid (HP0.out.tr.fr hF4 (HCt.out _ (.inl rfl)) (HCt.out _ (.inr rfl))); clear hJ4 hf4 hF4)
    | (go_at_call 76; refine (HAdd.out τ1 slot w4 HO.out HT4.out).mono ?_; rintro e w5 ⟨rfl, hT5, hf5⟩; have HF5 := hid (show Fr (fun k => F.mem k ∨ B k) W0 w5 from (HF4.out.mono (fun k _ h => HCm.out k h)).trans (hf5.mono (fun k _ e => .inl (.inr (.inr (.inr e)))))); have H5 := hid (And.intro hT5 hf5); clear hT5 hf5)
    | (go_at_call 77; have hs5 : w.heap.size ≤ w5.heap.size := (by have h1 := HF5.out.size; have h2 := HF0.out.size; omega); have hp5 : PmaR w5 F (τ1.set slot (some x)) h tv := ⟨hgp, HP0.out.h2, HP0.out.h9, by rw [List.length_set, HO.out.len, hlen], H4.out.1.2.fr' H5.out.2 ap3, (H3.out.1.fr H4.out.2 (fun k hk hb => (HB.out k hb).1 (.inr (.inl hk)))).fr H5.out.2 (fun k hk e => ap5 (e ▸ hk)), H5.out.1, HP0.out.ne⟩; refine (HStp.out τ1 slot w5 e1 HO.out hp5 (HT.out.keep _ _ _ _ H4.out.1.1 H5.out.2 (fun k e hb => (HB.out k hb).1 (.inr (.inr (.inr e))))) hs5).mono ?_; rintro e w6 ⟨v, S, rfl, hOut⟩; have HOut := hid hOut; have HR6 := hid ((HR0.out.fr' HF5.out (fun hk => by have := HMem.out Q hk; omega)).fr' hOut.fr (fun hk => by have := HMem.out Q hk; omega)); obtain ⟨z0, z1, z2, z3, zf⟩ := HR6.out.four; clear hOut hp5))
  have hRF : Has ((((w6.setCell ⟨Q, 0, none⟩ (.int .i64 S.k)).setCell ⟨Q, 1, none⟩ (.int .i64 S.f)).setCell ⟨Q, 2, none⟩ (.int .i64 S.s)).setCell ⟨Q, 3, none⟩ (.int .i64 S.c)) Q [.int .i64 S.k, .int .i64 S.f, .int .i64 S.s, .int .i64 S.c] 35 := HR6.out.set4 (.int .i64 S.k) (.int .i64 S.f) (.int .i64 S.s) (.int .i64 S.c)
  have gq : NG ≤ Q := by omega
  have hFF : Fr (fun k => k = Q) w6 ((((w6.setCell ⟨Q, 0, none⟩ (.int .i64 S.k)).setCell ⟨Q, 1, none⟩ (.int .i64 S.f)).setCell ⟨Q, 2, none⟩ (.int .i64 S.s)).setCell ⟨Q, 3, none⟩ (.int .i64 S.c)) := ((((Fr.refl (fun k => k = Q) w6).setCell ⟨Q, 0, none⟩ (.int .i64 S.k) gq (fun _ => rfl)).setCell ⟨Q, 1, none⟩ (.int .i64 S.f) gq (fun _ => rfl)).setCell ⟨Q, 2, none⟩ (.int .i64 S.s) gq (fun _ => rfl)).setCell ⟨Q, 3, none⟩ (.int .i64 S.c) gq (fun _ => rfl)
  obtain ⟨WF, hWF⟩ : ∃ WF, ((((w6.setCell ⟨Q, 0, none⟩ (.int .i64 S.k)).setCell ⟨Q, 1, none⟩ (.int .i64 S.f)).setCell ⟨Q, 2, none⟩ (.int .i64 S.s)).setCell ⟨Q, 3, none⟩ (.int .i64 S.c)) = WF := ⟨_, rfl⟩
  rw [hWF] at hRF hFF ⊢
  clear z0 z1 z2 z3 zf
  obtain ⟨z0, z1, z2, z3, zf⟩ := hRF.four
  refine bodyPost_ret (v := .tuple #[.int .i64 v, .agg #[.int .i64 S.k, .int .i64 S.f, .int .i64 S.s, .int .i64 S.c], .int .i64 0]) (by simp [results, Tryz.f22, go_sem, z0, z1, z2, z3]) rfl ?_
  have hsz := HF5.out.size
  exact ⟨v, S, rfl, ⟨e1, τ1, slot, HS.out, HO.out, HOut.out.done HT.out ((HF0.out.mono (fun _ _ h => h.elim)).trans HF5.out) (by omega) (by omega) (fun hk => by have := HMem.out Q (.inl hk); omega) (fun hk => by have := HMem.out Q (.inr hk); omega) hFF⟩⟩
end Go.Proofs.YtechphliifginaaGreatDoor

/- pma.Delete. -/
set_option linter.unusedVariables false
set_option linter.unusedSimpArgs false
namespace Go.Proofs.YtechphliifginaaGreatDoor
open Go.RowKit

set_option maxRecDepth 100000 in
set_option maxHeartbeats 4000000 in
theorem pmaDelete_ok {w : World} {F : PF} {σ : List (Option Int)} {h : Nat} {tv : Value} {B : Nat → Prop} {J : List Ev → World → Prop} {evs : List Ev} (H : PmaR w F σ h tv) (T : Hear tv B J) (hJ : J evs w)
    (hB : ∀ k, B k → ¬ F.mem k ∧ k < w.heap.size ∧ NG ≤ k) (D : Dn σ h) (hT : cntOn (onOf σ) σ.length ≤ 2560) (j : Nat) (x : Int) (hx : σ.getD j none = some x) :
    Calls Tryz.prog 21 #[.pointer (some ⟨F.p, 0, none⟩), .int .i64 j] w fun e w' => ∃ (v : Int) (S : St), e = .returned (.tuple #[.int .i64 x, stV S, .int .i64 0]) ∧ StepOut w F (σ.set j none) h (j / 8) (-1) tv B J (evs ++ [(x, (j : Int), -1)]) v S w' := by
  have hG := H.sl.g.size
  have hz := p2_le H.h9
  have hz0 : 0 < 2 ^ h := Nat.pow_pos (by omega)
  have hplt := H.lt
  have hlen := H.len
  obtain ⟨ap1, ap2, ap3, ap4, ap5⟩ := H.apart
  obtain ⟨Q, hQ⟩ : ∃ Q, w.heap.size = Q := ⟨_, rfl⟩
  have hj := onOf_some hx
  have hjl := onOf_lt hj
  have hsg : j / 8 < 2 ^ h := by omega
  have hchg := take_chg (Z := 2 ^ h) hlen hj
  have e8 : (j : Int) / 8 = ((j / 8 : Nat) : Int) := by omega
  generalize hsgd : j / 8 = sg at *
  have F0 : Fr Nil1 w (w.alloc (.cells #[.int .i64 0, .int .i64 0, .int .i64 0, .int .i64 0] 35)) := (Fr.refl _ _).alloc _
  have hR0 : Has (w.alloc (.cells #[.int .i64 0, .int .i64 0, .int .i64 0, .int .i64 0] 35)) Q [.int .i64 0, .int .i64 0, .int .i64 0, .int .i64 0] 35 := hQ ▸ Has.new w _ _
  obtain ⟨W0, hW0⟩ : ∃ W0, (w.alloc (.cells #[.int .i64 0, .int .i64 0, .int .i64 0, .int .i64 0] 35)) = W0 := ⟨_, rfl⟩
  rw [hW0] at F0 hR0
  have H0 := H.new F0
  have J0 := T.keep _ _ _ _ hJ F0 (fun _ h => h.elim)
  have hmem : ∀ k, F.mem k ∨ B k → k < Q := fun k hk => by
    rw [← hQ]
    rcases hk with hk | hk
    · exact hplt k hk
    · exact (hB k hk).2.1
  have hq0 := hR0.lt
  have hCk := pmaCheck_any H0 (j : Int)
  have hck0 : chkE σ j = 0 := by unfold chkE; rw [if_neg (by omega), atB_nat, hj]; rfl
  rw [hck0] at hCk
  have HCk := hid hCk
  have hTk := gapsTake_ok H0.sl (j : Int) x (by omega) (by omega) (by rw [Int.toNat_natCast]; exact hx)
  rw [Int.toNat_natCast] at hTk
  have HTk := hid hTk
  have HT := hid T
  have HB := hid hB
  have HMem := hid hmem
  have HR0 := hid hR0
  have HP0 := hid H0
  have HF0 := hid F0
  have HJ0 := hid J0
  have hgp := H.gp
  obtain ⟨r0, r1, r2, rf⟩ := H0.row.three
  obtain ⟨qc0, qc1, qc2, qc3, qcf⟩ := hR0.four
  have hpB := hid (show ¬ B F.p from fun hb => (hB _ hb).1 (.inl rfl))
  have hl2 : (σ.set j none).length = σ.length := List.length_set
  have HAdd := hid (fun w4 (ht : TreeR w4 F.t F.d h (cntsL σ)) => show Calls Tryz.prog 76 #[.pointer (some ⟨F.t, 0, none⟩), .int .i64 sg, .int .i64 (-1)] w4 fun e w' => e = .returned (.int .i64 0) ∧ TreeR w' F.t F.d h (cntsL (σ.set j none)) ∧ Fr (fun k => k = F.d) w4 w' from by
    have he := hchg.cnts hlen (by rw [hl2, hlen]) hsg
    have h3 := (hchg.seg).2 hsg
    have h5 := segC_le σ sg
    have h8 : (cntsL σ).getD sg 0 + -1 ≤ 8 := by rw [cntsL_getD σ _ (by omega)]; omega
    have h0 : 0 ≤ (cntsL σ).getD sg 0 + -1 := by rw [cntsL_getD σ _ (by omega)]; omega
    have := treeAdd_ok ht sg (-1) hsg h0 h8
    rw [show ((0 : Nat) : Int) - ((1 : Nat) : Int) = -1 by omega] at he
    rw [← he] at this
    exact this)
  have HStp := hid (fun w5 (hp : PmaR w5 F (σ.set j none) h tv) (hj5 : J (evs ++ [(x, (j : Int), -1)]) w5) (hsz : w.heap.size ≤ w5.heap.size) =>
    show Calls Tryz.prog 77 #[.pointer (some ⟨F.p, 0, none⟩), .int .i64 sg, .int .i64 (-1)] w5 fun e w' => ∃ (v : Int) (S : St), e = .returned (.tuple #[.int .i64 v, .agg #[.int .i64 S.k, .int .i64 S.f, .int .i64 S.s, .int .i64 S.c], .int .i64 0]) ∧ StepOut w5 F (σ.set j none) h sg (-1) tv B J (evs ++ [(x, (j : Int), -1)]) v S w' from by
    have ht := hchg.total D hl2 hsg
    exact pmaStep_ok hp T hj5 (fun k hk => ⟨(hB k hk).1, by have := (hB k hk).2.1; omega, (hB k hk).2.2⟩) sg (-1) (hchg.dnx D hl2 hsg) (by omega) (by omega))
  clear hCk hck0 hTk T hB D hmem H0 J0 H hJ hR0 F0 hplt hT hchg
  rw [← hQ] at qc0 qc1 qc2 qc3 qcf
  go_enter Tryz.func21, Tryz.ntmps21
  go_wp2_with (first
    | (go_at_call 73; (try rw [hW0]); refine HCk.out.mono ?_; rintro e w1 ⟨rfl, rfl⟩)
    | (go_at_call 74; refine HTk.out.mono ?_; rintro e w3 ⟨rfl, hs3, hf3⟩; have HT3 := hid (show TellJ F.p (.pointer (some ⟨F.sl.s, 0, none⟩)) (.pointer (some ⟨F.t, 0, none⟩)) tv J evs w3 from ⟨HT.out.keep _ _ _ _ HJ0.out hf3 (fun k hk hb => (HB.out k hb).1 (.inr (.inl (SF.chg_mem hk)))), HP0.out.row.fr' hf3 (fun hk => ap1 (SF.chg_mem hk))⟩); have H3 := hid (And.intro hs3 hf3); clear hs3 hf3)
    | (go_at_call 75; refine (pmaTell_ok HT.out hpB.out evs x (j : Int) (-1) w3 HT3.out).mono ?_; rintro e w4 ⟨⟨v4, rfl⟩, hJ4, hf4⟩; have H4 := hid (And.intro hJ4 hf4); have g2 := hJ4.2.cell 1; have hF4 : Fr (fun k => F.sl.chg k ∨ B k) W0 w4 := (H3.out.2.mono (fun _ _ h => .inl h)).trans (hf4.mono (fun _ _ h => .inr h)); have HF4 := hid hF4; have HT4 := hid (HP0.out.tr.fr hF4 (fun hh => hh.elim (fun hk => ap4 (SF.chg_mem hk)) (fun hb => (HB.out _ hb).1 (.inr (.inr (.inl rfl))))) (fun hh => hh.elim (fun hk => ap5 (SF.chg_mem hk)) (fun hb => (HB.out _ hb).1 (.inr (.inr (.inr rfl)))))); clear hJ4 hf4 hF4)
    | (go_at_call 76; refine (HAdd.out w4 HT4.out).mono ?_; rintro e w5 ⟨rfl, hT5, hf5⟩; have HF5 := hid (show Fr (fun k => F.mem k ∨ B k) W0 w5 from (HF4.out.mono (fun k _ h => h.imp (fun hk => .inr (.inl (SF.chg_mem hk))) id)).trans (hf5.mono (fun k _ e => .inl (.inr (.inr (.inr e)))))); have H5 := hid (And.intro hT5 hf5); clear hT5 hf5)
    | (go_at_call 77; have hs5 : w.heap.size ≤ w5.heap.size := (by have h1 := HF5.out.size; have h2 := HF0.out.size; omega); have hp5 : PmaR w5 F (σ.set j none) h tv := ⟨hgp, HP0.out.h2, HP0.out.h9, by rw [hl2, hlen], H4.out.1.2.fr' H5.out.2 ap3, (H3.out.1.fr H4.out.2 (fun k hk hb => (HB.out k hb).1 (.inr (.inl hk)))).fr H5.out.2 (fun k hk e => ap5 (e ▸ hk)), H5.out.1, HP0.out.ne⟩; refine (HStp.out w5 hp5 (HT.out.keep _ _ _ _ H4.out.1.1 H5.out.2 (fun k e hb => (HB.out k hb).1 (.inr (.inr (.inr e))))) hs5).mono ?_; rintro e w6 ⟨v, S, rfl, hOut⟩; have HOut := hid hOut; have HR6 := hid ((HR0.out.fr' HF5.out (fun hk => by have := HMem.out Q hk; omega)).fr' hOut.fr (fun hk => by have := HMem.out Q hk; omega)); clear hOut hp5))
  have hq6 : Q < w6.heap.size := HR6.out.lt
  have hst : Has (w6.alloc (.cells #[.int .i64 S.k, .int .i64 S.f, .int .i64 S.s, .int .i64 S.c] 35)) w6.heap.size [.int .i64 S.k, .int .i64 S.f, .int .i64 S.s, .int .i64 S.c] 35 := Has.new w6 _ _
  have hfr : Fr Nil1 w6 (w6.alloc (.cells #[.int .i64 S.k, .int .i64 S.f, .int .i64 S.s, .int .i64 S.c] 35)) := (Fr.refl _ _).alloc _
  obtain ⟨W7, hW7⟩ : ∃ W7, (w6.alloc (.cells #[.int .i64 S.k, .int .i64 S.f, .int .i64 S.s, .int .i64 S.c] 35)) = W7 := ⟨_, rfl⟩
  rw [hW7] at hst hfr ⊢
  obtain ⟨A, hA⟩ : ∃ A, w6.heap.size = A := ⟨_, rfl⟩
  rw [hA] at hst hq6 ⊢
  have HFr := hid hfr
  have HR7 := hid (HR6.out.fr' hfr id)
  obtain ⟨s0, s1, s2, s3, sf⟩ := hst.four
  obtain ⟨b0, b1, b2, b3, bf⟩ := HR7.out.four
  have n2 : A ≠ Q := by omega
  have n3 : Q ≠ A := by omega
  clear hst hfr hW7
  go_region_held3 (fun w' => w'.cell? ⟨A, 0, none⟩ = some (.int .i64 S.k) ∧ w'.cell? ⟨A, 1, none⟩ = some (.int .i64 S.f) ∧ w'.cell? ⟨A, 2, none⟩ = some (.int .i64 S.s) ∧ w'.cell? ⟨A, 3, none⟩ = some (.int .i64 S.c)) (go_keep) (fail)
  go_wp2_with fail
  have hRF : Has ((((W7.setCell ⟨Q, 0, none⟩ (.int .i64 S.k)).setCell ⟨Q, 1, none⟩ (.int .i64 S.f)).setCell ⟨Q, 2, none⟩ (.int .i64 S.s)).setCell ⟨Q, 3, none⟩ (.int .i64 S.c)).drew Q [.int .i64 S.k, .int .i64 S.f, .int .i64 S.s, .int .i64 S.c] 35 := (HR7.out.set4 (.int .i64 S.k) (.int .i64 S.f) (.int .i64 S.s) (.int .i64 S.c)).fr' (Fr.refl Nil1 _).drew id
  have gq : NG ≤ Q := by omega
  have hFF : Fr (fun k => k = Q) W7 ((((W7.setCell ⟨Q, 0, none⟩ (.int .i64 S.k)).setCell ⟨Q, 1, none⟩ (.int .i64 S.f)).setCell ⟨Q, 2, none⟩ (.int .i64 S.s)).setCell ⟨Q, 3, none⟩ (.int .i64 S.c)).drew := (((((Fr.refl (fun k => k = Q) W7).setCell ⟨Q, 0, none⟩ (.int .i64 S.k) gq (fun _ => rfl)).setCell ⟨Q, 1, none⟩ (.int .i64 S.f) gq (fun _ => rfl)).setCell ⟨Q, 2, none⟩ (.int .i64 S.s) gq (fun _ => rfl)).setCell ⟨Q, 3, none⟩ (.int .i64 S.c) gq (fun _ => rfl)).drew
  obtain ⟨WF, hWF⟩ : ∃ WF, ((((W7.setCell ⟨Q, 0, none⟩ (.int .i64 S.k)).setCell ⟨Q, 1, none⟩ (.int .i64 S.f)).setCell ⟨Q, 2, none⟩ (.int .i64 S.s)).setCell ⟨Q, 3, none⟩ (.int .i64 S.c)).drew = WF := ⟨_, rfl⟩
  rw [hWF] at hRF hFF ⊢
  obtain ⟨z0, z1, z2, z3, zf⟩ := hRF.four
  refine bodyPost_ret (v := .tuple #[.int .i64 x, .agg #[.int .i64 S.k, .int .i64 S.f, .int .i64 S.s, .int .i64 S.c], .int .i64 0]) (by simp [results, Tryz.f21, go_sem, z0, z1, z2, z3]) rfl ?_
  have hsz := HF5.out.size
  exact ⟨v, S, rfl, HOut.out.done HT.out ((HF0.out.mono (fun _ _ h => h.elim)).trans HF5.out) (by omega) (by omega) (fun hk => by have := HMem.out Q (.inl hk); omega) (fun hk => by have := HMem.out Q (.inr hk); omega) ((HFr.out.mono (fun _ _ h => h.elim)).trans hFF)⟩

set_option maxRecDepth 100000 in
set_option maxHeartbeats 2000000 in
theorem pmaDelete_bad {w : World} {F : PF} {σ : List (Option Int)} {h : Nat} {tv : Value} (H : PmaR w F σ h tv) (s E : Int) (hE : chkE σ s = E) (h0 : E ≠ 0) :
    Calls Tryz.prog 21 #[.pointer (some ⟨F.p, 0, none⟩), .int .i64 s] w fun e w' => e = .returned (.tuple #[.int .i64 0, stV st0, .int .i64 E]) ∧ Fr Nil1 w w' := by
  have hG := H.sl.g.size
  have HCk := hid (fun w' (hf : Fr Nil1 w w') => hE ▸ pmaCheck_any (H.new hf) s)
  have d0 : (E == 0) = false := beq_eq_false_iff_ne.2 h0
  have F0 := hid (show Fr Nil1 w (w.alloc (.cells #[.int .i64 0, .int .i64 0, .int .i64 0, .int .i64 0] 35)) from (Fr.refl _ _).alloc _)
  clear H hE
  go_enter Tryz.func21, Tryz.ntmps21
  go_wp2_with (go_at_call 73; refine (HCk.out _ F0.out).mono ?_; rintro e w1 ⟨rfl, rfl⟩)
  refine bodyPost_ret (v := .tuple #[.int .i64 0, .agg #[.int .i64 0, .int .i64 0, .int .i64 0, .int .i64 0], .int .i64 E]) (by simp [results, Tryz.f21, go_sem]) rfl ?_
  exact ⟨rfl, F0.out⟩
set_option maxRecDepth 100000 in
set_option maxHeartbeats 2000000 in
theorem pmaInsert_bad {w : World} {F : PF} {σ : List (Option Int)} {h : Nat} {tv : Value} (H : PmaR w F σ h tv) (s x E : Int) (hs : s ≠ -1) (hE : chkE σ s = E) (h0 : E ≠ 0) :
    Calls Tryz.prog 22 #[.pointer (some ⟨F.p, 0, none⟩), .int .i64 s, .int .i64 x] w fun e w' => e = .returned (.tuple #[.int .i64 0, stV st0, .int .i64 E]) ∧ Fr Nil1 w w' := by
  have hG := H.sl.g.size
  have HCk := hid (fun w' (hf : Fr Nil1 w w') => hE ▸ pmaCheck_any (H.new hf) s)
  have d0 : (E == 0) = false := beq_eq_false_iff_ne.2 h0
  have d1 : (s == -1) = false := beq_eq_false_iff_ne.2 hs
  have F0 := hid (show Fr Nil1 w (w.alloc (.cells #[.int .i64 0, .int .i64 0, .int .i64 0, .int .i64 0] 35)) from (Fr.refl _ _).alloc _)
  clear H hE
  go_enter Tryz.func22, Tryz.ntmps22
  go_wp2_with (go_at_call 73; refine (HCk.out _ F0.out).mono ?_; rintro e w1 ⟨rfl, rfl⟩)
  refine bodyPost_ret (v := .tuple #[.int .i64 0, .agg #[.int .i64 0, .int .i64 0, .int .i64 0, .int .i64 0], .int .i64 E]) (by simp [results, Tryz.f22, go_sem]) rfl ?_
  exact ⟨rfl, F0.out⟩
set_option maxRecDepth 100000 in
set_option maxHeartbeats 2000000 in
theorem pmaInsert_full {w : World} {F : PF} {σ : List (Option Int)} {h : Nat} {tv : Value} (H : PmaR w F σ h tv) (s x : Int) (hs : s = -1 ∨ chkE σ s = 0) (hT : 2560 ≤ cntOn (onOf σ) σ.length) :
    Calls Tryz.prog 22 #[.pointer (some ⟨F.p, 0, none⟩), .int .i64 s, .int .i64 x] w fun e w' => e = .returned (.tuple #[.int .i64 0, stV st0, .int .i64 16]) ∧ Fr Nil1 w w' := by
  have hG := H.sl.g.size
  have HLn := hid (fun w' (hf : Fr Nil1 w w') => gapsLen_any (H.new hf).sl)
  have hmx := cntOn_le (onOf σ) σ.length
  have hlt := H.len
  have hz := p2_le H.h9
  have dfull : decide ((2560 : Int) ≤ ((cntOn (onOf σ) σ.length : Nat) : Int)) = true := decide_eq_true (by omega)
  have dI : (2560 : Int) ≤ ((cntOn (onOf σ) σ.length : Nat) : Int) := by omega
  have F0 := hid (show Fr Nil1 w (w.alloc (.cells #[.int .i64 0, .int .i64 0, .int .i64 0, .int .i64 0] 35)) from (Fr.refl _ _).alloc _)
  obtain ⟨r0, r1, r2, rf⟩ := H.row.three
  have hlp : F.p < w.heap.size := H.lt F.p (.inl rfl)
  by_cases hs1 : s = -1
  · subst hs1
    clear H hmx hlt hz hT hs
    generalize cntOn (onOf σ) σ.length = NT at *
    go_enter Tryz.func22, Tryz.ntmps22
    go_wp2_with (go_at_call 78; refine (HLn.out _ F0.out).mono ?_; rintro e w1 ⟨rfl, rfl⟩)
    refine bodyPost_ret (v := .tuple #[.int .i64 0, .agg #[.int .i64 0, .int .i64 0, .int .i64 0, .int .i64 0], .int .i64 16]) (by simp [results, Tryz.f22, go_sem]) rfl ?_
    exact ⟨rfl, F0.out⟩
  · have hc : chkE σ s = 0 := hs.resolve_left hs1
    have HCk := hid (fun w' (hf : Fr Nil1 w w') => hc ▸ pmaCheck_any (H.new hf) s)
    have d1 : (s == -1) = false := beq_eq_false_iff_ne.2 hs1
    obtain ⟨b, rfl⟩ : ∃ b : Nat, s = b := ⟨s.toNat, by
      unfold chkE at hc
      split at hc
      · omega
      · omega⟩
    clear H hmx hlt hz hT hs
    generalize cntOn (onOf σ) σ.length = NT at *
    go_enter Tryz.func22, Tryz.ntmps22
    go_wp2_with (first
      | (go_at_call 73; refine (HCk.out _ F0.out).mono ?_; rintro e w1 ⟨rfl, rfl⟩)
      | (go_at_call 78; refine (HLn.out _ F0.out).mono ?_; rintro e w1 ⟨rfl, rfl⟩))
    refine bodyPost_ret (v := .tuple #[.int .i64 0, .agg #[.int .i64 0, .int .i64 0, .int .i64 0, .int .i64 0], .int .i64 16]) (by simp [results, Tryz.f22, go_sem]) rfl ?_
    exact ⟨rfl, F0.out⟩
end Go.Proofs.YtechphliifginaaGreatDoor
