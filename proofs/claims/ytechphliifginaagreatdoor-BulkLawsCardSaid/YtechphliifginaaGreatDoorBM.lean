/- Two rising rows, gone through side by side; what is taken of them. No program's text. -/
import Derived.Test.YtechphliifginaaGreatDoorGV
set_option linter.unusedVariables false
set_option linter.unusedSimpArgs false
namespace Go.Proofs.YtechphliifginaaGreatDoor
open Go.RowKit

theorem mem_take_succ {l : List Int} {i : Nat} {x y : Int} (h : l[i]? = some x) : y ∈ l.take (i + 1) ↔ y ∈ l.take i ∨ y = x := by
  rw [List.take_add_one, h]
  simp
/-- How far one has come: i, j keys of the two rows are behind. -/
structure SideD (ka kb : List Int) (i j : Nat) (pre : List (Int × Bool × Bool)) : Prop where
  hi : i ≤ ka.length
  hj : j ≤ kb.length
  up : Up (pre.map (·.1))
  la : ∀ y ∈ pre.map (·.1), ∀ q x, ka[q]? = some x → i ≤ q → y < x
  lb : ∀ y ∈ pre.map (·.1), ∀ q x, kb[q]? = some x → j ≤ q → y < x
  mem : ∀ y, y ∈ pre.map (·.1) ↔ y ∈ ka.take i ∨ y ∈ kb.take j
  fl : ∀ p ∈ pre, p.2.1 = decide (p.1 ∈ ka) ∧ p.2.2 = decide (p.1 ∈ kb)
  len : pre.length ≤ i + j
theorem SideD.start (ka kb : List Int) : SideD ka kb 0 0 [] :=
  ⟨Nat.zero_le _, Nat.zero_le _, List.Pairwise.nil, (fun _ h => by cases h), (fun _ h => by cases h), (fun y => by simp), (fun _ h => by cases h), Nat.le_refl _⟩
section
variable {ka kb : List Int} {i j : Nat} {pre : List (Int × Bool × Bool)}
theorem SideD.step (H : SideD ka kb i j pre) {x : Int} {fa fb : Bool} {i' j' : Nat} (hi' : i' ≤ ka.length) (hj' : j' ≤ kb.length) (hii : i ≤ i') (hjj : j ≤ j') (gt : ∀ y ∈ pre.map (·.1), y < x)
    (xa : ∀ q z, ka[q]? = some z → i' ≤ q → x < z) (xb : ∀ q z, kb[q]? = some z → j' ≤ q → x < z) (mm : ∀ y, (y ∈ ka.take i' ∨ y ∈ kb.take j') ↔ (y ∈ ka.take i ∨ y ∈ kb.take j) ∨ y = x)
    (hf : fa = decide (x ∈ ka) ∧ fb = decide (x ∈ kb)) (hl : i + j + 1 ≤ i' + j') : SideD ka kb i' j' (pre ++ [(x, fa, fb)]) := by
  have hm : (pre ++ [(x, fa, fb)]).map (·.1) = pre.map (·.1) ++ [x] := by simp
  refine ⟨hi', hj', ?_, ?_, ?_, fun y => ?_, fun p hp => ?_, ?_⟩
  · rw [hm]
    refine List.pairwise_append.2 ⟨H.up, List.pairwise_singleton _ _, fun a ha b hb => ?_⟩
    rw [List.mem_singleton.1 hb]
    exact gt a ha
  · intro y hy q z hq hiq
    rw [hm, List.mem_append, List.mem_singleton] at hy
    rcases hy with hy | rfl
    · exact H.la y hy q z hq (by omega)
    · exact xa q z hq hiq
  · intro y hy q z hq hiq
    rw [hm, List.mem_append, List.mem_singleton] at hy
    rcases hy with hy | rfl
    · exact H.lb y hy q z hq (by omega)
    · exact xb q z hq hiq
  · rw [hm, List.mem_append, List.mem_singleton, H.mem y, mm y]
  · rcases List.mem_append.1 hp with hp | hp
    · exact H.fl p hp
    · rw [List.mem_singleton.1 hp]
      exact hf
  · have := H.len
    rw [List.length_append, List.length_singleton]
    omega
theorem up_after {l : List Int} (H : Up l) {i : Nat} {x : Int} (h : l[i]? = some x) : ∀ q z, l[q]? = some z → i + 1 ≤ q → x < z := fun q z hz hq => (up_get H h hz).2 (by omega)
theorem get_lt {l : List Int} {i : Nat} {x : Int} (h : l[i]? = some x) : i + 1 ≤ l.length := (List.getElem?_eq_some_iff.1 h).1
/-- The first row's key comes. -/
theorem SideD.stepA (H : SideD ka kb i j pre) (hA : Up ka) (hB : Up kb) {x : Int} (hx : ka[i]? = some x) (hb : ∀ y, kb[j]? = some y → x < y) : SideD ka kb (i + 1) j (pre ++ [(x, true, false)]) := by
  have gt : ∀ y ∈ pre.map (·.1), y < x := fun y hy => H.la y hy i x hx (Nat.le_refl _)
  have xb : ∀ q z, kb[q]? = some z → j ≤ q → x < z := fun q z hz hq => by
    have hjl : j < kb.length := by have := get_lt hz; omega
    have h1 := hb _ (List.getElem?_eq_getElem hjl)
    rcases Nat.eq_or_lt_of_le hq with e | e
    · subst e; rw [List.getElem?_eq_getElem hjl] at hz; cases hz; exact h1
    · have := (up_get hB (List.getElem?_eq_getElem hjl) hz).2 e; omega
  refine H.step (get_lt hx) H.hj (by omega) (Nat.le_refl _) gt (up_after hA hx) xb (fun y => ?_) ⟨(decide_eq_true (List.mem_of_getElem? hx)).symm, (decide_eq_false (fun hm => ?_)).symm⟩ (by omega)
  · rw [mem_take_succ hx]
    constructor
    · rintro ((h | h) | h)
      · exact .inl (.inl h)
      · exact .inr h
      · exact .inl (.inr h)
    · rintro ((h | h) | h)
      · exact .inl (.inl h)
      · exact .inr h
      · exact .inl (.inr h)
  · obtain ⟨q, hq, e⟩ := List.getElem_of_mem hm
    have hz : kb[q]? = some x := List.getElem?_eq_some_iff.2 ⟨hq, e⟩
    rcases Nat.lt_or_ge q j with g | g
    · have : x ∈ kb.take j := List.mem_of_getElem? (i := q) (by rw [List.getElem?_take_of_lt g]; exact hz)
      have := gt x ((H.mem x).2 (.inr this))
      omega
    · have := xb q x hz g
      omega
/-- The second row's key comes. -/
theorem SideD.stepB (H : SideD ka kb i j pre) (hA : Up ka) (hB : Up kb) {x : Int} (hx : kb[j]? = some x) (hb : ∀ y, ka[i]? = some y → x < y) : SideD ka kb i (j + 1) (pre ++ [(x, false, true)]) := by
  have gt : ∀ y ∈ pre.map (·.1), y < x := fun y hy => H.lb y hy j x hx (Nat.le_refl _)
  have xa : ∀ q z, ka[q]? = some z → i ≤ q → x < z := fun q z hz hq => by
    have hjl : i < ka.length := by have := get_lt hz; omega
    have h1 := hb _ (List.getElem?_eq_getElem hjl)
    rcases Nat.eq_or_lt_of_le hq with e | e
    · subst e; rw [List.getElem?_eq_getElem hjl] at hz; cases hz; exact h1
    · have := (up_get hA (List.getElem?_eq_getElem hjl) hz).2 e; omega
  refine H.step H.hi (get_lt hx) (Nat.le_refl _) (by omega) gt xa (up_after hB hx) (fun y => ?_) ⟨(decide_eq_false (fun hm => ?_)).symm, (decide_eq_true (List.mem_of_getElem? hx)).symm⟩ (by omega)
  · rw [mem_take_succ hx, or_assoc]
  · obtain ⟨q, hq, e⟩ := List.getElem_of_mem hm
    have hz : ka[q]? = some x := List.getElem?_eq_some_iff.2 ⟨hq, e⟩
    rcases Nat.lt_or_ge q i with g | g
    · have : x ∈ ka.take i := List.mem_of_getElem? (i := q) (by rw [List.getElem?_take_of_lt g]; exact hz)
      have := gt x ((H.mem x).2 (.inl this))
      omega
    · have := xa q x hz g
      omega
/-- A key of both comes. -/
theorem SideD.stepAB (H : SideD ka kb i j pre) (hA : Up ka) (hB : Up kb) {x : Int} (hx : ka[i]? = some x) (hy : kb[j]? = some x) : SideD ka kb (i + 1) (j + 1) (pre ++ [(x, true, true)]) := by
  have gt : ∀ y ∈ pre.map (·.1), y < x := fun y hy => H.la y hy i x hx (Nat.le_refl _)
  refine H.step (get_lt hx) (get_lt hy) (by omega) (by omega) gt (up_after hA hx) (up_after hB hy) (fun y => ?_) ⟨(decide_eq_true (List.mem_of_getElem? hx)).symm, (decide_eq_true (List.mem_of_getElem? hy)).symm⟩ (by omega)
  rw [mem_take_succ hx, mem_take_succ hy]
  constructor
  · rintro ((h | h) | (h | h))
    · exact .inl (.inl h)
    · exact .inr h
    · exact .inl (.inr h)
    · exact .inr h
  · rintro ((h | h) | h)
    · exact .inl (.inl h)
    · exact .inr (.inl h)
    · exact .inl (.inr h)
end
/-- All has come. -/
def SideS (ka kb : List Int) (xs : List (Int × Bool × Bool)) : Prop := Up (xs.map (·.1)) ∧ (∀ y, y ∈ xs.map (·.1) ↔ y ∈ ka ∨ y ∈ kb) ∧ (∀ p ∈ xs, p.2.1 = decide (p.1 ∈ ka) ∧ p.2.2 = decide (p.1 ∈ kb)) ∧ xs.length ≤ ka.length + kb.length
theorem SideD.done {ka kb : List Int} {pre : List (Int × Bool × Bool)} (H : SideD ka kb ka.length kb.length pre) : SideS ka kb pre :=
  ⟨H.up, fun y => by have := H.mem y; rwa [List.take_length, List.take_length] at this, H.fl, H.len⟩
/-- The keys of two rows. -/
def uniL (ka kb : List Int) : List Int := kb.foldl putA ka
theorem up_uniL {ka : List Int} (H : Up ka) (kb : List Int) : Up (uniL ka kb) := by
  unfold uniL
  induction kb generalizing ka with
  | nil => exact H
  | cons b kb ih => exact ih (up_putA H b)
theorem mem_uniL {ka kb : List Int} {y : Int} : y ∈ uniL ka kb ↔ y ∈ ka ∨ y ∈ kb := by
  unfold uniL
  induction kb generalizing ka with
  | nil => simp
  | cons b kb ih =>
    rw [List.foldl_cons, ih, mem_putA, List.mem_cons]
    constructor
    · rintro ((h | h) | h)
      · exact .inr (.inl h)
      · exact .inl h
      · exact .inr (.inr h)
    · rintro (h | h | h)
      · exact .inl (.inr h)
      · exact .inl (.inl h)
      · exact .inr h
theorem uniL_len (ka kb : List Int) : (uniL ka kb).length ≤ ka.length + kb.length := by
  unfold uniL
  induction kb generalizing ka with
  | nil => simp
  | cons b kb ih =>
    have h1 := ih (putA ka b)
    have h2 := putA_length ka b
    rw [List.foldl_cons, List.length_cons]
    omega
/-- What is taken of two rows. -/
def pickL (tk : Bool → Bool → Bool) (ka kb : List Int) : List Int := (uniL ka kb).filter fun y => tk (decide (y ∈ ka)) (decide (y ∈ kb))
theorem up_pickL (tk : Bool → Bool → Bool) {ka : List Int} (H : Up ka) (kb : List Int) : Up (pickL tk ka kb) := List.Pairwise.filter _ (up_uniL H kb)
theorem mem_pickL {tk : Bool → Bool → Bool} {ka kb : List Int} {y : Int} : y ∈ pickL tk ka kb ↔ (y ∈ ka ∨ y ∈ kb) ∧ tk (decide (y ∈ ka)) (decide (y ∈ kb)) = true := by
  unfold pickL
  rw [List.mem_filter, mem_uniL]
theorem pickL_len (tk : Bool → Bool → Bool) (ka kb : List Int) : (pickL tk ka kb).length ≤ ka.length + kb.length := Nat.le_trans (List.length_filter_le _ _) (uniL_len ka kb)
/-- What an iterator's client has taken. -/
def tookL (tk : Bool → Bool → Bool) (xs : List (Int × Bool × Bool)) : List Int := (xs.filter fun p => tk p.2.1 p.2.2).map (·.1)
theorem tookL_snoc (tk : Bool → Bool → Bool) (xs : List (Int × Bool × Bool)) (p : Int × Bool × Bool) : tookL tk (xs ++ [p]) = tookL tk xs ++ (if tk p.2.1 p.2.2 = true then [p.1] else []) := by
  unfold tookL
  rw [List.filter_append, List.map_append]
  congr 1
  by_cases h : tk p.2.1 p.2.2 = true
  · simp [h]
  · simp [h]
theorem tookL_len (tk : Bool → Bool → Bool) (xs : List (Int × Bool × Bool)) : (tookL tk xs).length ≤ xs.length := by
  unfold tookL
  rw [List.length_map]
  exact List.length_filter_le _ _
theorem SideS.took {ka kb : List Int} {xs : List (Int × Bool × Bool)} (H : SideS ka kb xs) (hA : Up ka) (tk : Bool → Bool → Bool) : tookL tk xs = pickL tk ka kb := by
  obtain ⟨h1, h2, h3, _⟩ := H
  refine up_ext ?_ (up_pickL tk hA kb) (fun y => ?_)
  · unfold tookL
    exact List.Pairwise.sublist ((List.filter_sublist).map _) h1
  · rw [mem_pickL, ← h2 y]
    unfold tookL
    rw [List.mem_map, List.mem_map]
    constructor
    · rintro ⟨p, hp, rfl⟩
      rw [List.mem_filter] at hp
      obtain ⟨f1, f2⟩ := h3 p hp.1
      refine ⟨⟨p, hp.1, rfl⟩, ?_⟩
      rw [← f1, ← f2]
      exact hp.2
    · rintro ⟨⟨p, hp, rfl⟩, ht⟩
      obtain ⟨f1, f2⟩ := h3 p hp
      rw [← f1, ← f2] at ht
      exact ⟨p, List.mem_filter.2 ⟨hp, ht⟩, rfl⟩
/-- Union, Both, Minus. -/
def tkU (_ _ : Bool) : Bool := true
def tkB (a b : Bool) : Bool := a && b
def tkM (_ b : Bool) : Bool := !b
theorem mem_uni {ka kb : List Int} {y : Int} : y ∈ pickL tkU ka kb ↔ y ∈ ka ∨ y ∈ kb := by rw [mem_pickL]; simp [tkU]
theorem mem_bot {ka kb : List Int} {y : Int} : y ∈ pickL tkB ka kb ↔ y ∈ ka ∧ y ∈ kb := by
  rw [mem_pickL]
  simp only [tkB, Bool.and_eq_true, decide_eq_true_eq]
  exact ⟨fun h => h.2, fun h => ⟨.inl h.1, h⟩⟩
theorem mem_min {ka kb : List Int} {y : Int} : y ∈ pickL tkM ka kb ↔ y ∈ ka ∧ y ∉ kb := by
  rw [mem_pickL]
  simp only [tkM, Bool.not_eq_true', decide_eq_false_iff_not]
  exact ⟨fun h => ⟨h.1.resolve_right h.2, h.2⟩, fun h => ⟨.inl h.1, h.2⟩⟩
theorem parts_len (p q : Int → Bool) : ∀ L : List Int, (∀ y ∈ L, p y = true ∨ q y = true) → L.length = (L.filter fun y => p y && q y).length + (L.filter fun y => !q y).length + (L.filter fun y => !p y).length
  | [], _ => rfl
  | y :: L, h => by
    have ih := parts_len p q L (fun z hz => h z (List.mem_cons_of_mem _ hz))
    have h0 := h y (List.mem_cons_self ..)
    cases hp : p y <;> cases hq : q y
    · rw [hp, hq] at h0; simp at h0
    · simp [List.filter_cons, hp, hq]; omega
    · simp [List.filter_cons, hp, hq]; omega
    · simp [List.filter_cons, hp, hq]; omega
theorem uni_parts {ka kb : List Int} (hA : Up ka) (hB : Up kb) : (pickL tkU ka kb).length = (pickL tkB ka kb).length + (pickL tkM ka kb).length + (pickL tkM kb ka).length := by
  have e1 : pickL tkU ka kb = uniL ka kb := up_ext (up_pickL _ hA _) (up_uniL hA _) (fun y => by rw [mem_uni, mem_uniL])
  have e2 : pickL tkM kb ka = (uniL ka kb).filter fun y => !decide (y ∈ ka) := up_ext (up_pickL _ hB _) (List.Pairwise.filter _ (up_uniL hA _)) (fun y => by
    rw [mem_min, List.mem_filter, mem_uniL]
    simp only [Bool.not_eq_true', decide_eq_false_iff_not]
    exact ⟨fun h => ⟨.inr h.1, h.2⟩, fun h => ⟨h.1.resolve_left h.2, h.2⟩⟩)
  rw [e1, e2]
  refine parts_len (fun y => decide (y ∈ ka)) (fun y => decide (y ∈ kb)) (uniL ka kb) (fun y hy => ?_)
  rcases mem_uniL.1 hy with h | h
  · exact .inl (decide_eq_true h)
  · exact .inr (decide_eq_true h)
theorem uni_comm {ka kb : List Int} (hA : Up ka) (hB : Up kb) : pickL tkU ka kb = pickL tkU kb ka := up_ext (up_pickL _ hA _) (up_pickL _ hB _) (fun y => by rw [mem_uni, mem_uni, or_comm])
theorem bot_comm {ka kb : List Int} (hA : Up ka) (hB : Up kb) : pickL tkB ka kb = pickL tkB kb ka := up_ext (up_pickL _ hA _) (up_pickL _ hB _) (fun y => by rw [mem_bot, mem_bot, and_comm])
theorem bot_self {ka : List Int} (hA : Up ka) : pickL tkB ka ka = ka := up_ext (up_pickL _ hA _) hA (fun y => by rw [mem_bot, and_self])
theorem min_self {ka : List Int} (hA : Up ka) : pickL tkM ka ka = [] := up_ext (up_pickL _ hA _) List.Pairwise.nil (fun y => by rw [mem_min]; simp)
theorem uni_nil {ka : List Int} (hA : Up ka) : pickL tkU ka [] = ka := up_ext (up_pickL _ hA _) hA (fun y => by rw [mem_uni]; simp)
end Go.Proofs.YtechphliifginaaGreatDoor
