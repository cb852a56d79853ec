/- find.Sorted and audit.Keys: do the keys of an array rise? -/
import Derived.Test.YtonoaklajnfmiaaDoorB5
import Derived.Test.YtonoaklajnfmiaaDoorG1
set_option linter.unusedVariables false
set_option linter.unusedSimpArgs false
namespace Go.Proofs.YtonoaklajnfmiaaDoor
open Go.RowKit Go.Shelf
attribute [local go_sem] Oper.semAt_some

def vals (l : List (Nat × Int)) : List Int := l.map (·.2)
def lastV (l : List (Nat × Int)) : Int := (vals l).getD (l.length - 1) 0
theorem vals_length (l : List (Nat × Int)) : (vals l).length = l.length := by simp [vals]
theorem lastV_snoc (l : List (Nat × Int)) (x : Nat × Int) : lastV (l ++ [x]) = x.2 := by
  unfold lastV vals
  rw [List.map_append, List.getD_eq_getElem?_getD, List.length_append, List.getElem?_append_right (by simp)]
  simp
theorem riseB_snoc_ok (l : List (Nat × Int)) (x : Nat × Int) (h : riseB (vals l) = true) (hx : l = [] ∨ lastV l < x.2) : riseB (vals (l ++ [x])) = true := by
  apply riseB_true
  intro j hj
  rw [vals_length, List.length_append, List.length_singleton] at hj
  have e : vals (l ++ [x]) = vals l ++ [x.2] := by simp [vals]
  rw [e]
  rcases Nat.lt_or_ge (j + 1) l.length with g | g
  · have := riseB_get h j (by rw [vals_length]; exact g)
    rw [List.getD_eq_getElem?_getD, List.getD_eq_getElem?_getD] at this ⊢
    rw [List.getElem?_append_left (by rw [vals_length]; omega), List.getElem?_append_left (by rw [vals_length]; omega)]
    exact this
  · have hl : j + 1 = l.length := by omega
    rcases hx with rfl | hx
    · simp at hl
    · have e1 : (vals l ++ [x.2]).getD (j + 1) 0 = x.2 := by
        rw [List.getD_eq_getElem?_getD, List.getElem?_append_right (by rw [vals_length]; omega), vals_length, hl]
        simp
      have e2 : (vals l ++ [x.2]).getD j 0 = lastV l := by
        rw [List.getD_eq_getElem?_getD, List.getElem?_append_left (by rw [vals_length]; omega)]
        unfold lastV
        rw [List.getD_eq_getElem?_getD, show l.length - 1 = j by omega]
      rw [e1, e2]
      exact hx
theorem riseB_prefix_bad (l m : List (Nat × Int)) (x : Nat × Int) (hl : l ≠ []) (hx : x.2 ≤ lastV l) (hp : l ++ [x] <+: m) : riseB (vals m) = false := by
  obtain ⟨r, rfl⟩ := hp
  have hpos : 0 < l.length := by
    cases l with
    | nil => exact (hl rfl).elim
    | cons a b => simp
  apply riseB_false _ (l.length - 1)
  · rw [vals_length, List.length_append, List.length_append]; simp; omega
  · have e : vals (l ++ [x] ++ r) = vals l ++ (x.2 :: vals r) := by simp [vals]
    have e1 : (vals l ++ (x.2 :: vals r)).getD (l.length - 1 + 1) 0 = x.2 := by
      rw [List.getD_eq_getElem?_getD, List.getElem?_append_right (by rw [vals_length]; omega), vals_length, show l.length - 1 + 1 - l.length = 0 by omega]
      simp
    have e2 : (vals l ++ (x.2 :: vals r)).getD (l.length - 1) 0 = lastV l := by
      rw [List.getD_eq_getElem?_getD, List.getElem?_append_left (by rw [vals_length]; omega)]
      unfold lastV
      rw [List.getD_eq_getElem?_getD]
    rw [e, e1, e2]
    omega

set_option maxRecDepth 100000 in
set_option maxHeartbeats 4000000 in
theorem findSorted_any {f : SF} {σ : List (Option Int)} {w : World} (h : SlotsR w f σ) :
    Calls Tryd.prog 38 #[.pointer (some ⟨f.s, 0, none⟩)] w fun e w' => e = .returned (.bool (riseB (vals (occ σ)))) ∧ Fr Nil1 w w' := by
  refine (callsIn_wide (n := 3)).1 ?_
  have hG := h.g.size
  have hlt := h.lt
  have HH := hid h
  clear h
  (refine callsIn_of_wp_marks Tryd.func38 rfl trivial ?_ rfl; simp only [Tryd.ntmps38, List.size_toArray, List.length_cons, List.length_nil, Nat.reduceAdd, Nat.reduceSub, Array.replicate_succ, Array.replicate_zero, List.push_toArray, List.append_toArray, List.nil_append, List.cons_append])
  gi_wp2_with (first | ((first | refine ⟨trivial, wideNo, ?_⟩ | refine ⟨trivial, ?_⟩); gi_at_call 56; refine (callsIn_wide.2 (gapsAll_any f.s _)).mono ?_; rintro e w1 ⟨rfl, rfl⟩))
  have hfr0 : Fr Nil1 w ((((w.alloc (.cells #[.bool false] 4)).alloc (.cells #[.bool true] 4)).alloc (.cells #[.int .i64 0] 3)).alloc (.cells #[.pointer (some ⟨f.s, 0, none⟩)] 26)) := ((((Fr.refl _ _).alloc _).alloc _).alloc _).alloc _
  have hR := (((Has.new w [.bool false] 4).alloc (.cells #[.bool true] 4)).alloc (.cells #[.int .i64 0] 3)).alloc (.cells #[.pointer (some ⟨f.s, 0, none⟩)] 26)
  have hF := ((Has.new (w.alloc (.cells #[.bool false] 4)) [.bool true] 4).alloc (.cells #[.int .i64 0] 3)).alloc (.cells #[.pointer (some ⟨f.s, 0, none⟩)] 26)
  have hL := (Has.new ((w.alloc (.cells #[.bool false] 4)).alloc (.cells #[.bool true] 4)) [.int .i64 0] 3).alloc (.cells #[.pointer (some ⟨f.s, 0, none⟩)] 26)
  have hN := Has.new (((w.alloc (.cells #[.bool false] 4)).alloc (.cells #[.bool true] 4)).alloc (.cells #[.int .i64 0] 3)) [.pointer (some ⟨f.s, 0, none⟩)] 26
  simp only [World.size_alloc] at hF hL hN
  obtain ⟨W0, hW0⟩ : ∃ W0, ((((w.alloc (.cells #[.bool false] 4)).alloc (.cells #[.bool true] 4)).alloc (.cells #[.int .i64 0] 3)).alloc (.cells #[.pointer (some ⟨f.s, 0, none⟩)] 26)) = W0 := ⟨_, rfl⟩
  have hsz : W0.heap.size = w.heap.size + 4 := by rw [← hW0]; simp
  have hR : Has W0 w.heap.size [.bool false] 4 := by rw [← hW0]; exact hR
  have hF : Has W0 (w.heap.size + 1) [.bool true] 4 := by rw [← hW0]; exact hF
  have hL : Has W0 (w.heap.size + 2) [.int .i64 0] 3 := by rw [← hW0]; exact hL
  have hN : Has W0 (w.heap.size + 3) [.pointer (some ⟨f.s, 0, none⟩)] 26 := by rw [← hW0]; exact hN
  rw [hW0] at hfr0 ⊢
  have hS0 : SlotsR W0 f σ := HH.out.new hfr0
  have hT : ∀ k, k < NG ∨ (k = w.heap.size + 3 ∨ f.mem k) → k < W0.heap.size ∧ k ≠ w.heap.size ∧ k ≠ w.heap.size + 1 ∧ k ≠ w.heap.size + 2 := by
    rintro k (hk | rfl | hk)
    · omega
    · omega
    · have := hlt k hk; omega
  refine wpIn_rangeFunc_ownG rfl (by omega) (gf := 71) (lb := #[.pointer (some ⟨w.heap.size + 3, 0, none⟩)]) rfl trivial (enters_of Tryd.func71 (by kernel_rfl) rfl)
    (gapsAll_stops _ (w.heap.size + 3) f σ W0 hN hS0) (fun h k => h.trans k) (fun W l o o' hl ho hc hw => KeepT.putObj W0 (fun k hk => (hT k hk).1) W l o o' hl ho hc hw) (Below.refl _ _) (fun _ => rfl)
    (fun pre W => Hid (Has W w.heap.size [.bool false] 4 ∧ Has W (w.heap.size + 1) [.bool pre.isEmpty] 4 ∧ Has W (w.heap.size + 2) [.int .i64 (lastV pre)] 3 ∧ Fr Nil1 w W ∧ W0.heap.size ≤ W.heap.size ∧ riseB (vals pre) = true))
    (fun c pre W => c = .ret ∧ Hid (Has W w.heap.size [.bool false] 4 ∧ Fr Nil1 w W ∧ ∀ m, pre <+: m → riseB (vals m) = false))
    (fun s A B row hs hg hrow => hid ⟨hs.out.1.grownBy hg (fun r e => (hrow r e).2), hs.out.2.1.grownBy hg (fun r e => (hrow r e).2), hs.out.2.2.1.grownBy hg (fun r e => (hrow r e).2), hs.out.2.2.2.1.grownBy hg hrow (by omega) hG, Nat.le_trans hs.out.2.2.2.2.1 hg.size, hs.out.2.2.2.2.2⟩)
    (fun c s A B row hs hg hrow => ⟨hs.1, hid ⟨hs.2.out.1.grownBy hg (fun r e => (hrow r e).2), hs.2.out.2.1.grownBy hg hrow (by omega) hG, hs.2.out.2.2⟩⟩)
    (hid ⟨hR, hF, hL, hfr0, Nat.le_refl _, rfl⟩)
    (fun x => { tmps := #[.pointer (some ⟨f.s, 0, none⟩), undef, .pointer (some ⟨w.heap.size, 0, none⟩), .pointer (some ⟨w.heap.size + 1, 0, none⟩), .pointer (some ⟨w.heap.size + 2, 0, none⟩), undef, .int .i64 x.2, .pointer (some ⟨f.s, 0, none⟩), .func (.func 71) #[] #[.pointer (some ⟨w.heap.size + 3, 0, none⟩)], .int .i64 (x.1 : Int), .int .i64 x.2, undef, undef, undef, undef, undef, undef, undef, undef], defers := [] }) ?assign ?body ?done ?stop
  case assign =>
    intro l x W K hK
    unfold encIx
    gi_wp2
    exact hK
  case body =>
    rintro l pre x W hI hlt2
    obtain ⟨hRw, hFw, hLw, hfr, hWs, hri⟩ := hI.out
    obtain ⟨f0, ff⟩ := hFw.one
    obtain ⟨l0, lf⟩ := hLw.one
    obtain ⟨r0, rf⟩ := hRw.one
    have HI := hid (⟨hRw, hFw, hLw, hfr, hWs, hri⟩ : Has W w.heap.size [.bool false] 4 ∧ Has W (w.heap.size + 1) [.bool pre.isEmpty] 4 ∧ Has W (w.heap.size + 2) [.int .i64 (lastV pre)] 3 ∧ Fr Nil1 w W ∧ W0.heap.size ≤ W.heap.size ∧ riseB (vals pre) = true)
    have FIN := hid (show (pre = [] ∨ lastV pre < x.2) → ∀ W', W' = (W.setCell ⟨w.heap.size + 1, 0, none⟩ (.bool false)).setCell ⟨w.heap.size + 2, 0, none⟩ (.int .i64 x.2) →
        KeepsFrom W0.heap.size W W' ∧ KeepT (fun k => k = w.heap.size + 3 ∨ f.mem k) W W' ∧ Hid (Has W' w.heap.size [.bool false] 4 ∧ Has W' (w.heap.size + 1) [.bool (pre ++ [x]).isEmpty] 4 ∧ Has W' (w.heap.size + 2) [.int .i64 (lastV (pre ++ [x]))] 3 ∧ Fr Nil1 w W' ∧ W0.heap.size ≤ W'.heap.size ∧ riseB (vals (pre ++ [x])) = true) by
      rintro hx W' rfl
      have hs : Fr (fun k => k = w.heap.size + 1 ∨ k = w.heap.size + 2) W ((W.setCell ⟨w.heap.size + 1, 0, none⟩ (.bool false)).setCell ⟨w.heap.size + 2, 0, none⟩ (.int .i64 x.2)) :=
        ((Fr.refl _ _).setCell _ _ (by show NG ≤ w.heap.size + 1; omega) (fun _ => .inl rfl)).setCell _ _ (by show NG ≤ w.heap.size + 2; omega) (fun _ => .inr rfl)
      refine ⟨((KeepsOthers.setCell _ _ _).trans (KeepsOthers.setCell _ _ _)).from _, KeepT.of_fr hs (fun k hk => by have := hT k (.inr hk); omega), hid ⟨?_, ?_, ?_, ?_, Nat.le_trans HI.out.2.2.2.2.1 hs.size, riseB_snoc_ok pre x HI.out.2.2.2.2.2 hx⟩⟩
      · exact HI.out.1.fr' hs (by omega)
      · have e : (pre ++ [x]).isEmpty = false := by cases pre <;> rfl
        rw [e]
        exact (HI.out.2.1.set 0 (.bool false)).other _ (by show w.heap.size + 1 ≠ w.heap.size + 2; omega)
      · rw [lastV_snoc]
        exact (HI.out.2.2.1.other _ (by show w.heap.size + 2 ≠ w.heap.size + 1; omega)).set 0 (.int .i64 x.2)
      · exact HI.out.2.2.2.1.trans' hs (fun k _ hk h => by omega))
    clear hRw hFw hLw hfr hWs hri hI hsz
    cases hpe : pre.isEmpty
    · have hne : pre ≠ [] := by rintro rfl; cases hpe
      have HNE := hid hne
      have HPE := hid hpe
      rw [hpe] at f0
      clear hpe hne
      by_cases hx : x.2 ≤ lastV pre
      · have HX := hid hx
        gi_wp2
        exact ⟨(KeepsOthers.setCell _ _ _).from _, rfl, hid ⟨HI.out.1.set 0 (.bool false), HI.out.2.2.2.1.setNew _ _ hG (Nat.le_refl _), fun m hp => riseB_prefix_bad pre m x HNE.out HX.out hp⟩⟩
      · gi_wp2
        exact FIN.out (.inr (by omega)) _ rfl
    · have HPE := hid hpe
      rw [hpe] at f0
      have HNE := hid (show pre = [] by cases pre with | nil => rfl | cons a b => cases hpe)
      clear hpe
      gi_wp2
      exact FIN.out (.inl HNE.out) _ rfl
  case done =>
    rintro D ys W hD rfl hI hK
    obtain ⟨r0, rf⟩ := hI.out.1.one
    have HI := hid hI.out
    clear hI
    gi_wp2
    have hK' := (KeepsOthers.setCell W ⟨w.heap.size, 0, none⟩ (.bool true)).same D _ hK rfl
    refine ⟨by simp, .inl ⟨_, _, rfl, run_takeDeferred hK', ?_⟩⟩
    have hc5 := cell_kept ((HI.out.1.set 0 (.bool true)).cell 0) (grownBy_putObj' _ D (.deferred none)) (fun r e => by cases e; exact ⟨_, hK', rfl⟩)
    refine ⟨.bool true, ?_, by rw [HI.out.2.2.2.2.2], (HI.out.2.2.2.1.setNew _ _ hG (Nat.le_refl _)).putObj D _ (by omega) hG⟩
    simp [results, Tryd.f38, go_sem, hc5]
  case stop =>
    rintro D c pre W hD hpre ⟨rfl, hI⟩ hK
    obtain ⟨r0, rf⟩ := hI.out.1.one
    gi_wp2
    refine ⟨by simp, .inl ⟨_, _, rfl, run_takeDeferred hK, ?_⟩⟩
    have hc5 := cell_kept r0 (grownBy_putObj' _ D (.deferred none)) (fun r e => by cases e; exact ⟨_, hK, rfl⟩)
    refine ⟨.bool false, ?_, by rw [hI.out.2.2 _ hpre], hI.out.2.1.putObj D _ (by omega) hG⟩
    simp [results, Tryd.f38, go_sem, hc5]

def keysE (σ : List (Option Int)) : Int := if riseB (vals (occ σ)) = true then 0 else 18
set_option maxHeartbeats 400000 in
theorem auditKeys_any {f : SF} {σ : List (Option Int)} {w : World} (h : SlotsR w f σ) :
    Calls Tryd.prog 15 #[.pointer (some ⟨f.s, 0, none⟩)] w fun e w' => e = .returned (.int .i64 (keysE σ)) ∧ Fr Nil1 w w' := by
  have H := hid (findSorted_any h)
  have HK := hid (show keysE σ = if riseB (vals (occ σ)) = true then 0 else 18 from rfl)
  clear h
  cases hr : riseB (vals (occ σ))
  · rw [hr] at H HK
    have hk := hid (show keysE σ = 18 by rw [HK.out, if_neg (by simp)])
    clear hr
    go_enter Tryd.func15, Tryd.ntmps15
    go_wp2_with (first | (go_at_call 38; refine H.out.mono ?_; rintro e w1 ⟨rfl, hf⟩; have HF := hid hf; clear hf))
    go_ret
    rw [hk.out]
    exact ⟨rfl, HF.out⟩
  · rw [hr] at H HK
    have hk := hid (show keysE σ = 0 by rw [HK.out, if_pos rfl])
    clear hr
    go_enter Tryd.func15, Tryd.ntmps15
    go_wp2_with (first | (go_at_call 38; refine H.out.mono ?_; rintro e w1 ⟨rfl, hf⟩; have HF := hid hf; clear hf))
    go_ret
    rw [hk.out]
    exact ⟨rfl, HF.out⟩
theorem auditKeys_nil (w : World) : Calls Tryd.prog 15 #[.pointer none] w fun e w' => e = .returned (.int .i64 2) ∧ Fr Nil1 w w' := by
  go_enter Tryd.func15, Tryd.ntmps15
  go_wp2_with fail
  go_ret
  exact ⟨rfl, Fr.refl _ _⟩
end Go.Proofs.YtonoaklajnfmiaaDoor
