/- OrderTable, as it is called: the walk. -/
import Derived.Test.YtogjfaiidciedaaGreatDoorOV
import Derived.Test.YtogjfaiidciedaaGreatDoorC1
set_option linter.unusedVariables false
set_option linter.unusedSimpArgs false
namespace Go.Proofs.YtogjfaiidciedaaGreatDoor
open Go.RowKit Go.Maps

theorem info_bool : (Tryz.prog.info? 4).map (fun i => (i.zero, i.size, i.bytes)) = some (some (.bool false), 1, 1) := by kernel_rfl
/-- Which of 0 .. n are among numbers. -/
def lv (n : Nat) (ys : List Int) : List Value := (List.range (n + 1)).map fun (j : Nat) => Value.bool (decide ((j : Int) ∈ ys))
theorem lv_nil (n : Nat) : List.replicate (n + 1) (Value.bool false) = lv n [] := by
  apply List.ext_getElem?
  intro j
  unfold lv
  rw [List.getElem?_map, List.getElem?_replicate]
  rcases Nat.lt_or_ge j (n + 1) with g | g
  · rw [List.getElem?_range g, if_pos g]; rfl
  · rw [List.getElem?_eq_none (by rw [List.length_range]; exact g), if_neg (by omega)]; rfl
theorem lv_get {n : Nat} (ys : List Int) {X : Nat} (h : X ≤ n) : (lv n ys)[X]? = some (.bool (decide ((X : Int) ∈ ys))) := by
  unfold lv
  rw [List.getElem?_map, List.getElem?_range (by omega)]
  rfl
theorem lv_set {n : Nat} {ys : List Int} {X : Nat} (h : X ≤ n) : (lv n ys).set X (.bool true) = lv n (ys ++ [(X : Int)]) := by
  apply List.ext_getElem?
  intro j
  have hl : (lv n ys).length = n + 1 := by simp [lv]
  rcases Nat.lt_or_ge n j with g | g
  · rw [List.getElem?_eq_none (by rw [List.length_set, hl]; omega), List.getElem?_eq_none (by simp [lv]; omega)]
  · rw [List.getElem?_set, hl]
    by_cases e : X = j
    · subst e
      rw [if_pos rfl, if_pos (by omega), lv_get _ g, decide_eq_true (List.mem_append.2 (.inr (List.mem_singleton.2 rfl)))]
    · rw [if_neg e, lv_get _ g, lv_get _ g]
      have hd : decide ((j : Int) ∈ ys) = decide ((j : Int) ∈ ys ++ [(X : Int)]) := by
        rw [decide_eq_decide, List.mem_append, List.mem_singleton]
        exact ⟨fun h => .inl h, fun h => h.resolve_right (by omega)⟩
      rw [hd]
theorem Rd.old {w w' : World} {v : Value} {xs : List Value} {S : Nat → Prop} (h : Rd w v xs) (hf : Fr S w w') (hS : ∀ k, S k → w.heap.size ≤ k) : Rd w' v xs := by
  obtain ⟨A, c, rfl, hb, hA⟩ := h
  refine ⟨A, c, rfl, hb, fun hp => ?_⟩
  obtain ⟨ad, rfl, hc⟩ := hA hp
  exact ⟨ad, rfl, fun j u hj => hf.cell (hc j u hj) (fun s => by have := World.block_lt_of_cell? (h := hc j u hj); have := hS _ s; omega)⟩
/-- A list, its row and its table as they were told, and a slice of its handles. -/
structure TbS (w0 : World) (L bl p : Nat) (tf f' : TF) (F F' : PF) (σ : List (Option Int)) (h : Nat) (τ : List (Option Int)) (v : Value) (w : World) : Prop where
  r : OrdR w0 L bl p tf F σ h τ w
  t : TabR w f' τ
  c : PmaR w F' σ h Value.nilFunc
  l : Rd w v (ints' (its σ))
section
variable {w0 w : World} {L bl p : Nat} {tf f' : TF} {F F' : PF} {σ : List (Option Int)} {h : Nat} {τ : List (Option Int)} {v : Value}
theorem TbS.fr (H : TbS w0 L bl p tf f' F F' σ h τ v w) {w' : World} (hf : Fr (fun k => k = w.heap.size) w w') : TbS w0 L bl p tf f' F F' σ h τ v w' :=
  ⟨H.r.frS hf (fun k hk => by have e : k = w.heap.size := hk; subst e; exact ⟨H.r.noBlk, H.r.row.fr.size⟩), H.t.fr hf (fun k hk e => by have e' : k = w.heap.size := e; have := H.t.lt k hk; omega),
   H.c.fr hf (fun k hk e => by have e' : k = w.heap.size := e; have := H.c.lt k hk; omega), H.l.old hf (fun k hk => by have e : k = w.heap.size := hk; omega)⟩
theorem cnt_inj {σ : List (Option Int)} {p q : Nat} (hp : onOf σ p = true) (hq : onOf σ q = true) (h : cntOn (onOf σ) p = cntOn (onOf σ) q) : p = q := by
  have a := cntOn_on (onOf σ) p hp
  have b := cntOn_on (onOf σ) q hq
  rcases Nat.lt_trichotomy p q with g | g | g
  · have := cntOn_le_of (onOf σ) (show p + 1 ≤ q by omega); omega
  · exact g
  · have := cntOn_le_of (onOf σ) (show q + 1 ≤ p by omega); omega
theorem TbS.at (H : TbS w0 L bl p tf f' F F' σ h τ v w) {i : Nat} {x : Int} (hi : (its σ)[i]? = some x) (x1 : -9223372036854775808 ≤ x) (x2 : x ≤ 9223372036854775807) : ∃ q : Nat,
    (Calls Tryz.prog 28 #[.pointer (some ⟨f'.t, 0, none⟩), .int .i64 x] w fun e w' => e = .returned (.tuple #[.int .i64 q, .int .i64 0]) ∧ w = w') ∧
    (Calls Tryz.prog 29 #[.pointer (some ⟨F'.p, 0, none⟩), .int .i64 q] w fun e w' => e = .returned (.tuple #[.int .i64 x, .bool true]) ∧ w = w') ∧
    (Calls Tryz.prog 13 #[.pointer (some ⟨L, 0, none⟩), .int .i64 x] w fun e w' => e = .returned (.tuple #[.int .i64 q, .int .i64 0]) ∧ w = w') ∧
    (Calls Tryz.prog 30 #[.pointer (some ⟨F'.p, 0, none⟩), .int .i64 i] w fun e w' => e = .returned (.int .i64 q) ∧ w = w') := by
  have hl := (H.r.live x).2 (List.mem_of_getElem? hi)
  obtain ⟨q, e, hq⟩ := H.r.slot hl
  have hs : staleE τ x = 0 := by unfold staleE; rw [if_pos hl]
  have hon := onOf_some hq
  have hc : cntOn (onOf σ) q = i := H.r.inj (its_get σ q x hq) hi
  have hil : i < cntOn (onOf σ) σ.length := by rw [← its_length]; exact (List.getElem?_eq_some_iff.1 hi).1
  refine ⟨q, (tabSlot_any H.t x x1 x2).mono ?_, (pmaAt_any H.c q).mono ?_, (ordLabel_any H.r x x1 x2).mono ?_, (pmaNth_ok H.c i hil).mono ?_⟩
  · rintro e' w' ⟨rfl, rfl⟩; exact ⟨by rw [e, hs], rfl⟩
  · rintro e' w' ⟨rfl, rfl⟩
    refine ⟨?_, rfl⟩
    rw [atB_nat, hon, show atV σ (q : Int) = x by unfold atV; rw [if_pos (by omega), Int.toNat_natCast, hq]; rfl]
  · rintro e' w' ⟨rfl, rfl⟩; exact ⟨by rw [e, hs], rfl⟩
  · rintro e' w' ⟨q', rfl, rfl, ho, hc'⟩
    rw [cnt_inj ho hon (by rw [hc', hc])]
    exact ⟨rfl, rfl⟩
theorem TbS.live (H : TbS w0 L bl p tf f' F F' σ h τ v w) (x : Int) (x1 : -9223372036854775808 ≤ x) (x2 : x ≤ 9223372036854775807) :
    Calls Tryz.prog 31 #[.pointer (some ⟨f'.t, 0, none⟩), .int .i64 x] w fun e w' => e = .returned (.bool (decide (x ∈ its σ))) ∧ w = w' := by
  refine (tabLive_any H.t x x1 x2).mono ?_
  rintro e w' ⟨rfl, rfl⟩
  refine ⟨?_, rfl⟩
  have : liveB τ x = decide (x ∈ its σ) := by
    rw [Bool.eq_iff_iff, H.r.live x, decide_eq_true_iff]
  rw [this]
end
set_option maxRecDepth 100000 in
set_option maxHeartbeats 8000000 in
theorem orderTable_any (v : Value) (l : List AcO) (w : World) (hv : RdAo w v l) (hg : GW w) : Calls Tryz.prog 7 #[v] w fun e w' => e = .returned (.bool true) ∧ Fr Nil1 w w' := by
  have HAw := hid (fun w' (hf : Fr Nil1 w w') => awake_any w' (hg.fr hf))
  have HV := hid hv
  obtain ⟨A, c, rfl, _, _⟩ := hv
  by_cases h200 : 200 < l.length
  · have HA0 := hid (HAw.out w (Fr.refl _ _))
    have hI : (200 : Int) < (l.length : Int) := by omega
    clear HAw HV hg
    go_enter Tryz.func7, Tryz.ntmps7
    go_wp2_with (go_at_call 9; refine HA0.out.mono ?_; rintro e w1 ⟨rfl, H1⟩)
    go_ret
    exact ⟨rfl, H1⟩
  have hNI : ¬ (200 : Int) < (l.length : Int) := by omega
  have HPl := hid (played_any _ l w HV.out (by omega) hg)
  have HG := hid hg.size
  clear hg HV
  go_enter Tryz.func7, Tryz.ntmps7
  go_upto_region 6 with (go_at_call 10; refine HPl.out.mono ?_; rintro e w1 ⟨L, n, xs, rfl, hn, H1⟩)
  obtain ⟨bl, p, tf, F, σ, h, τ, HO, hxs, hτ⟩ := H1.out.o.ex
  have HO1 := hid HO
  have HMem := hid H1.out.mem
  have hm : xs.length ≤ n := H1.out.len
  obtain ⟨m, hmm⟩ : ∃ m, xs.length = m := ⟨_, rfl⟩
  have HM := hid hmm
  have HX := hid hxs
  have HTn := hid hτ
  rw [hmm] at hm
  clear HO hxs hτ hmm H1
  go_upto_region 8 with (first
    | (go_at_call 24; refine (ordRow_any (HO1.out.new H2.out.2.1)).mono ?_; rintro e w3 ⟨F', rfl, H3⟩)
    | (go_at_call 23; refine (ordTable_any HO1.out).mono ?_; rintro e w2 ⟨f', rfl, H2⟩))
  have HO3 := hid (HO1.out.new (H2.out.2.1.trans H3.out.2.1))
  have HT3 := hid (H2.out.1.new H3.out.2.1)
  have HC3 := hid H3.out.1
  have HTL := hid (tabLen_any HT3.out)
  rw [HO3.out.count, HX.out, HM.out] at HTL
  have HTT := hid (tabTaken_any HT3.out)
  rw [HTn.out] at HTT
  have HOL := hid (ordLen_any HO3.out)
  rw [HX.out, HM.out] at HOL
  have HPL := hid (pmaLen_any HC3.out)
  rw [← its_length, HX.out, HM.out] at HPL
  go_upto_region 11 with (first
    | (go_at_call 11; refine (ordHandles_any HO3.out).mono ?_; rintro e w4 ⟨v4, rfl, H4⟩)
    | (go_at_call 27; refine HPL.out.mono ?_; rintro e w4 ⟨rfl, rfl⟩)
    | (go_at_call 21; refine HOL.out.mono ?_; rintro e w4 ⟨rfl, rfl⟩)
    | (go_at_call 26; refine HTT.out.mono ?_; rintro e w4 ⟨rfl, rfl⟩)
    | (go_at_call 25; refine HTL.out.mono ?_; rintro e w4 ⟨rfl, rfl⟩))
  have hRd := H4.out.1.rd (by rw [HX.out, HM.out]; omega)
  have HS := hid (show TbS w L bl p tf f' F F' σ h τ v4 w4 from ⟨H4.out.2.1, HT3.out.new H4.out.2.2, HC3.out.new H4.out.2.2, hRd⟩)
  obtain ⟨A4, c4, e4, hA4⟩ := hRd
  rw [ints'_length, HX.out, HM.out] at e4
  subst e4
  clear hA4 HO3 HT3 HC3 HTL HTT HOL HPL H2 H3 H4 HO1
  obtain ⟨B, hB⟩ : ∃ B, w4.heap.size = B := ⟨_, rfl⟩
  have HB := hid hB
  have hmk : ∀ W : World, (Instr.makeSlice 56 (.int .i64 ((n : Int) + 1)) (.int .i64 ((n : Int) + 1))).run Tryz.prog W = .ok (.slice (some ⟨W.heap.size, 0, none⟩) (n + 1) (n + 1)) (W.alloc (.cells (madeCells #[.bool false] (n + 1)) 4)) := by
    have := mk_row (P := Tryz.prog) 56 4 (.bool false) 1 Tryz.underlying56 info_bool rfl (by decide) ((n : Int) + 1) (by omega) (by omega)
    rwa [show ((n : Int) + 1).toNat = n + 1 by omega] at this
  have hm0 := Has.made w4 (.bool false) (n + 1) 4
  rw [hB, lv_nil] at hm0
  have HGB := hid (show NG ≤ B by have := HG.out; have := HS.out.r.row.fr.size; omega)
  have H0 := hid (show (Fr (fun k => k = B) w4 (w4.alloc (.cells (madeCells #[.bool false] (n + 1)) 4)) ∧ _) from ⟨(Fr.refl _ _).alloc _, hm0⟩)
  clear hm0
  go_wp2_with fail
  go_loopw [2, 9, 10, 11, 12, 13, 14, 15, 16] (fun _ i _ _ _ _ _ _ _ wr => ∃ k : Nat, k ≤ m ∧ i = .int .i64 k ∧ Hid (Fr (fun k => k = B) w4 wr ∧ Has wr B (lv n (xs.take k)) 4)) (fun _ i _ _ _ _ _ _ _ _ => m - (intOf i).toNat)
  case atStart => exact ⟨0, by omega, rfl, hid ⟨H0.out.1, by rw [List.take_zero]; exact H0.out.2⟩⟩
  case round =>
    obtain ⟨k, hk, rfl, HW⟩ := hrel
    have HSf := hid (fun (w' : World) (hf : Fr (fun k => k = B) w4 w') => HS.out.fr (by rw [HB.out]; exact hf))
    by_cases hlt : k < m
    · have hltI : (k : Int) < m := by omega
      obtain ⟨x, hx⟩ : ∃ x, xs[k]? = some x := ⟨_, List.getElem?_eq_getElem (by rw [HM.out]; exact hlt)⟩
      have hxb := HMem.out x (List.mem_of_getElem? hx)
      obtain ⟨X, rfl⟩ : ∃ X : Nat, x = X := ⟨x.toNat, by omega⟩
      have hX1 : 1 ≤ X := by omega
      have hXn : X ≤ n := by omega
      have hXc : ¬ (X : Int) < 1 := by omega
      have hXd : ¬ (n : Int) < (X : Int) := by omega
      have hXe : (X : Int) < (n : Int) + 1 := by omega
      have HXk := hid hx
      obtain ⟨A', c', e', _, hA⟩ := (HSf.out wr HW.out.1).l
      injection e' with e1 e2 e3
      subst e1
      obtain ⟨ad, had, hc⟩ := hA (by rw [ints'_length, HX.out, HM.out]; omega)
      subst had
      have hcell := hc k _ (ints'_get (its σ) k (by rw [HX.out, HM.out]; exact hlt))
      rw [HX.out, List.getD_eq_getElem?_getD, hx, Option.getD_some] at hcell
      have hnot : decide ((X : Int) ∈ xs.take k) = false := by
        rw [decide_eq_false_iff_not]
        intro hm'
        obtain ⟨j, hj, e⟩ := List.getElem_of_mem hm'
        have h1 : (xs.take k)[j]? = some (X : Int) := List.getElem?_eq_some_iff.2 ⟨hj, e⟩
        rw [List.length_take] at hj
        rw [List.getElem?_take, if_pos (by omega), ← HX.out] at h1
        have := HS.out.r.inj h1 (by rw [HX.out]; exact hx)
        omega
      have l0 := HW.out.2.cell X
      rw [lv_get _ hXn, hnot] at l0
      have lf := HW.out.2.frozen
      have hfr : Fr (fun k => k = B) w4 (wr.setCell ⟨B, X, none⟩ (.bool true)) := HW.out.1.setCell ⟨B, X, none⟩ (.bool true) HGB.out (fun _ => rfl)
      have hhas := HW.out.2.set X (.bool true)
      rw [lv_set hXn] at hhas
      have etk : xs.take k ++ [(X : Int)] = xs.take (k + 1) := by rw [List.take_add_one, hx]; rfl
      rw [etk] at hhas
      have HN := hid (And.intro hfr hhas)
      obtain ⟨q, hS1, hS2, hS3, hS4⟩ := (HSf.out _ hfr).at (i := k) (x := (X : Int)) (by rw [HX.out]; exact hx) (by omega) (by omega)
      have HC1 := hid hS1
      have HC2 := hid hS2
      have HC3 := hid hS3
      have HC4 := hid hS4
      clear hS1 hS2 hS3 hS4 hfr hhas etk hnot hx hc hA e2 e3 hxb
      go_wp2_with (first
        | (go_at_call 30; refine HC4.out.mono ?_; rintro e w5 ⟨rfl, rfl⟩)
        | (go_at_call 13; refine HC3.out.mono ?_; rintro e w5 ⟨rfl, rfl⟩)
        | (go_at_call 29; refine HC2.out.mono ?_; rintro e w5 ⟨rfl, rfl⟩)
        | (go_at_call 28; refine HC1.out.mono ?_; rintro e w5 ⟨rfl, rfl⟩))
      exact ⟨⟨k + 1, by omega, by go_num, HN⟩, by simp [intOf]; omega⟩
    · have hltI : ¬ (k : Int) < m := by omega
      obtain rfl : m = k := by omega
      have H1 := hid (And.intro HW.out.1 (show Has wr B (lv n xs) 4 by have := HW.out.2; rwa [List.take_of_length_le (by rw [HM.out]; exact Nat.le_refl _)] at this))
      go_wp2_with fail
      go_loopw [2, 17] (fun _ i wx => ∃ X : Nat, 1 ≤ X ∧ X ≤ n + 1 ∧ i = .int .i64 X ∧ Hid (Fr (fun k => k = B) w4 wx ∧ Has wx B (lv n xs) 4)) (fun _ i _ => n + 1 - (intOf i).toNat)
      case atStart => exact ⟨1, by omega, by omega, rfl, H1⟩
      case round =>
        obtain ⟨X, hX1, hX2, rfl, HW2⟩ := hrel
        by_cases hXn : X ≤ n
        · have hXI : (X : Int) ≤ n := by omega
          have hXJ : (X : Int) < (n : Int) + 1 := by omega
          have l0 := HW2.out.2.cell X
          rw [lv_get _ hXn] at l0
          have HLv := hid (fun (w' : World) (hf : Fr Nil1 wr w') => (HSf.out w' (HW2.out.1.trans (hf.mono (fun _ _ h => h.elim)))).live (X : Int) (by omega) (by omega))
          rw [HX.out] at HLv
          generalize decide ((X : Int) ∈ xs) = β at *
          go_wp2_with fail
          go_quiet ((go_at_call 31; exact quiet_eq (HLv.out _ ((Fr.refl Nil1 _).drewN _))))
          go_wp2_with fail
          exact ⟨⟨X + 1, by omega, by omega, by go_num, hid ⟨HW2.out.1.drewN _, HW2.out.2.drewN _⟩⟩, by simp [intOf]; omega⟩
        · have hXI : ¬ (X : Int) ≤ n := by omega
          have HF := hid (show Fr Nil1 w wr from HS.out.r.row.fr.trans' HW2.out.1 (fun j _ hj hs => by have e : j = B := hs; have := HS.out.r.row.fr.size; have := HB.out; omega))
          go_wp2_with (go_at_call 9; refine (HAw.out _ HF.out).mono ?_; rintro e w9 ⟨rfl, H9⟩)
          go_ret
          exact ⟨rfl, HF.out.trans H9⟩
end Go.Proofs.YtogjfaiidciedaaGreatDoor
