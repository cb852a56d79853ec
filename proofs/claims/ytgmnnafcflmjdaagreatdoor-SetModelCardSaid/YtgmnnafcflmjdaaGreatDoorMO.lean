/- SetModel, as it is called: the walk. -/
import Derived.Test.YtgmnnafcflmjdaaGreatDoorMQ
import Derived.Test.YtgmnnafcflmjdaaGreatDoorSL
import Derived.Test.YtgmnnafcflmjdaaGreatDoorSN
import Derived.Deep.Cut
import Derived.Test.YtgmnnafcflmjdaaGreatDoorED
set_option linter.unusedVariables false
set_option linter.unusedSimpArgs false
namespace Go.Proofs.YtgmnnafcflmjdaaGreatDoor
open Go.RowKit Go.Maps

/-- SetModel's round behind the act. -/
structure MoA (w0 : World) (s b bx n : Nat) (ks : List Int) (S : St) (er : Int) (w : World) : Prop where
  set : SSP w0 s ks (fun k => k = b ∨ k = bx) w
  inn : InM w b n ks
  box : Has w bx [.int .i64 S.k, .int .i64 S.f, .int .i64 S.s, .int .i64 S.c] 30
  len : ks.length ≤ n
  ge : w0.heap.size ≤ b
  ng : NG ≤ b
  kind : er = 0 ↔ S.k ≠ 0
  wf : ∀ x ∈ ks, (Lit.int .i64 x).wf = true
theorem MoA.mk' {w0 w w' : World} {s b bx n : Nat} {ks : List Int} {S : St} {er : Int} (H : SSP w0 s ks (fun k => k = b ∨ k = bx) w) (hb : Has w bx [.int .i64 S.k, .int .i64 S.f, .int .i64 S.s, .int .i64 S.c] 30) (hg : w.grownBy w' (some b)) (hn : ¬ b = bx) (ge : w0.heap.size ≤ b) (ng : NG ≤ b)
    (hi : InM w' b n ks) (hl : ks.length ≤ n) (hk : er = 0 ↔ S.k ≠ 0) (hwf : ∀ x ∈ ks, (Lit.int .i64 x).wf = true) : MoA w0 s b bx n ks S er w' :=
  ⟨H.turn (grown_fr hg ng) (fun j hj => by have e : j = b := hj; subst e; exact ⟨.inl rfl, ge⟩), hi, hb.fr' (grown_fr hg ng) (fun e => hn e.symm), hl, ge, ng, hk, hwf⟩
theorem DelK.kind {ks ks' : List Int} {key er : Int} {S : St} (H : DelK ks key S er ks') : er = 0 ↔ S.k ≠ 0 := by
  cases H with
  | ok _ hS he _ => exact ⟨fun _ => hS, fun _ => he⟩
  | none _ hS he _ => subst hS; subst he; decide
theorem InsK.kind {ks ks' : List Int} {key er : Int} {S : St} (H : InsK ks key S er ks') : er = 0 ↔ S.k ≠ 0 := by
  cases H with
  | ok _ _ hS he _ => exact ⟨fun _ => hS, fun _ => he⟩
  | there _ hS he _ => subst hS; subst he; decide
  | full _ _ hS he _ => subst hS; subst he; decide
theorem DelK.all {ks ks' : List Int} {key er : Int} {S : St} (H : DelK ks key S er ks') (hu : Up ks) {P : Int → Prop} (h : ∀ x ∈ ks, P x) : ∀ x ∈ ks', P x := by
  cases H with
  | ok hm _ _ hl => subst hl; exact fun x hx => h x ((mem_delK hu hm).1 hx).1
  | none _ _ _ hl => subst hl; exact h
theorem InsK.all {ks ks' : List Int} {key er : Int} {S : St} (H : InsK ks key S er ks') {P : Int → Prop} (h : ∀ x ∈ ks, P x) (hk : P key) : ∀ x ∈ ks', P x := by
  cases H with
  | ok hm _ _ _ hl => subst hl; exact fun x hx => (mem_putK.1 hx).elim (fun e => e ▸ hk) (h x)
  | there _ _ _ hl => subst hl; exact h
  | full _ _ _ _ hl => subst hl; exact h
set_option maxRecDepth 100000 in
set_option maxHeartbeats 8000000 in
theorem setModel_any (v : Value) (l : List AcS) (w : World) (hv : RdAs w v l) (hg : GW w) : Calls Tryz.prog 3 #[v] w fun e w' => e = .returned (.bool true) ∧ Fr Nil1 w w' := by
  have HAw := hid (fun w' (hf : Fr Nil1 w w') => awake_any w' (hg.fr hf))
  have HNew := hid (SS.start w hg)
  have HG := hid hg
  obtain ⟨A, c, rfl, hb, hA⟩ := hv
  have HA := hid hA
  have HB := hid hb
  clear hb hA hg
  have hmm := @run_makeMap Tryz.prog
  go_enter Tryz.func3, Tryz.ntmps3
  by_cases h200 : 200 < l.length
  · have hI : (200 : Int) < (l.length : Int) := by omega
    go_wp2_with (go_at_call 11; refine (HAw.out _ (Fr.refl _ _)).mono ?_; rintro e w4 ⟨rfl, H4⟩)
    go_ret
    exact ⟨rfl, H4⟩
  have hI : ¬ (200 : Int) < (l.length : Int) := by omega
  go_upto_region 7 with (go_at_call 12; refine HNew.out.mono ?_; rintro e w1 ⟨s, rfl, H1⟩)
  have HM := hid (MoS.start H1.out HG.out)
  obtain ⟨b, hb⟩ : ∃ b, w1.heap.size = b := ⟨_, rfl⟩
  obtain ⟨W1, hW⟩ : ∃ W, w1.alloc (.map #[] 0) = W := ⟨_, rfl⟩
  have HM1 : Hid (MoS w s b 0 [] W1) := hb ▸ hW ▸ HM
  rw [hW, hb]
  clear hW hb HM H1 HNew hmm
  go_wp2_with fail
  go_loopw [2, 5, 6, 8, 9, 10] (fun r i a b' c' d wr => ∃ (k : Nat) (ks : List Int), k ≤ l.length ∧ i = .int .i64 k ∧ r = .bool false ∧ Hid (MoS w s b k ks wr) ∧ Hid (∀ x ∈ ks, (Lit.int .i64 x).wf = true)) (fun _ i _ _ _ _ _ => (l.length - intOf i).toNat)
  case atStart => exact ⟨0, [], by omega, rfl, rfl, HM1, hid (fun x hx => by cases hx)⟩
  case round =>
    obtain ⟨k, ks, hk, rfl, rfl, HW, HWF⟩ := hrel
    by_cases hlt : k < l.length
    · have hltI : (k : Int) < l.length := by omega
      have hltK := hid hlt
      obtain ⟨B0, o, rfl, hc⟩ := HA.out (by omega)
      obtain ⟨a, ha⟩ : ∃ a, l[k]? = some a := ⟨_, List.getElem?_eq_getElem hlt⟩
      obtain ⟨q0, q1⟩ := hc k a ha
      obtain ⟨goes, key⟩ := a
      have c0 : wr.cell? ⟨B0, o + k * 2, none⟩ = some (.bool goes) := HW.out.fr.cell q0 id
      have c1 : wr.cell? ⟨B0, o + k * 2 + 1, none⟩ = some (.int .i64 key) := HW.out.fr.cell q1 id
      have HK := hid (show (Lit.int .i64 key).wf = true from WalkArith.wf_i64 (HB.out _ (List.mem_of_getElem? ha)))
      have HX := hid (HW.out.set.boxed stepQ)
      have HF := hid (show Fr Nil1 wr (wr.alloc stepQ) from (Fr.refl _ _).alloc _)
      have HD := hid (HX.out.delete (by have := HW.out.len; omega) key)
      have HI := hid (HX.out.insert (by have := HW.out.len; omega) key)
      have hne : ¬ b = wr.heap.size := by have := HW.out.inn.lt; omega
      have HNE := hid hne
      have d0 := (show Fr Nil1 wr (wr.alloc (.cells #[.int .i64 0, .int .i64 0, .int .i64 0, .int .i64 0] 30)) from HF.out).cell c0 id
      have HNG := hid (show NG ≤ wr.heap.size by have := HG.out.size; have := HW.out.fr.size; omega)
      clear q0 q1 hc ha hne
      go_upto_if 35 with fail
      go_cut [2, 8] from 36 to 79 (fun s2 s8 wx => ∃ (S : St) (er : Int) (ks' : List Int), s2 = .bool false ∧ s8 = .int .i64 er ∧ Hid (MoA w s b wr.heap.size (k + 1) ks' S er wx))
      case rest =>
        obtain ⟨S, er, ks', rfl, rfl, HX⟩ := hcut
        obtain ⟨W, hW⟩ : ∃ W, W = wc := ⟨_, rfl⟩
        subst hW
        obtain ⟨q, h1, h2⟩ : ∃ q : Bool, (er == 0) = q ∧ (S.k != 0) = q := ⟨_, rfl, by
          have := HX.out.kind
          by_cases e : er = 0
          · rw [e]; rw [bne_iff_ne.2 (this.1 e)]; rfl
          · rw [beq_false_of_ne e]
            by_cases e2 : S.k = 0
            · rw [e2]; rfl
            · exact absurd (this.2 e2) e⟩
        have b0 := HX.out.box.cell 0
        have HB0 := hid b0
        have HL0 := hid (show ∀ (wz : World), Fr Nil1 W wz → wz.cell? ⟨wr.heap.size, 0, none⟩ = some (.int .i64 S.k) ∧ (Instr.lookup 26 (.map (some b)) (.int .i64 key) false).run Tryz.prog wz = .ok (.bool (decide (key ∈ ks'))) wz ∧ (∀ ty, (Builtin.len_ #[26] ty #[.map (some b)]).run Tryz.prog wz = .ok (.int .i64 ks'.length) wz) from
          fun wz hf => ⟨hf.cell HB0.out id, run_in (HX.out.inn.new hf) key HK.out, fun ty => run_inLen (HX.out.inn.new hf) ty⟩)
        obtain ⟨_, l1, l2⟩ := HL0.out W.drew (Fr.refl Nil1 W).drew
        clear HD HI d0 c0 c1
        go_upto_region 22 with fail
        go_region_held3 (fun w' => w'.cell? ⟨wr.heap.size, 0, none⟩ = some (.int .i64 S.k) ∧ ∀ ty, (Builtin.len_ #[26] ty #[.map (some b)]).run Tryz.prog w' = .ok (.int .i64 ks'.length) w') (first | exact ⟨k0, m2⟩ | exact ⟨b0, l2⟩ | go_keep) (first
          | (go_at_call 15; (with_reducible refine ((HX.out.set.ss.new (Fr.refl Nil1 W).drew).has key).mono ?_); rintro e w2 ⟨rfl, HF2⟩; obtain ⟨k0, m1, m2⟩ := HL0.out w2 ((Fr.refl Nil1 W).drew.trans HF2); have HF3 := hid HF2; clear HF2)
          | (go_at_call 16; (with_reducible refine (HX.out.set.ss.new ((Fr.refl Nil1 W).drew.trans HF3.out)).len.mono ?_); rintro e w3 ⟨rfl, rfl⟩; obtain ⟨k0, m1, m2⟩ := HL0.out w2 ((Fr.refl Nil1 W).drew.trans HF3.out)))
        all_goals (
          clear h1 h2 b0 l1 l2
          go_wp2_with (go_at_call 17; (with_reducible refine (HX.out.set.ss.new ((Fr.refl Nil1 W).drew.trans HF3.out)).keys.mono ?_); rintro e w4 ⟨A', c', rfl, H4⟩; obtain ⟨_, _, n2⟩ := HL0.out w4 (((Fr.refl Nil1 W).drew.trans HF3.out).trans H4.out.2))
          have HF4 := hid (((Fr.refl Nil1 W).drew.trans HF3.out).trans H4.out.2)
          clear n2
          go_loopw [2, 10] (fun r i wx => ∃ j : Nat, j ≤ ks'.length ∧ i = .int .i64 j ∧ r = .bool false ∧ Hid (Fr Nil1 w4 wx)) (fun _ i _ => (ks'.length - intOf i).toNat)
          case atStart => exact ⟨0, by omega, rfl, rfl, hid (Fr.refl _ _)⟩
          case round =>
            obtain ⟨j, hj, rfl, rfl, HW4⟩ := hrel
            by_cases hlt : j < ks'.length
            · have hltI : (j : Int) < ks'.length := by omega
              have j0 : (0 : Int) ≤ (j : Int) := by omega
              obtain ⟨A2, c2, e2, _, hA2⟩ := H4.out.1.new HW4.out
              rw [ints'_length] at e2 hA2
              injection e2 with e3 e4 e5
              subst e3
              subst e5
              obtain ⟨ad, rfl, hc⟩ := hA2 (by omega)
              clear hA2
              have hmem : ks'.getD j 0 ∈ ks' := by
                rw [List.getD_eq_getElem?_getD, List.getElem?_eq_getElem hlt]; exact List.getElem_mem hlt
              have z1 := fun n => run_in (HX.out.inn.new ((HF4.out.trans HW4.out).drewN n)) (ks'.getD j 0) (HX.out.wf _ hmem)
              rw [decide_eq_true hmem] at z1
              have d1 : wr.cell? (ad.add j) = some (.int .i64 (ks'.getD j 0)) := hc j _ (ints'_get ks' j hlt)
              have hkb : (j : Int) < 2560 := by have := HX.out.len; omega
              obtain ⟨J, hJ⟩ : ∃ J : Int, (j : Int) = J := ⟨_, rfl⟩
              have HJI := hid hJ
              have hJn : J.toNat = j := by omega
              by_cases hj0 : j = 0
              · have hjn : decide ((0 : Int) < J) = false := decide_eq_false (by omega)
                have HJ := hid (And.intro hj hj0)
                rw [hJ] at hltI j0 hkb ⊢
                clear hj hj0 hc hmem hJ hlt
                generalize ks'.getD j 0 = x at *
                go_wp2_with fail
                go_quiet (fail)
                go_wp2_with fail
                exact ⟨⟨j + 1, by have := HJ.out; omega, by rw [show ((j + 1 : Nat) : Int) = J + 1 by have := HJI.out; omega], rfl, hid (HW4.out.drewN _)⟩, by have := HJI.out; simp [intOf]; omega⟩
              · obtain ⟨i, hi⟩ : ∃ i, j = i + 1 := ⟨j - 1, by omega⟩
                have d0 : wr.cell? (ad.add i) = some (.int .i64 (ks'.getD i 0)) := hc i _ (ints'_get ks' i (by omega))
                have hup : ks'.getD i 0 < ks'.getD j 0 := by rw [hi]; exact up_getD HX.out.set.ss.up (by omega)
                obtain ⟨I, hI2⟩ : ∃ I : Int, (i : Int) = I := ⟨_, rfl⟩
                have hIn : I.toNat = i := by omega
                have e2 : IntKind.i64.wrap (J - 1) = I := by rw [show J - 1 = I by omega]; exact IntWalk.i64_in _ (by omega)
                have i0 : (0 : Int) ≤ I := by omega
                have i1 : I < (ks'.length : Int) := by omega
                have hjn : decide ((0 : Int) < J) = true := decide_eq_true (by omega)
                have hd : decide (ks'.getD j 0 ≤ ks'.getD i 0) = false := decide_eq_false (by omega)
                have HJ := hid (And.intro hj hi)
                rw [hJ] at hltI j0 hkb ⊢
                clear hj hj0 hc hmem hup hi hJ hI2 hlt
                generalize ks'.getD j 0 = x at *
                generalize ks'.getD i 0 = y at *
                go_wp2_with fail
                go_quiet (fail)
                go_wp2_with fail
                exact ⟨⟨j + 1, by have := HJ.out; omega, by rw [show ((j + 1 : Nat) : Int) = J + 1 by have := HJI.out; omega], rfl, hid (HW4.out.drewN _)⟩, by have := HJI.out; simp [intOf]; omega⟩
            · have HJ := hid (And.intro hj hlt)
              have hltI : ¬ (j : Int) < ks'.length := by omega
              have HFX := hid (HF4.out.trans HW4.out)
              clear hj hlt
              go_wp2_with fail
              exact ⟨⟨k + 1, ks', by have := hltK.out; omega, by go_num, rfl, hid ⟨(HX.out.set.new HFX.out).less (fun k hk => .inl hk), HX.out.inn.new HFX.out, HX.out.len, HX.out.ge, HX.out.ng⟩, hid HX.out.wf⟩, by have := hltK.out; simp [intOf]; omega⟩)
      cases goes with
      | true =>
        go_upto_region 15 with (go_at_call 13; (with_reducible refine HD.out.mono ?_); rintro e w2 ⟨S, er, ks', rfl, H2⟩; have hb := show Has w2 wr.heap.size [.int .i64 0, .int .i64 0, .int .i64 0, .int .i64 0] 30 from (H2.out.2.2 _ (.inr rfl)).trans (zer5 wr); have HBx := hid hb; have e0 := hb.cell 0; have e1 := hb.cell 1; have e2 := hb.cell 2; have e3 := hb.cell 3; have ef := hb.frozen; clear hb)
        obtain ⟨W2, hW2⟩ : ∃ W, ((((w2.setCell ⟨wr.heap.size, 0, none⟩ (.int .i64 S.k)).setCell ⟨wr.heap.size, 1, none⟩ (.int .i64 S.f)).setCell ⟨wr.heap.size, 2, none⟩ (.int .i64 S.s)).setCell ⟨wr.heap.size, 3, none⟩ (.int .i64 S.c)) = W := ⟨_, rfl⟩
        rw [hW2]
        have HF2 : Hid (Fr (fun j => j = wr.heap.size) w2 W2) := hW2 ▸ hid (st5_fr w2 wr.heap.size S HNG.out)
        have HB2 : Hid (Has W2 wr.heap.size [.int .i64 S.k, .int .i64 S.f, .int .i64 S.s, .int .i64 S.c] 30) := hW2 ▸ hid ((((HBx.out.set 0 (.int .i64 S.k)).set 1 (.int .i64 S.f)).set 2 (.int .i64 S.s)).set 3 (.int .i64 S.c))
        have HS2 := hid (H2.out.1.turn HF2.out (fun j hj => ⟨.inr hj, by have e : j = wr.heap.size := hj; have := HW.out.fr.size; omega⟩))
        have HN2 := hid (((HW.out.inn.new HF.out).same (H2.out.2.2 b (.inl rfl))).same (HF2.out.block b (H2.out.1.lt b (.inl rfl)) (fun g => absurd g HNE.out)))
        have HU := hid HW.out.set.ss.up
        have HQ := hid H2.out.2.1
        clear hW2 H2 HBx e0 e1 e2 e3 ef c0 c1 d0 HX HF HD HI
        by_cases hm : key ∈ ks
        · obtain ⟨rfl, hl⟩ : er = 0 ∧ ks' = delK ks key := by
            cases HQ.out with
            | ok _ _ he hl => exact ⟨he, hl⟩
            | none h _ _ _ => exact absurd hm h
          go_upto_region 22 with (first
            | (at_lookup; refine wpList_in rfl _ _ rfl b k ks rfl HN2.out key rfl HK.out ?_)
            | (at_delete; refine wpList_inDel rfl _ _ rfl b k ks rfl HN2.out HU.out key rfl HK.out ?_; intro w3 h3 hg3; have H3 := hid h3; have HG3 := hid hg3; clear h3 hg3))
          go_meet
          exact ⟨S, 0, ks', rfl, rfl, hid (MoA.mk' HS2.out HB2.out HG3.out HNE.out HW.out.ge HW.out.ng (by rw [hl]; have := H3.out; rw [if_pos hm] at this; exact this.mono (by omega)) (by have := HQ.out.len HU.out; have := HW.out.len; omega) HQ.out.kind (HQ.out.all HU.out HWF.out))⟩
        · obtain ⟨rfl, hl⟩ : er = 14 ∧ ks' = ks := by
            cases HQ.out with
            | ok h _ _ _ => exact absurd h hm
            | none _ _ he hl => exact ⟨he, hl⟩
          go_upto_region 22 with (first
            | (at_lookup; refine wpList_in rfl _ _ rfl b k ks rfl HN2.out key rfl HK.out ?_)
            | (at_delete; refine wpList_inDel rfl _ _ rfl b k ks rfl HN2.out HU.out key rfl HK.out ?_; intro w3 h3 hg3; have H3 := hid h3; have HG3 := hid hg3; clear h3 hg3))
          go_meet
          exact ⟨S, 14, ks', rfl, rfl, hid (MoA.mk' HS2.out HB2.out HG3.out HNE.out HW.out.ge HW.out.ng (by rw [hl]; have := H3.out; rw [if_neg hm] at this; exact this.mono (by omega)) (by have := HQ.out.len HU.out; have := HW.out.len; omega) HQ.out.kind (HQ.out.all HU.out HWF.out))⟩
      | false =>
        go_upto_region 19 with (go_at_call 14; (with_reducible refine HI.out.mono ?_); rintro e w2 ⟨S, er, ks', rfl, H2⟩; have hb := show Has w2 wr.heap.size [.int .i64 0, .int .i64 0, .int .i64 0, .int .i64 0] 30 from (H2.out.2.2 _ (.inr rfl)).trans (zer5 wr); have HBx := hid hb; have e0 := hb.cell 0; have e1 := hb.cell 1; have e2 := hb.cell 2; have e3 := hb.cell 3; have ef := hb.frozen; clear hb)
        obtain ⟨W2, hW2⟩ : ∃ W, ((((w2.setCell ⟨wr.heap.size, 0, none⟩ (.int .i64 S.k)).setCell ⟨wr.heap.size, 1, none⟩ (.int .i64 S.f)).setCell ⟨wr.heap.size, 2, none⟩ (.int .i64 S.s)).setCell ⟨wr.heap.size, 3, none⟩ (.int .i64 S.c)) = W := ⟨_, rfl⟩
        rw [hW2]
        have HF2 : Hid (Fr (fun j => j = wr.heap.size) w2 W2) := hW2 ▸ hid (st5_fr w2 wr.heap.size S HNG.out)
        have HB2 : Hid (Has W2 wr.heap.size [.int .i64 S.k, .int .i64 S.f, .int .i64 S.s, .int .i64 S.c] 30) := hW2 ▸ hid ((((HBx.out.set 0 (.int .i64 S.k)).set 1 (.int .i64 S.f)).set 2 (.int .i64 S.s)).set 3 (.int .i64 S.c))
        have HS2 := hid (H2.out.1.turn HF2.out (fun j hj => ⟨.inr hj, by have e : j = wr.heap.size := hj; have := HW.out.fr.size; omega⟩))
        have HN2 := hid (((HW.out.inn.new HF.out).same (H2.out.2.2 b (.inl rfl))).same (HF2.out.block b (H2.out.1.lt b (.inl rfl)) (fun g => absurd g HNE.out)))
        have HU := hid HW.out.set.ss.up
        have HQ := hid H2.out.2.1
        clear hW2 H2 HBx e0 e1 e2 e3 ef c0 c1 d0 HX HF HD HI
        by_cases hm : key ∈ ks
        · obtain ⟨rfl, hl⟩ : er = 15 ∧ ks' = ks := by
            cases HQ.out with
            | ok h _ _ _ _ => exact absurd hm h
            | there _ _ he hl => exact ⟨he, hl⟩
            | full h _ _ _ _ => exact absurd hm h
          go_upto_region 22 with (first
            | (at_lookup; refine wpList_in rfl _ _ rfl b k ks rfl HN2.out key rfl HK.out ?_)
            | (at_mapUpdate; refine wpList_inAgain rfl _ _ _ rfl b k ks rfl HN2.out (show k < maxLen by have : maxLen = 9223372036854775807 := rfl; omega) key rfl rfl HK.out hm ?_; intro w3 h3 hg3; have H3 := hid h3; have HG3 := hid hg3; clear h3 hg3))
          go_meet
          exact ⟨S, 15, ks', rfl, rfl, hid (MoA.mk' HS2.out HB2.out HG3.out HNE.out HW.out.ge HW.out.ng (by rw [hl]; exact H3.out) (by have := HQ.out.len; have := HW.out.len; omega) HQ.out.kind (HQ.out.all HWF.out HK.out))⟩
        · obtain ⟨rfl, hl⟩ : er = 0 ∧ ks' = putK ks key := by
            cases HQ.out with
            | ok _ _ _ he hl => exact ⟨he, hl⟩
            | there h _ _ _ => exact absurd h hm
            | full _ h _ _ _ => exact absurd h (by have := HW.out.len; omega)
          go_upto_region 22 with (first
            | (at_lookup; refine wpList_in rfl _ _ rfl b k ks rfl HN2.out key rfl HK.out ?_)
            | (at_mapUpdate; refine wpList_inPut rfl _ _ _ rfl b k ks rfl HN2.out (show k < maxLen by have : maxLen = 9223372036854775807 := rfl; omega) key rfl rfl HK.out hm ?_; intro w3 h3 hg3; have H3 := hid h3; have HG3 := hid hg3; clear h3 hg3))
          go_meet
          exact ⟨S, 0, ks', rfl, rfl, hid (MoA.mk' HS2.out HB2.out HG3.out HNE.out HW.out.ge HW.out.ng (by rw [hl]; exact H3.out) (by have := HQ.out.len; have := HW.out.len; omega) HQ.out.kind (HQ.out.all HWF.out HK.out))⟩
    · have hltI : ¬ (k : Int) < l.length := by omega
      go_wp2_with (go_at_call 11; refine (HAw.out _ HW.out.fr).mono ?_; rintro e w4 ⟨rfl, H4⟩)
      go_ret
      exact ⟨rfl, HW.out.fr.trans H4⟩
end Go.Proofs.YtgmnnafcflmjdaaGreatDoor
