/- PmaLocal, as it is called: the walk. -/
import Derived.Test.YtanefeeneladnaaDoorYH
import Derived.Deep.RegionHeld3
import Derived.Deep.Cut
import Derived.Deep.CutRange
set_option linter.unusedVariables false
set_option linter.unusedSimpArgs false
namespace Go.Proofs.YtanefeeneladnaaDoor
open Go.RowKit

theorem at_same {σ σ' : List (Option Int)} {m : Nat} (h : σ'.getD m none = σ.getD m none) : Value.tuple #[.int .i64 (atV σ' m), .bool (atB σ' m)] = .tuple #[.int .i64 (atV σ m), .bool (atB σ m)] := by
  rw [atB_nat, atB_nat, onOf_eq h]
  unfold atV
  rw [if_pos (by omega), if_pos (by omega), Int.toNat_natCast, h]
/-- What stands behind an act: the row, its clone of before, the step. -/
structure LocW (w0 : World) (p : Nat) (Fc : PF) (BS : Nat) (σ : List (Option Int)) (h : Nat) (S : St) (er : Int) (F' : PF) (σ' : List (Option Int)) (h' : Nat) (evs' : List Ev) (wx : World) : Prop where
  r : RowN w0 p F' σ' h' evs' wx
  c : PmaR wx Fc σ h Value.nilFunc
  s : Has wx BS [.int .i64 S.k, .int .i64 S.f, .int .i64 S.s, .int .i64 S.c] 35
  a : ActP σ h S er σ' h'
  len : (its σ').length ≤ (its σ).length + 1
theorem LocW.of {w0 w4 w5 : World} {p : Nat} {F Fc : PF} {σ : List (Option Int)} {h : Nat} {evs : List Ev} (H4 : RowN w0 p F σ h evs w4) (Hc : PmaR w4 Fc σ h Value.nilFunc) (hd : ∀ k, Fc.mem k → ¬ F.mem k) {S : St} {er : Int} {F' : PF} {σ' : List (Option Int)} {h' : Nat} {evs' : List Ev}
    (hR : RowN w0 p F' σ' h' evs' w5) (hA : ActP σ h S er σ' h') (hl : (its σ').length ≤ (its σ).length + 1) (hm : ∀ k, F'.mem k → F.mem k ∨ (w4.alloc (.cells #[.int .i64 0, .int .i64 0, .int .i64 0, .int .i64 0] 35)).heap.size ≤ k) (hf : Fr (fun k => F.mem k ∨ Bn k) (w4.alloc (.cells #[.int .i64 0, .int .i64 0, .int .i64 0, .int .i64 0] 35)) w5) :
    LocW w0 p Fc w4.heap.size σ h S er F' σ' h' evs' ((((w5.setCell ⟨w4.heap.size, 0, none⟩ (.int .i64 S.k)).setCell ⟨w4.heap.size, 1, none⟩ (.int .i64 S.f)).setCell ⟨w4.heap.size, 2, none⟩ (.int .i64 S.s)).setCell ⟨w4.heap.size, 3, none⟩ (.int .i64 S.c)) := by
  have g0 : NG ≤ w4.heap.size := H4.r.sl.g.size
  have g1 := H4.fr.size
  have n1 : ¬ F.mem w4.heap.size := fun hk => by have := H4.r.lt _ hk; omega
  have n2 : ¬ F'.mem w4.heap.size := fun hk => by
    rcases hm _ hk with h1 | h1
    · exact n1 h1
    · rw [World.size_alloc] at h1; omega
  have n3 : ¬ Fc.mem w4.heap.size := fun hk => by have := Hc.lt _ hk; omega
  have hs : Has w5 w4.heap.size [.int .i64 0, .int .i64 0, .int .i64 0, .int .i64 0] 35 := (Has.new w4 _ _).fr' hf (fun hk => by
    rcases hk with h1 | h1
    · exact n1 h1
    · exact h1)
  have hc5 : PmaR w5 Fc σ h Value.nilFunc := (Hc.new ((Fr.refl Nil1 _).alloc _)).fr hf (fun k hk hk' => by
    rcases hk' with h1 | h1
    · exact hd k hk h1
    · exact h1)
  have st : ∀ {wx : World} (i : Nat) (v : Value), PmaR wx Fc σ h Value.nilFunc → PmaR (wx.setCell ⟨w4.heap.size, i, none⟩ v) Fc σ h Value.nilFunc := fun i v H => H.fr ((Fr.refl (fun k => k = w4.heap.size) _).setCell _ _ g0 (fun _ => rfl)) (fun k hk e => n3 (e ▸ hk))
  have rt : ∀ {wx : World} (i : Nat) (v : Value), RowN w0 p F' σ' h' evs' wx → RowN w0 p F' σ' h' evs' (wx.setCell ⟨w4.heap.size, i, none⟩ v) := fun i v H => RowG.store H hearN _ i v n2 (fun h => h) g1 g0
  exact ⟨rt _ _ (rt _ _ (rt _ _ (rt _ _ hR))), st _ _ (st _ _ (st _ _ (st _ _ hc5))), (((hs.set 0 _).set 1 _).set 2 _).set 3 _, hA, hl⟩

set_option maxRecDepth 100000 in
set_option maxHeartbeats 4000000 in
theorem pmaLocal_any (v : Value) (l : List AcT) (w : World) (hv : RdAc w v l) (hg : GW w) : Calls Tryd.prog 6 #[v] w fun e w' => e = .returned (.bool true) ∧ Fr Nil1 w w' := by
  have HAw := hid (fun w' (hf : Fr Nil1 w w') => awake_any w' (hg.fr hf))
  have HNew := hid (RowG.made (w0 := w) (B := Bn) (J := Jn) Value.nilFunc (.inl rfl) w hg hearN trivial (Fr.refl _ _) (fun k h => h.elim))
  obtain ⟨A, c, rfl, hb, hA⟩ := hv
  have HA := hid (And.intro hb hA)
  clear hb hA hg
  by_cases h200 : 200 < l.length
  · have HA0 := hid (HAw.out w (Fr.refl _ _))
    have hI : (200 : Int) < (l.length : Int) := by omega
    clear HAw HA HNew
    go_enter Tryd.func6, Tryd.ntmps6
    go_wp2_with (go_at_call 7; refine HA0.out.mono ?_; rintro e w1 ⟨rfl, H1⟩)
    go_ret
    exact ⟨rfl, H1⟩
  · have hN : l.length ≤ 200 := by omega
    have hNI : ¬ (200 : Int) < (l.length : Int) := by omega
    go_enter Tryd.func6, Tryd.ntmps6
    go_wp2_with (go_at_call 8; refine HNew.out.mono ?_; rintro e w1 ⟨p, F0, rfl, H1⟩)
    have HR0 := hid H1.out.1
    clear H1
    go_loopw [2, 4, 5, 6, 8, 9, 10, 11, 12, 13, 14, 15, 16, 17, 18, 19, 20] (fun _ i _ _ _ _ _ _ _ _ _ _ _ _ _ _ _ wr => ∃ (k : Nat) (F : PF) (σ : List (Option Int)) (h : Nat) (evs : List Ev), k ≤ l.length ∧ i = .int .i64 k ∧ Hid (RowN w p F σ h evs wr ∧ (its σ).length ≤ k)) (fun _ i _ _ _ _ _ _ _ _ _ _ _ _ _ _ _ _ => l.length - (intOf i).toNat)
    case atStart => exact ⟨0, F0, _, 2, [], by omega, rfl, hid ⟨HR0.out, by decide⟩⟩
    case round =>
      obtain ⟨k, F, σ, h, evs, hk, rfl, HW⟩ := hrel
      by_cases hlt : k < l.length
      · have hltI : (k : Int) < l.length := by omega
        obtain ⟨b, o, rfl, hc⟩ := HA.out.2 (by omega)
        obtain ⟨a, ha⟩ : ∃ a, l[k]? = some a := ⟨_, List.getElem?_eq_getElem hlt⟩
        obtain ⟨q0, q1, q2, q3⟩ := hc k a ha
        have hab := HA.out.1 a (List.mem_of_getElem? ha)
        obtain ⟨goes, raw, z, x⟩ := a
        have HQ := hid (fun w' (hf : Fr Nil1 w w') => And.intro (hf.cell q0 id) (And.intro (hf.cell q1 id) (And.intro (hf.cell q2 id) (hf.cell q3 id))))
        have HCl := hid (pmaClone_any HW.out.1.r)
        rw [HW.out.1.p] at HCl
        have HAb := hid hab
        clear q0 q1 q2 q3 hc ha hab
        go_wp2_with (go_at_call 21; refine HCl.out.mono ?_; rintro e w2 ⟨Fc, rfl, hc1, hc2, hc3⟩; have H2 := hid (And.intro hc1 (And.intro hc2 hc3)); clear hc1 hc2 hc3)
        have HW2 := hid (RowG.new HW.out.1 hearN H2.out.2.1)
        obtain ⟨c0, c1, c2, c3⟩ := HQ.out w2 HW2.out.fr
        go_region_held3 (fun w' => w'.cell? ⟨b, o + k * 4, none⟩ = some (.bool goes) ∧ w'.cell? ⟨b, o + k * 4 + 1, none⟩ = some (.bool raw) ∧ w'.cell? ⟨b, o + k * 4 + 2, none⟩ = some (.int .i64 z) ∧ w'.cell? ⟨b, o + k * 4 + 3, none⟩ = some (.int .i64 x)) (first | exact ⟨k0, k1, k2, k3⟩ | exact ⟨c0, c1, c2, c3⟩ | go_keep) (first
          | (go_at_call 10; refine (RowG.place H4.out.2.1 hearN ⟨goes, raw, z, x⟩ v4 H4.out.1 HAb.out.1 HAb.out.2).mono ?_; rintro e w5 ⟨rfl, H5⟩; obtain ⟨k0, k1, k2, k3⟩ := HQ.out _ H5.out.1.fr)
          | (go_at_call 12; refine (RowG.placesR H3.out.2.1 hearN H3.out.1).mono ?_; rintro e w4 ⟨v4, rfl, H4⟩; obtain ⟨k0, k1, k2, k3⟩ := HQ.out _ H4.out.2.1.fr)
          | (go_at_call 11; refine (RowG.slots (RowG.new HW2.out hearN (Fr.refl Nil1 w2).drew) hearN).mono ?_; rintro e w3 ⟨f3, rfl, H3⟩; obtain ⟨k0, k1, k2, k3⟩ := HQ.out _ H3.out.2.1.fr))
        have HLn := hid (show (its σ).length < 2560 by have := HW.out.2; omega)
        have HDj := hid (fun k (hk : Fc.mem k) (hF : F.mem k) => show False by have h1 := H2.out.2.2 k hk; have h2 := HW.out.1.r.lt k hF; omega)
        have HC5 := hid (((H2.out.1.new (Fr.refl Nil1 w2).drew).new H3.out.2.2).new (H4.out.2.2.trans H5.out.2))
        obtain ⟨pl, hpl⟩ : ∃ pl, (⟨goes, raw, z, x⟩ : AcT).place (idxs (occ σ)) = pl := ⟨_, rfl⟩
        rw [hpl]
        clear hpl
        have HBs := Has.new w5 [.int .i64 0, .int .i64 0, .int .i64 0, .int .i64 0] 35
        have HBS := hid HBs
        have HnF := hid (fun hk : F.mem w5.heap.size => show False by have := H5.out.1.r.lt _ hk; omega)
        clear HBs
        obtain ⟨g0, g1, g2, g3⟩ := HQ.out (w5.alloc (.cells #[.int .i64 0, .int .i64 0, .int .i64 0, .int .i64 0] 35)) (H5.out.1.fr.alloc _)
        go_upto_if 49 with (fail)
        go_cut [8] from 28 to 179 (fun s8 wx => ∃ (S : St) (er : Int) (F' : PF) (σ' : List (Option Int)) (h' : Nat) (evs' : List Ev), s8 = .int .i64 er ∧ Hid (LocW w p Fc w5.heap.size σ h S er F' σ' h' evs' wx))
        case first =>
          cases goes with
          | true =>
            go_wp2_with (go_at_call 13; refine (RowG.delAny (RowG.new H5.out.1 hearN ((Fr.refl Nil1 w5).alloc _)) hearN (by have := HLn.out; omega) pl).mono ?_; rintro e w6 ⟨x6, S6, er, rfl, H6⟩; have hb := HBS.out.fr' H6.out.fr (fun hk => hk.elim (fun h => HnF.out h) id); have hb0 := hb.cell 0; have hb1 := hb.cell 1; have hb2 := hb.cell 2; have hb3 := hb.cell 3; have hbf := hb.frozen; clear hb)
            go_meet
            obtain ⟨⟨F6, σ6, h6, ev6, hR, hQ', hm⟩, hf⟩ := H6.out
            obtain ⟨hA', hl'⟩ := hQ'.act H5.out.1.d.len
            exact ⟨S6, er, F6, σ6, h6, _, rfl, hid (LocW.of H5.out.1 HC5.out HDj.out hR hA' (by rcases hl' with h1 | h1 <;> (try rw [h1]) <;> omega) hm hf)⟩
          | false =>
            go_wp2_with (go_at_call 14; refine (RowG.insAny (RowG.new H5.out.1 hearN ((Fr.refl Nil1 w5).alloc _)) hearN HLn.out pl x).mono ?_; rintro e w6 ⟨x6, S6, er, rfl, H6⟩; have hb := HBS.out.fr' H6.out.fr (fun hk => hk.elim (fun h => HnF.out h) id); have hb0 := hb.cell 0; have hb1 := hb.cell 1; have hb2 := hb.cell 2; have hb3 := hb.cell 3; have hbf := hb.frozen; clear hb)
            go_meet
            obtain ⟨⟨F6, σ6, h6, ev6, hR, hQ', hm⟩, hf⟩ := H6.out
            obtain ⟨hA', hl'⟩ := hQ'.act
            exact ⟨S6, er, F6, σ6, h6, _, rfl, hid (LocW.of H5.out.1 HC5.out HDj.out hR hA' (by rcases hl' with h1 | h1 <;> (try rw [h1]) <;> omega) hm hf)⟩
        case rest =>
          obtain ⟨S, er, F', σ', h', evs', rfl, HL⟩ := hcut
          obtain ⟨BS, hBS⟩ : ∃ BS, w5.heap.size = BS := ⟨_, rfl⟩
          rw [hBS] at HL ⊢
          have HBG := hid (show NG ≤ wc.heap.size from HL.out.r.r.sl.g.size)
          have hz0 : 0 < 2 ^ h := Nat.pow_pos (by omega)
          have hz9 := p2_le HL.out.c.h9
          have HlN := hid (show (its σ').length ≤ k + 1 by have := HL.out.len; have := HW.out.2; omega)
          have hclen := HL.out.c.len
          clear hBS k0 k1 k2 k3 c0 c1 c2 c3 g0 g1 g2 g3 H2 H3 H4 H5 HC5 HDj HBS HnF HLn HCl HAb HW2
          rcases HL.out.a with ⟨he, hS, hσ, hh⟩ | ⟨f, s, n, he, hS, hh, h0, fit, hn, len, inn, out⟩ | ⟨kd, hk', he, hS, hh, kk⟩
          · subst hS hσ hh
            have b1 : wc.cell? ⟨BS, 1, none⟩ = some (.int .i64 0) := HL.out.s.cell 1
            have b2 : wc.cell? ⟨BS, 2, none⟩ = some (.int .i64 0) := HL.out.s.cell 2
            have hd1 : (er == 0) = false := beq_eq_false_iff_ne.2 he
            have hd2 : (er != 0) = true := by rw [bne_iff_ne]; exact he
            have hbf := HL.out.s.frozen
            have HCp := hid (fun wx (hf : Fr Nil1 wc wx) => RowG.cap (RowG.new HL.out.r hearN hf))
            have HCc := hid (fun wx (hf : Fr Nil1 wc wx) => pmaCap_any (HL.out.c.new hf))
            rw [hclen] at HCc
            obtain ⟨N, hN⟩ : ∃ N, 8 * 2 ^ h' = N := ⟨_, rfl⟩
            rw [hN] at HCp HCc
            have hN2 : N ≤ 4096 := by omega
            have HG := hid (show NG ≤ wc.heap.size from HBG.out)
            clear hclen hN
            go_wp2_with (first
              | (go_at_call 20; with_reducible refine (HCc.out _ (Fr.refl _ _)).mono ?_; rintro e w6 ⟨rfl, rfl⟩)
              | (go_at_call 20; refine (HCp.out _ (Fr.refl _ _)).mono ?_; rintro e w6 ⟨rfl, rfl⟩))
            go_loopw [2, 13, 14, 15, 16, 17, 18] (fun _ v i _ _ _ _ wx => ∃ m : Nat, m ≤ N ∧ i = .int .i64 m ∧ Hid (RowI wx wc.heap.size v (hereL σ' 0 0 m) ∧ Fr Nil1 wc wx)) (fun _ _ i _ _ _ _ _ => N - (intOf i).toNat)
            case atStart => exact ⟨0, by omega, rfl, hid ⟨RowI.nil _ _, Fr.refl _ _⟩⟩
            case round =>
              obtain ⟨wr2, hwr2⟩ : ∃ W : World, W = wr := ⟨_, rfl⟩
              subst hwr2
              obtain ⟨m, hm, rfl, HR⟩ := hrel
              by_cases hlt2 : m < N
              · have hltI : (m : Int) < N := by omega
                have HAp := hid (RowG.at (RowG.new HL.out.r hearN HR.out.2) (m : Int))
                have HAc := hid (pmaAt_any (HL.out.c.new HR.out.2) (m : Int))
                have HSt := hid (show hereL σ' 0 0 (m + 1) = hereL σ' 0 0 m by rw [hereL_nil _ _ _ (Nat.le_refl _), hereL_nil _ _ _ (Nat.le_refl _)])
                generalize atV σ' m = y at HAp HAc
                generalize atB σ' m = z at HAp HAc
                have i2 : (0 : Int) ≤ m := by omega
                have i4 : ¬ (m : Int) < 0 := by omega
                go_wp2_with (first
                  | (go_at_call 15; with_reducible refine HAp.out.mono ?_; rintro e w6 ⟨rfl, rfl⟩)
                  | (go_at_call 15; refine HAc.out.mono ?_; rintro e w6 ⟨rfl, rfl⟩)
                  | (go_at_call 20; refine (HCp.out wr2 HR.out.2).mono ?_; rintro e w6 ⟨rfl, rfl⟩))
                exact ⟨⟨m + 1, by omega, by go_num, hid ⟨by rw [HSt.out]; exact HR.out.1, HR.out.2⟩⟩, by simp [intOf]; omega⟩
              · have hmN := hid (show m = N by omega)
                have hltI : ¬ (m : Int) < N := by omega
                go_wp2_with (first
                  | (go_at_call 20; refine (HCp.out wr2 HR.out.2).mono ?_; rintro e w6 ⟨rfl, rfl⟩))
                exact ⟨⟨k + 1, F', σ', h', evs', by omega, by go_num, hid ⟨RowG.new HL.out.r hearN HR.out.2, HlN.out⟩⟩, by simp [intOf]; omega⟩
          · subst hS he
            have b0 : wc.cell? ⟨BS, 0, none⟩ = some (.int .i64 1) := HL.out.s.cell 0
            have b1 : wc.cell? ⟨BS, 1, none⟩ = some (.int .i64 f) := HL.out.s.cell 1
            have b2 : wc.cell? ⟨BS, 2, none⟩ = some (.int .i64 s) := HL.out.s.cell 2
            have HInn := hid inn
            have HOut := hid out
            have HH0 := hid hh
            subst hh
            clear inn out len
            have HCp := hid (fun wx (hf : Fr Nil1 wc wx) => RowG.cap (RowG.new HL.out.r hearN hf))
            have HCc := hid (fun wx (hf : Fr Nil1 wc wx) => pmaCap_any (HL.out.c.new hf))
            rw [hclen] at HCc
            obtain ⟨N, hN⟩ : ∃ N, 8 * 2 ^ h' = N := ⟨_, rfl⟩
            rw [hN] at HCp HCc
            have hN2 : N ≤ 4096 := by omega
            have hNf : 8 * (f + s) ≤ N := by omega
            have hfs : f + s ≤ 512 := by omega
            have HG := hid (show NG ≤ wc.heap.size from HBG.out)
            clear hclen hN
            go_wp2_with (first
              | (go_at_call 20; with_reducible refine (HCc.out _ (Fr.refl _ _)).mono ?_; rintro e w6 ⟨rfl, rfl⟩)
              | (go_at_call 20; refine (HCp.out _ (Fr.refl _ _)).mono ?_; rintro e w6 ⟨rfl, rfl⟩))
            go_loopw [2, 13, 14, 15, 16, 17, 18] (fun _ v i _ _ _ _ wx => ∃ m : Nat, m ≤ N ∧ i = .int .i64 m ∧ Hid (RowI wx wc.heap.size v (hereL σ' (8 * f) (8 * (f + s)) m) ∧ Fr Nil1 wc wx)) (fun _ _ i _ _ _ _ _ => N - (intOf i).toNat)
            case atStart => exact ⟨0, by omega, rfl, hid ⟨RowI.nil _ _, Fr.refl _ _⟩⟩
            case round =>
              obtain ⟨wr2, hwr2⟩ : ∃ W : World, W = wr := ⟨_, rfl⟩
              subst hwr2
              obtain ⟨m, hm, rfl, HR⟩ := hrel
              by_cases hlt2 : m < N
              · have hltI : (m : Int) < N := by omega
                have HAp := hid (RowG.at (RowG.new HL.out.r hearN HR.out.2) (m : Int))
                have HAc := hid (pmaAt_any (HL.out.c.new HR.out.2) (m : Int))
                by_cases hin : 8 * f ≤ m ∧ m < 8 * (f + s)
                · have i1 : 8 * (f : Int) ≤ m := by omega
                  have i2 : (m : Int) < 8 * ((f : Int) + s) := by omega
                  by_cases ho : onOf σ' m = true
                  · rw [atB_nat, ho] at HAp
                    have HSt := hid (show hereL σ' (8 * f) (8 * (f + s)) (m + 1) = hereL σ' (8 * f) (8 * (f + s)) m ++ [(m : Int)] from congrArg _ (if_pos ⟨hin.1, hin.2, ho⟩))
                    clear ho
                    generalize atV σ' m = x at HAp
                    generalize atV σ m = y at HAc
                    generalize atB σ m = z at HAc
                    have hll := hereL_length σ' (8 * f) (8 * (f + s)) m
                    obtain ⟨i0, hi, hz0, hz1, hz2⟩ := info_parts info_int
                    have HSz := hid (HR.out.2.size)
                    have hszz := HR.out.2.size
                    generalize hereL σ' (8 * f) (8 * (f + s)) m = hl at *
                    go_wp2_with (first
                      | (go_at_call 15; with_reducible refine HAp.out.mono ?_; rintro e w6 ⟨rfl, rfl⟩)
                      | (go_at_call 15; refine HAc.out.mono ?_; rintro e w6 ⟨rfl, rfl⟩)
                      | (go_at_call 20; refine (HCp.out wr2 HR.out.2).mono ?_; rintro e w6 ⟨rfl, rfl⟩)
                      | (at_builtin; refine wpList_append_own _ rfl _ _ 24 rfl wc.heap.size 3 i0 (.int .i64 0) 1 8 Tryd.underlying24 hi hz0 hz1 hz2 rfl (by decide) _ _ _ rfl (HR.out.1.alloc _) ⟨wr2.heap.size, 0, none⟩ 1 1 [.int .i64 (m : Int)] rfl rfl (cell_one_new _ _ _) (by simp [Value.oneCell']) (by unfold maxLen; omega) (by omega) (by simp; omega) ?_; intro v' w7 hown' hgrow _; have HO := hid hown'; have HGr := hid hgrow; clear hown' hgrow))
                    refine ⟨⟨m + 1, by omega, by go_num, hid ⟨?_, ?_⟩⟩, by simp [intOf]; omega⟩
                    · rw [HSt.out]
                      have := HO.out
                      unfold RowI
                      rw [List.length_append, List.map_append]
                      exact this
                    · exact (HR.out.2.alloc _).grown HGr.out (fun j e => by have := own_block HR.out.1 j e; have := HG.out; omega) (fun j e h => by have := own_block HR.out.1 j e; omega)
                  · have ho' : onOf σ' m = false := by simpa using ho
                    rw [atB_nat, ho'] at HAp
                    have HSt := hid (show hereL σ' (8 * f) (8 * (f + s)) (m + 1) = hereL σ' (8 * f) (8 * (f + s)) m from (congrArg _ (if_neg (fun h => ho h.2.2))).trans (List.append_nil _))
                    clear ho ho'
                    generalize atV σ' m = x at HAp
                    generalize atV σ m = y at HAc
                    generalize atB σ m = z at HAc
                    go_wp2_with (first
                      | (go_at_call 15; with_reducible refine HAp.out.mono ?_; rintro e w6 ⟨rfl, rfl⟩)
                      | (go_at_call 15; refine HAc.out.mono ?_; rintro e w6 ⟨rfl, rfl⟩)
                      | (go_at_call 20; refine (HCp.out wr2 HR.out.2).mono ?_; rintro e w6 ⟨rfl, rfl⟩))
                    exact ⟨⟨m + 1, by omega, by go_num, hid ⟨by rw [HSt.out]; exact HR.out.1, HR.out.2⟩⟩, by simp [intOf]; omega⟩
                · have hoo : m < 8 * f ∨ 8 * f + 8 * s ≤ m := by omega
                  have hge := HOut.out m hoo
                  have HSt := hid (show hereL σ' (8 * f) (8 * (f + s)) (m + 1) = hereL σ' (8 * f) (8 * (f + s)) m from (congrArg _ (if_neg (fun h => hin ⟨h.1, h.2.1⟩))).trans (List.append_nil _))
                  rw [at_same hge] at HAp
                  clear hge
                  generalize atV σ m = y at HAp HAc
                  generalize atB σ m = z at HAp HAc
                  have hoI : (m : Int) < 8 * (f : Int) ∨ 8 * ((f : Int) + s) ≤ m := by omega
                  rcases hoI with i1 | i1
                  · have i2 : ¬ 8 * (f : Int) ≤ m := by omega
                    have i3 : decide (8 * (f : Int) ≤ m) = false := decide_eq_false i2
                    go_wp2_with (first
                      | (go_at_call 15; with_reducible refine HAp.out.mono ?_; rintro e w6 ⟨rfl, rfl⟩)
                      | (go_at_call 15; refine HAc.out.mono ?_; rintro e w6 ⟨rfl, rfl⟩)
                      | (go_at_call 20; refine (HCp.out wr2 HR.out.2).mono ?_; rintro e w6 ⟨rfl, rfl⟩))
                    exact ⟨⟨m + 1, by omega, by go_num, hid ⟨by rw [HSt.out]; exact HR.out.1, HR.out.2⟩⟩, by simp [intOf]; omega⟩
                  · have i2 : 8 * (f : Int) ≤ m := by omega
                    have i4 : ¬ (m : Int) < 8 * ((f : Int) + s) := by omega
                    have i3 : decide ((m : Int) < 8 * ((f : Int) + s)) = false := decide_eq_false i4
                    go_wp2_with (first
                      | (go_at_call 15; with_reducible refine HAp.out.mono ?_; rintro e w6 ⟨rfl, rfl⟩)
                      | (go_at_call 15; refine HAc.out.mono ?_; rintro e w6 ⟨rfl, rfl⟩)
                      | (go_at_call 20; refine (HCp.out wr2 HR.out.2).mono ?_; rintro e w6 ⟨rfl, rfl⟩))
                    exact ⟨⟨m + 1, by omega, by go_num, hid ⟨by rw [HSt.out]; exact HR.out.1, HR.out.2⟩⟩, by simp [intOf]; omega⟩
              · have hmN := hid (show m = N by omega)
                have hltI : ¬ (m : Int) < N := by omega
                have hhe := hereL_is h0 hn (show 8 * (f + s) ≤ N by omega) HInn.out
                have HV := HR.out.1
                rw [hmN.out, hhe] at HV
                have HPl := hid (fun wx (hg : NG ≤ wx.heap.size) => spPlacesL_any n f s h0 (by omega) hn (by omega) wx hg)
                obtain ⟨A3, c3, e3, _⟩ := HV.rd (by rw [plcL_length _ _ _ h0]; omega)
                rw [ints'_length, plcL_length _ _ _ h0] at e3
                subst e3
                have HV2 := hid HV
                have hb1 := (HL.out.s.fr' HR.out.2 id).cell 1
                have hb2 := (HL.out.s.fr' HR.out.2 id).cell 2
                clear HV hhe
                have HR2 := hid HR.out.2
                clear HR
                go_wp2_with (first
                  | (go_at_call 19; refine (ints_eq _ _ _ _ w8 ((HV2.out.rd (by rw [plcL_length _ _ _ h0]; omega)).new H8.out.2) (H8.out.1.rd (by rw [plcL_length _ _ _ h0]; omega)) rfl).mono ?_; rintro e w9 ⟨rfl, hf9⟩; have H9 := hid hf9; clear hf9)
                  | (go_at_call 22; refine (HPl.out wr2 (by have := HR2.out.size; have := HG.out; omega)).mono ?_; rintro e w8 ⟨v8, rfl, hv8, hf8⟩; have H8 := hid (And.intro hv8 hf8); clear hv8 hf8)
                  | (go_at_call 20; refine (HCp.out wr2 HR2.out).mono ?_; rintro e w6 ⟨rfl, rfl⟩))
                exact ⟨⟨k + 1, F', σ', h', evs', by omega, by go_num, hid ⟨RowG.new HL.out.r hearN (HR2.out.trans (H8.out.2.trans H9.out)), HlN.out⟩⟩, by simp [intOf]; omega⟩
          · subst hS he
            have b0 : wc.cell? ⟨BS, 0, none⟩ = some (.int .i64 kd) := HL.out.s.cell 0
            have hd1 : (kd != 1) = true := by rw [bne_iff_ne]; omega
            have hz0' : 0 < 2 ^ h' := Nat.pow_pos (by omega)
            have hz9' := p2_le HL.out.r.r.h9
            have hfit : (its σ').length ≤ 8 * 2 ^ h' := by
              have h1 := its_length σ'
              have h2 := cntOn_le (onOf σ') σ'.length
              have h3 := HL.out.r.d.len
              omega
            have HPs := hid (laid_places kk hfit)
            have hne : 2 ^ h' ≠ 2 ^ h := fun e => hh ((Nat.pow_right_inj (by omega)).1 e)
            have HCp := hid (fun wx (hf : Fr Nil1 wc wx) => RowG.cap (RowG.new HL.out.r hearN hf))
            have HCc := hid (fun wx (hf : Fr Nil1 wc wx) => pmaCap_any (HL.out.c.new hf))
            rw [hclen] at HCc
            obtain ⟨L, hL⟩ : ∃ L, (its σ').length = L := ⟨_, rfl⟩
            have HLen := hid (RowG.len HL.out.r)
            rw [hL] at HLen
            rw [hL] at hfit HPs HlN
            have HL0 := hid hL
            clear hh hL kk hk'
            generalize 2 ^ h' = Z' at *
            generalize 2 ^ h = Z at *
            have e9 : ((8 * Z' : Nat) : Int) = 8 * (Z' : Int) := by omega
            have e8 : ((8 * Z : Nat) : Int) = 8 * (Z : Int) := by omega
            rw [e9] at HCp
            rw [e8] at HCc
            have e10 : 8 * (Z' : Int) / 8 = (Z' : Int) := by omega
            have hb0 : (8 * (Z' : Int) == 8 * (Z : Int)) = false := beq_eq_false_iff_ne.2 (by omega)
            have HPl := hid (fun wx (hg : NG ≤ wx.heap.size) => spPlacesL_any L 0 Z' hz0' (by omega) hfit (by omega) wx hg)
            rw [show ((0 : Nat) : Int) = 0 from rfl] at HPl
            clear e8 e9 hne
            have hq0 : (0 : Int) ≤ 8 * (Z' : Int) := by omega
            have hlp : (plcL L 0 Z').length = L := plcL_length _ _ _ hz0'
            have HLp := hid hlp
            clear hlp
            go_wp2_with (first
              | (go_at_call 20; with_reducible refine (HCc.out w10 (H6.out.2.trans (H7.out.2.2.trans (H8.out.2.2.trans H9.out)))).mono ?_; rintro e w11 ⟨rfl, rfl⟩)
              | (go_at_call 20; with_reducible refine (HCp.out w10 (H6.out.2.trans (H7.out.2.2.trans (H8.out.2.2.trans H9.out)))).mono ?_; rintro e w11 ⟨rfl, rfl⟩)
              | (go_at_call 19; refine (ints_eq _ _ v8 v6 w8 H8.out.1 ((H6.out.1.rd (by have := HLp.out; omega)).new (H7.out.2.2.trans H8.out.2.2)) HPs.out).mono ?_; rintro e w10 ⟨rfl, hf9⟩; have H9 := hid hf9; clear hf9)
              | (go_at_call 12; refine (RowG.placesR H7.out.2.1 hearN H7.out.1).mono ?_; rintro e w8 ⟨v8, rfl, H8⟩)
              | (go_at_call 11; refine (RowG.slots (RowG.new HL.out.r hearN H6.out.2) hearN).mono ?_; rintro e w7 ⟨f7, rfl, H7⟩)
              | (go_at_call 22; (try rw [e10]); refine (HPl.out wc HBG.out).mono ?_; rintro e w6 ⟨v6, rfl, hv6, hf6⟩; have H6 := hid (And.intro hv6 hf6); clear hv6 hf6)
              | (go_at_call 20; refine (HCp.out wc (Fr.refl _ _)).mono ?_; rintro e w6 ⟨rfl, rfl⟩)
              | (go_at_call 16; refine HLen.out.mono ?_; rintro e w6 ⟨rfl, rfl⟩))
            exact ⟨⟨k + 1, F', σ', h', evs', by omega, by go_num, hid ⟨RowG.new H8.out.2.1 hearN H9.out, by rw [HL0.out]; exact HlN.out⟩⟩, by simp [intOf]; omega⟩
      · have hltI : ¬ (k : Int) < l.length := by omega
        have HFr := hid HW.out.1.fr
        go_wp2_with (go_at_call 7; refine (HAw.out _ HFr.out).mono ?_; rintro e w9 ⟨rfl, H9⟩)
        go_ret
        exact ⟨rfl, HFr.out.trans H9⟩
end Go.Proofs.YtanefeeneladnaaDoor
