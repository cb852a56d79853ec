/- PmaFollows, as it is called: the walk. -/
import Derived.Test.YtanefeeneladnaaDoorYF
set_option linter.unusedVariables false
set_option linter.unusedSimpArgs false
namespace Go.Proofs.YtanefeeneladnaaDoor
open Go.RowKit

set_option maxRecDepth 100000 in
set_option maxHeartbeats 4000000 in
theorem pmaFollows_any (v : Value) (l : List AcT) (w : World) (hv : RdAc w v l) (hg : GW w) : Calls Tryd.prog 3 #[v] w fun e w' => e = .returned (.bool true) ∧ Fr Nil1 w w' := by
  have HAw := hid (fun w' (hf : Fr Nil1 w w') => awake_any w' (hg.fr hf))
  have HG := hid hg
  obtain ⟨A, c, rfl, hb, hA⟩ := hv
  have HA := hid (And.intro hb hA)
  clear hb hA hg
  by_cases h200 : 200 < l.length
  · have HA0 := hid (HAw.out w (Fr.refl _ _))
    have hI : (200 : Int) < (l.length : Int) := by omega
    clear HAw HA
    go_enter Tryd.func3, Tryd.ntmps3
    go_wp2_with (go_at_call 7; refine HA0.out.mono ?_; rintro e w1 ⟨rfl, H1⟩)
    go_ret
    exact ⟨rfl, H1⟩
  · have hN : l.length ≤ 200 := by omega
    have hNI : ¬ (200 : Int) < (l.length : Int) := by omega
    obtain ⟨n, hn⟩ : ∃ n : Nat, n = l.length + 1 := ⟨_, rfl⟩
    have HN := hid hn
    have hn0 : n ≤ 201 := by omega
    have hmk : ∀ W : World, (Instr.makeSlice 24 (.int .i64 ((l.length : Int) + 1)) (.int .i64 ((l.length : Int) + 1))).run Tryd.prog W = .ok (.slice (some ⟨W.heap.size, 0, none⟩) n n) (W.alloc (.cells (madeCells #[.int .i64 0] n) 3)) := by
      have := mk_row (P := Tryd.prog) 24 3 (.int .i64 0) 8 Tryd.underlying24 info_int rfl (by decide) ((l.length : Int) + 1) (by omega) (by omega)
      rwa [show ((l.length : Int) + 1).toNat = n by omega] at this
    have hm := Has.made w (.int .i64 0) n 3
    have hbx := Has.new (w.alloc (.cells (madeCells #[.int .i64 0] n) 3)) [.slice (some ⟨w.heap.size, 0, none⟩) n n] 24
    rw [World.size_alloc] at hbx
    have f1 : Fr Nil1 w ((w.alloc (.cells (madeCells #[.int .i64 0] n) 3)).alloc (.cells #[.slice (some ⟨w.heap.size, 0, none⟩) n n] 24)) := ((Fr.refl _ _).alloc _).alloc _
    have hm1 := hm.alloc (.cells #[.slice (some ⟨w.heap.size, 0, none⟩) n n] 24)
    obtain ⟨Q, hQ⟩ : ∃ Q, w.heap.size = Q := ⟨_, rfl⟩
    have HQ := hid hQ
    rw [hQ] at hbx hm1 f1
    have e0 : ints' (List.replicate 0 (-1) ++ List.replicate (n - 0) 0) = List.replicate n (.int .i64 0) := by simp [ints']
    rw [← e0] at hm1
    have H0 := hid (And.intro hbx (And.intro hm1 f1))
    clear hm hbx hm1 f1 e0 hn
    go_enter Tryd.func3, Tryd.ntmps3
    go_wp2_with fail
    go_loopw [4] (fun i wr => ∃ k : Nat, k ≤ n ∧ i = .int .i64 k ∧ Hid (Has wr (Q + 1) [.slice (some ⟨Q, 0, none⟩) n n] 24 ∧ Has wr Q (ints' (List.replicate k (-1) ++ List.replicate (n - k) 0)) 3 ∧ Fr Nil1 w wr)) (fun i _ => n - (intOf i).toNat)
    case atStart => exact ⟨0, by omega, rfl, H0⟩
    case round =>
      obtain ⟨k, hk, rfl, HR⟩ := hrel
      obtain ⟨s0, sf⟩ := HR.out.1.one
      by_cases hlt : k < n
      · have hltI : (k : Int) < n := by omega
        have hll : k < (List.replicate k (-1 : Int) ++ List.replicate (n - k) 0).length := by rw [List.length_append, List.length_replicate, List.length_replicate]; omega
        have c0 := HR.out.2.1.cell k
        rw [ints'_get _ _ hll] at c0
        have cf := HR.out.2.1.frozen
        have hst := HR.out.2.1.set k (.int .i64 (-1))
        have e1 : (ints' (List.replicate k (-1) ++ List.replicate (n - k) 0)).set k (.int .i64 (-1)) = ints' (List.replicate (k + 1) (-1) ++ List.replicate (n - (k + 1)) 0) := by
          unfold ints'
          rw [← List.map_set, List.set_append_right _ _ (by rw [List.length_replicate]; exact Nat.le_refl _), List.length_replicate, Nat.sub_self, show n - k = (n - (k + 1)) + 1 by omega, List.replicate_succ, List.set_cons_zero, List.replicate_succ']
          simp
        rw [e1] at hst
        have HSt := hid hst
        clear hst e1 hll
        generalize (List.replicate k (-1 : Int) ++ List.replicate (n - k) 0).getD k 0 = zz at c0
        go_wp2_with fail
        refine ⟨⟨k + 1, by omega, by go_num, hid ⟨HR.out.1.other _ (by show Q + 1 ≠ Q; omega), HSt.out, HR.out.2.2.setNew _ _ HG.out.size (by show w.heap.size ≤ Q; have := HQ.out; omega)⟩⟩, by simp [intOf]; omega⟩
      · have hkn := hid (show k = n by omega)
        have hltI : ¬ (k : Int) < n := by omega
        obtain ⟨br, hbr⟩ : ∃ br, wr.heap.size = br := ⟨_, rfl⟩
        have hrow := HR.out.2.1
        rw [hkn.out, Nat.sub_self, List.replicate_zero, List.append_nil, ← folRow_start] at hrow
        have hszr := HR.out.2.2.size
        have HQb := hid (And.intro HQ.out (And.intro hbr hszr))
        have gg : NG ≤ Q := by have := HG.out.size; have := HQ.out; omega
        have gr : NG ≤ br := by have := HG.out.size; omega
        have f2 : Fr Nil1 wr (wr.alloc (.cells #[.bool true] 4)) := (Fr.refl _ _).alloc _
        have hj : FoJ (Q + 1) br Q n [] (wr.alloc (.cells #[.bool true] 4)) := ⟨HR.out.1.alloc _, hbr ▸ Has.new wr [.bool true] 4, hrow.alloc _⟩
        have T := follows_hear (bs := Q + 1) gr gg (show n ≤ 300 by omega)
        have HT := hid T
        have lQ := HR.out.2.1.lt
        have lS := HR.out.1.lt
        have HNw := hid (RowG.made (w0 := w) (folF (Q + 1) br) (.inr ⟨_, _, _, rfl⟩) (wr.alloc (.cells #[.bool true] 4)) ((HG.out.fr HR.out.2.2).fr f2) T hj (HR.out.2.2.trans f2) (fun k hk => by
          rw [World.size_alloc]
          have := HQ.out
          rcases hk with rfl | rfl | rfl
          · exact ⟨by omega, by omega, by omega⟩
          · exact ⟨by omega, by omega, by omega⟩
          · exact ⟨by omega, by omega, by omega⟩))
        unfold folF at HNw
        clear hj hrow T f2 HR H0
        go_wp2_with (go_at_call 8; refine HNw.out.mono ?_; rintro e w1 ⟨p, F0, rfl, H1⟩)
        clear s0 sf
        have HR0 := hid H1.out.1
        clear H1
        go_loopw [2, 7, 8, 9, 10, 12, 13, 14, 15, 16] (fun _ cv i _ _ _ _ _ _ _ wr => ∃ (k c' : Nat) (F : PF) (σ : List (Option Int)) (h : Nat) (evs : List Ev) (pos : Int → Int), k ≤ l.length ∧ c' ≤ k ∧ cv = .int .i64 c' ∧ i = .int .i64 k ∧ Hid (RowG w p (folF (Q + 1) br) (FoB (Q + 1) br Q) (FoJ (Q + 1) br Q n) F σ h evs wr ∧ FolI n c' evs pos σ)) (fun _ _ i _ _ _ _ _ _ _ _ => l.length - (intOf i).toNat)
        case atStart => exact ⟨0, 0, F0, _, 2, [], _, by omega, by omega, rfl, rfl, hid ⟨HR0.out, FolI.start n⟩⟩
        case round =>
          obtain ⟨k, cc, F, σ, h, evs, pos, hk, hcc, rfl, rfl, HW⟩ := hrel
          by_cases hlt : k < l.length
          · have hltI : (k : Int) < l.length := by omega
            obtain ⟨b, o, rfl, hc⟩ := HA.out.2 (by omega)
            obtain ⟨a, ha⟩ : ∃ a, l[k]? = some a := ⟨_, List.getElem?_eq_getElem hlt⟩
            obtain ⟨q0, q1, q2, q3⟩ := hc k a ha
            have hab := HA.out.1 a (List.mem_of_getElem? ha)
            obtain ⟨goes, raw, z, x⟩ := a
            have HCe := hid (fun w' (hf : Fr Nil1 w w') => And.intro (hf.cell q0 id) (And.intro (hf.cell q1 id) (And.intro (hf.cell q2 id) (hf.cell q3 id))))
            have HAb := hid hab
            have HLn := hid (show (its σ).length ≤ 200 by have := HW.out.2.len; omega)
            clear q0 q1 q2 q3 hc ha hab
            obtain ⟨c0, c1, c2, c3⟩ := HCe.out wr HW.out.1.fr
            go_wp2_with fail
            go_region_held3 (fun w' => w'.cell? ⟨b, o + k * 4, none⟩ = some (.bool goes) ∧ w'.cell? ⟨b, o + k * 4 + 1, none⟩ = some (.bool raw) ∧ w'.cell? ⟨b, o + k * 4 + 2, none⟩ = some (.int .i64 z) ∧ w'.cell? ⟨b, o + k * 4 + 3, none⟩ = some (.int .i64 x)) (first | exact ⟨k0, k1, k2, k3⟩ | exact ⟨c0, c1, c2, c3⟩ | go_keep) (first
              | (go_at_call 10; refine (RowG.place H4.out.2.1 HT.out ⟨goes, raw, z, x⟩ v4 H4.out.1 HAb.out.1 HAb.out.2).mono ?_; rintro e w5 ⟨rfl, H5⟩; obtain ⟨k0, k1, k2, k3⟩ := HCe.out _ H5.out.1.fr)
              | (go_at_call 12; refine (RowG.placesR H3.out.2.1 HT.out H3.out.1).mono ?_; rintro e w4 ⟨v4, rfl, H4⟩; obtain ⟨k0, k1, k2, k3⟩ := HCe.out _ H4.out.2.1.fr)
              | (go_at_call 11; refine (RowG.slots (RowG.new HW.out.1 HT.out (Fr.refl Nil1 wr).drew) HT.out).mono ?_; rintro e w3 ⟨f3, rfl, H3⟩; obtain ⟨k0, k1, k2, k3⟩ := HCe.out _ H3.out.2.1.fr))
            have HNl := hid (show l.length + 1 = n by have := HN.out; omega)
            obtain ⟨pl, hpl⟩ : ∃ pl, (⟨goes, raw, z, x⟩ : AcT).place (idxs (occ σ)) = pl := ⟨_, rfl⟩
            rw [hpl]
            clear hpl
            go_upto_if 56 with (fail)
            go_cut [7] from 38 to 112 (fun s7 wx => ∃ (c2 : Nat) (F' : PF) (σ' : List (Option Int)) (h' : Nat) (evs' : List Ev) (pos' : Int → Int), s7 = .int .i64 c2 ∧ c2 ≤ k + 1 ∧ Hid (RowG w p (folF (Q + 1) br) (FoB (Q + 1) br Q) (FoJ (Q + 1) br Q n) F' σ' h' evs' wx ∧ FolI n c2 evs' pos' σ'))
            case first =>
              cases goes with
              | true =>
                go_wp2_with (go_at_call 13; refine (RowG.delAny H5.out.1 HT.out (by have := HLn.out; omega) pl).mono ?_; rintro e w6 ⟨x6, S6, er, rfl, H6⟩)
                go_meet
                obtain ⟨⟨F6, σ6, h6, ev6, hR, hQ', _⟩, _⟩ := H6.out
                obtain ⟨pos6, hI⟩ := HW.out.2.del (by have := HNl.out; omega) hQ'
                exact ⟨cc, F6, σ6, h6, _, pos6, rfl, by omega, hid ⟨hR, hI⟩⟩
              | false =>
                have v1 : IntKind.i64.wrap ((cc : Int) + 1) = (cc : Int) + 1 := IntWalk.i64_in _ (by omega)
                go_wp2_with fail
                refine (RowG.insAny H5.out.1 HT.out (by have := HLn.out; omega) pl ((cc : Int) + 1)).mono ?_
                rintro e w6 ⟨v6, S6, er, rfl, H6⟩
                obtain ⟨⟨F6, σ6, h6, ev6, hR, hQ', _⟩, _⟩ := H6.out
                have HR6 := hid hR
                clear hR H6
                cases hQ' with
                | ok seg next hc hs he hk' =>
                  subst he
                  obtain ⟨pos6, hI, hv⟩ := HW.out.2.ins (by have := HNl.out; omega) hk'
                  have HI := hid hI
                  have HR7 := hid (HR6.out.new HT.out ((Fr.refl Nil1 w6).alloc (.cells #[.int .i64 S6.k, .int .i64 S6.f, .int .i64 S6.s, .int .i64 S6.c] 35)))
                  have jj := HR7.out.jj
                  obtain ⟨j0, jf⟩ := jj.s.one
                  have j1 := jj.g.cell (cc + 1)
                  have hcn : cc + 1 < n := by have := HNl.out; omega
                  have hv' : pos6 ((cc + 1 : Nat) : Int) = v6 := hv
                  rw [ints'_get _ _ (by rw [folRow_length]; exact hcn), folRow_getD n _ _ hcn, hI.f] at j1
                  have j1' := j1.trans (show some (Value.int .i64 (pos6 ((cc + 1 : Nat) : Int))) = some (.int .i64 v6) by rw [hv'])
                  clear j1
                  have hcI : (cc : Int) + 1 < n := by omega
                  clear hI hk' hs hc jj hv hv' jf
                  go_wp2_with fail
                  go_meet
                  exact ⟨cc + 1, F6, σ6, h6, _, pos6, rfl, by omega, hid ⟨HR7.out, HI.out⟩⟩
                | bad he h0 hb hv hS hσ hh hev =>
                  subst hS hσ hh hev
                  have d0 : (er == 0) = false := beq_eq_false_iff_ne.2 h0
                  clear he hb hv
                  go_wp2_with fail
                  go_meet
                  exact ⟨cc, F6, _, _, _, pos, rfl, by omega, hid ⟨HR6.out.new HT.out ((Fr.refl Nil1 w6).alloc _), by rw [List.append_nil]; exact HW.out.2⟩⟩
            case rest =>
              obtain ⟨c2, F2, σ2, h2, evs2, pos2, rfl, hc2, HW2⟩ := hcut
              have jj := HW2.out.1.jj
              obtain ⟨j0, jf⟩ := jj.s.one
              obtain ⟨r0, rf⟩ := jj.r.one
              rw [HW2.out.2.f] at r0
              have r1 : wc.cell? ⟨br, 0, none⟩ = some (.bool true) := r0
              clear r0
              have hrow : ∀ m, m < n → wc.cell? ⟨Q, m, none⟩ = some (.int .i64 (pos2 m)) := fun m hm => by
                have := jj.g.cell m
                rwa [ints'_get _ _ (by rw [folRow_length]; exact hm), folRow_getD n _ _ hm, HW2.out.2.f] at this
              have HRow := hid hrow
              have hcn : c2 < n := by have := HNl.out; omega
              have hll := HW2.out.2.len
              have HLl := hid hll
              clear jj hrow jf rf hll
              go_wp2_with fail
              go_loop [2, 13, 14, 15, 16] (fun _ lv xv _ _ => ∃ m : Nat, m ≤ c2 ∧ xv = .int .i64 ((m : Int) + 1) ∧ lv = .int .i64 (liveC pos2 m)) (fun _ _ xv _ _ => (c2 + 1 - intOf xv).toNat)
              case atStart => exact ⟨0, by omega, rfl, rfl⟩
              case round =>
                obtain ⟨m, hm, rfl, rfl⟩ := hrel
                by_cases hlt2 : m < c2
                · have hcell := HRow.out (m + 1) (by omega)
                  have hle2 : (m : Int) + 1 ≤ c2 := by omega
                  have hmn : (m : Int) + 1 < n := by omega
                  by_cases hy : 0 ≤ pos2 ((m : Int) + 1)
                  · obtain ⟨q, hq, hs⟩ := HW2.out.2.k.at _ hy
                    have hcell' : wc.cell? ⟨Q, m + 1, none⟩ = some (.int .i64 q) := hcell.trans (congrArg (fun y => some (Value.int .i64 y)) hq)
                    have hv : atV σ2 (q : Int) = (m : Int) + 1 := by unfold atV; rw [if_pos (by omega), Int.toNat_natCast, hs]; rfl
                    have HAt := hid (RowG.at HW2.out.1 (q : Int))
                    rw [hv, atB_nat, onOf_some hs] at HAt
                    have hlc := hid (show liveC pos2 (m + 1) = liveC pos2 m + 1 from congrArg _ (if_pos hy))
                    clear hcell hq hs hv hy
                    have v1 : IntKind.i64.wrap ((liveC pos2 m : Int) + 1) = (liveC pos2 m : Int) + 1 := IntWalk.i64_in _ (by have := liveC_le pos2 m; omega)
                    have hlm := liveC_le pos2 m
                    go_wp2_with (go_at_call 15; refine HAt.out.mono ?_; rintro e w7 ⟨rfl, rfl⟩)
                    refine ⟨⟨m + 1, by omega, by go_num, by rw [hlc.out]; go_num⟩, by simp [intOf]; omega⟩
                  · have hlc := hid (show liveC pos2 (m + 1) = liveC pos2 m by rw [show liveC pos2 (m + 1) = liveC pos2 m + (if 0 ≤ pos2 ((m : Int) + 1) then 1 else 0) from rfl, if_neg hy]; rfl)
                    have hcell' : wc.cell? ⟨Q, m + 1, none⟩ = some (.int .i64 (pos2 ((m : Int) + 1))) := hcell
                    clear hcell
                    have d0 : decide (0 ≤ pos2 ((m : Int) + 1)) = false := decide_eq_false hy
                    generalize pos2 ((m : Int) + 1) = y at *
                    go_wp2_with fail
                    refine ⟨⟨m + 1, by omega, by go_num, by rw [hlc.out]⟩, by simp [intOf]; omega⟩
                · have hmc := hid (show m = c2 by omega)
                  have hle2 : ¬ (m : Int) + 1 ≤ c2 := by omega
                  have HLn2 := hid (RowG.len HW2.out.1)
                  have hb0 : ((liveC pos2 m : Int) != ((its σ2).length : Int)) = false := by rw [bne_eq_false_iff_eq, hmc.out, HLl.out.1]
                  go_wp2_with (go_at_call 16; refine HLn2.out.mono ?_; rintro e w7 ⟨rfl, rfl⟩)
                  exact ⟨⟨k + 1, c2, F2, σ2, h2, evs2, pos2, by omega, by omega, rfl, by go_num, HW2⟩, by simp [intOf]; omega⟩
          · have hltI : ¬ (k : Int) < l.length := by omega
            have HFr := hid HW.out.1.fr
            go_wp2_with (go_at_call 7; refine (HAw.out _ HFr.out).mono ?_; rintro e w9 ⟨rfl, H9⟩)
            go_ret
            exact ⟨rfl, HFr.out.trans H9⟩
end Go.Proofs.YtanefeeneladnaaDoor
