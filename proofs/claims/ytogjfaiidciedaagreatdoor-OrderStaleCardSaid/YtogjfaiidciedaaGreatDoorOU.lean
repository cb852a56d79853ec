/- OrderStale, as it is called: a handle that went. -/
import Derived.Test.YtogjfaiidciedaaGreatDoorOT
import Derived.Test.YtogjfaiidciedaaGreatDoorC1
set_option linter.unusedVariables false
set_option linter.unusedSimpArgs false
namespace Go.Proofs.YtogjfaiidciedaaGreatDoor
open Go.RowKit Go.Maps

section
variable {w0 w : World} {L : Nat} {l : List Int} {n : Nat}
theorem OS.inj (H : OS w0 L l n w) {i j : Nat} {a : Int} (hi : l[i]? = some a) (hj : l[j]? = some a) : i = j := by
  obtain ⟨bl, p, tf, F, σ, h, τ, r, rfl, rfl⟩ := H.ex
  have h1 := r.lt hi hj
  have h2 := r.lt hj hi
  omega
theorem OS.gone (H : OS w0 L l n w) {k : Nat} {a : Int} (hk : l[k]? = some a) : a ∉ l.take k ++ l.drop (k + 1) := by
  intro hm
  rcases List.mem_append.1 hm with hm | hm
  · obtain ⟨i, hi, e⟩ := List.getElem_of_mem hm
    have h1 : (l.take k)[i]? = some a := List.getElem?_eq_some_iff.2 ⟨hi, e⟩
    rw [List.length_take] at hi
    rw [List.getElem?_take, if_pos (by omega)] at h1
    have := H.inj hk h1
    omega
  · obtain ⟨i, hi, e⟩ := List.getElem_of_mem hm
    have h1 : (l.drop (k + 1))[i]? = some a := List.getElem?_eq_some_iff.2 ⟨hi, e⟩
    rw [List.getElem?_drop] at h1
    have := H.inj hk h1
    omega
theorem ActO.gone {d y x k e h : Int} {l' : List Int} {n' : Nat} (hA : ActO l n d y x k e l' n') (hh : h ∉ l) (hn : h ≤ n) : h ∉ l' ∧ h ≤ n' := by
  cases hA with
  | put i _ _ _ _ _ hl hn' =>
    subst hl hn'
    refine ⟨fun hm => ?_, by omega⟩
    rcases mem_put.1 hm with e | e
    · omega
    · exact hh e
  | del i _ _ _ _ _ hl hn' =>
    subst hl hn'
    refine ⟨fun hm => ?_, hn⟩
    rcases List.mem_append.1 hm with e | e
    · exact hh (List.mem_of_mem_take e)
    · exact hh (List.mem_of_mem_drop e)
  | stale _ _ _ _ hl hn' => subst hl hn'; exact ⟨hh, hn⟩
  | full _ _ _ _ hl hn' => subst hl hn'; exact ⟨hh, hn⟩
theorem OS.afterStale (H : OS w0 L l n w) {a : Int} (ha : a ∉ l) (a1 : -9223372036854775808 ≤ a) (a2 : a ≤ 9223372036854775807) :
    Calls Tryz.prog 15 #[.pointer (some ⟨L, 0, none⟩), .int .i64 a] w fun e w' => e = .returned (.tuple #[.int .i64 0, .agg #[.int .i64 0, .int .i64 0, .int .i64 0, .int .i64 0], .int .i64 17]) ∧ Fr Nil1 w w' := by
  obtain ⟨bl, p, tf, F, σ, h, τ, r, rfl, rfl⟩ := H.ex
  refine ordAfter_stale r a a1 a2 ?_
  cases e : liveB τ a with
  | false => rfl
  | true => exact absurd ((r.live a).1 e) ha
theorem OS.aheadStale (H : OS w0 L l n w) {a : Int} (ha : a ∉ l) (a1 : -9223372036854775808 ≤ a) (a2 : a ≤ 9223372036854775807) :
    Calls Tryz.prog 16 #[.pointer (some ⟨L, 0, none⟩), .int .i64 a] w fun e w' => e = .returned (.tuple #[.int .i64 0, .agg #[.int .i64 0, .int .i64 0, .int .i64 0, .int .i64 0], .int .i64 17]) ∧ Fr Nil1 w w' := by
  obtain ⟨bl, p, tf, F, σ, h, τ, r, rfl, rfl⟩ := H.ex
  refine ordAhead_stale r a a1 a2 ?_
  cases e : liveB τ a with
  | false => rfl
  | true => exact absurd ((r.live a).1 e) ha
theorem OS.deleteStale (H : OS w0 L l n w) {a : Int} (ha : a ∉ l) (a1 : -9223372036854775808 ≤ a) (a2 : a ≤ 9223372036854775807) :
    Calls Tryz.prog 14 #[.pointer (some ⟨L, 0, none⟩), .int .i64 a] w fun e w' => e = .returned (.tuple #[.agg #[.int .i64 0, .int .i64 0, .int .i64 0, .int .i64 0], .int .i64 17]) ∧ Fr Nil1 w w' := by
  obtain ⟨bl, p, tf, F, σ, h, τ, r, rfl, rfl⟩ := H.ex
  refine ordDelete_stale r a a1 a2 ?_
  cases e : liveB τ a with
  | false => rfl
  | true => exact absurd ((r.live a).1 e) ha
theorem OS.labelStale (H : OS w0 L l n w) {a : Int} (ha : a ∉ l) (a1 : -9223372036854775808 ≤ a) (a2 : a ≤ 9223372036854775807) :
    Calls Tryz.prog 13 #[.pointer (some ⟨L, 0, none⟩), .int .i64 a] w fun e w' => (∃ y : Int, e = .returned (.tuple #[.int .i64 y, .int .i64 17])) ∧ w = w' := by
  obtain ⟨bl, p, tf, F, σ, h, τ, r, rfl, rfl⟩ := H.ex
  have hs : staleE τ a = 17 := by
    unfold staleE
    rw [if_neg (fun e => ha ((r.live a).1 e))]
  refine (ordLabel_any r a a1 a2).mono ?_
  rintro e w' ⟨rfl, rfl⟩
  exact ⟨⟨_, by rw [hs]⟩, rfl⟩
end
/-- The step of what is refused. -/
abbrev stepO : Obj := .cells #[.int .i64 0, .int .i64 0, .int .i64 0, .int .i64 0] 36
set_option maxRecDepth 100000 in
set_option maxHeartbeats 8000000 in
theorem orderStale_any (v u : Value) (z : Int) (l m : List AcO) (w : World) (hv : RdAo w v l) (hu : RdAo w u m) (hg : GW w) :
    Calls Tryz.prog 4 #[v, u, .int .i64 z] w fun e w' => e = .returned (.bool true) ∧ Fr Nil1 w w' := by
  have HAw := hid (fun w' (hf : Fr Nil1 w w') => awake_any w' (hg.fr hf))
  have HV := hid hv
  obtain ⟨A, c, rfl, _, _⟩ := hv
  obtain ⟨A', c', rfl, hb, hA⟩ := hu
  have HA := hid (And.intro hb hA)
  clear hb hA
  by_cases h1 : 100 < l.length
  · have HA0 := hid (HAw.out w (Fr.refl _ _))
    have hI : decide ((100 : Int) < (l.length : Int)) = true := decide_eq_true (by omega)
    clear HAw HV hg
    go_enter Tryz.func4, Tryz.ntmps4
    go_wp2_with (go_at_call 9; refine HA0.out.mono ?_; rintro e w1 ⟨rfl, H1⟩)
    go_ret
    exact ⟨rfl, H1⟩
  by_cases h2 : 100 < m.length
  · have HA0 := hid (HAw.out w (Fr.refl _ _))
    have hI : decide ((100 : Int) < (l.length : Int)) = false := decide_eq_false (by omega)
    have hJ : decide ((100 : Int) < (m.length : Int)) = true := decide_eq_true (by omega)
    clear HAw HV hg
    go_enter Tryz.func4, Tryz.ntmps4
    go_wp2_with (go_at_call 9; refine HA0.out.mono ?_; rintro e w1 ⟨rfl, H1⟩)
    go_ret
    exact ⟨rfl, H1⟩
  have hI : decide ((100 : Int) < (l.length : Int)) = false := decide_eq_false (by omega)
  have hJ : decide ((100 : Int) < (m.length : Int)) = false := decide_eq_false (by omega)
  have HPl := hid (played_any _ l w HV.out (by omega) hg)
  have HG := hid hg.size
  clear hg
  go_enter Tryz.func4, Tryz.ntmps4
  go_upto_region 7 with (first
    | (go_at_call 11; refine (OS.handles H1.out.o).mono ?_; rintro e w2 ⟨A2, c2, rfl, H2⟩)
    | (go_at_call 10; refine HPl.out.mono ?_; rintro e w1 ⟨L, N, xs, rfl, hN, H1⟩))
  by_cases hn0 : xs.length = 0
  · have HF := hid H2.out.2.1.fr
    rw [hn0]
    go_wp2_with (go_at_call 9; refine (HAw.out _ HF.out).mono ?_; rintro e w3 ⟨rfl, H3⟩)
    go_ret
    exact ⟨rfl, HF.out.trans H3⟩
  obtain ⟨q, hq⟩ : ∃ q, xs.length = q := ⟨_, rfl⟩
  have HQn := hid hq
  have HO2 := hid (show Pl w L xs N w2 from ⟨H2.out.2.1, H1.out.len, H1.out.mem⟩)
  have hql : q ≤ 200 := by have := H1.out.len; omega
  have hq0 : 0 < q := by omega
  obtain ⟨Ad, cd, ed, _, hAd⟩ := H2.out.1
  injection ed with eA _ _
  subst eA
  obtain ⟨ad, rfl, hc⟩ := hAd (by rw [ints'_length, hq]; omega)
  rw [hq]
  obtain ⟨t1, t2, t3⟩ := tmod_fix' z q (by omega)
  have m0 := Int.emod_nonneg z (show (q : Int) ≠ 0 by omega)
  have m1 := Int.emod_lt_of_pos z (show 0 < (q : Int) by omega)
  obtain ⟨K, hK⟩ : ∃ K : Nat, z % (q : Int) = K := ⟨(z % (q : Int)).toNat, by omega⟩
  rw [hK] at t1 m0 m1
  have hKq : K < q := by omega
  obtain ⟨h, hh⟩ : ∃ h, xs[K]? = some h := ⟨_, List.getElem?_eq_getElem (by rw [hq]; exact hKq)⟩
  have q1 := hc K _ (ints'_get xs K (by rw [hq]; exact hKq))
  rw [List.getD_eq_getElem?_getD, hh, Option.getD_some] at q1
  have hhb := H1.out.mem h (List.mem_of_getElem? hh)
  have HHb := hid (show -9223372036854775808 ≤ h ∧ h ≤ 9223372036854775807 by omega)
  have HhN := hid hhb.2
  have HGo := hid (HO2.out.o.gone hh)
  have HD := hid (OS.delete HO2.out.o (by omega) (by rw [hq]; omega) hh HHb.out.1 HHb.out.2 rfl)
  have v1 : IntKind.i64.wrap (z.tmod q + q) = z.tmod q + q := IntWalk.i64_in _ (by omega)
  have hb0 : ((q : Int) == 0) = false := beq_eq_false_iff_ne.2 (by omega)
  clear hn0 hc hh hhb hK hq
  go_wp2_with (go_at_call 14; refine HD.out.mono ?_; rintro e w3 ⟨y1, y2, y3, y4, rfl, H3⟩)
  have HP3 := hid (show Pl w L (xs.take K ++ xs.drop (K + 1)) N w3 from ⟨H3.out, by rw [List.length_append, List.length_take, List.length_drop]; have := H1.out.len; omega, fun y hy => by
    rcases List.mem_append.1 hy with hy | hy
    · exact H1.out.mem y (List.mem_of_mem_take hy)
    · exact H1.out.mem y (List.mem_of_mem_drop hy)⟩)
  clear v1 hb0 t1 t2 t3 m0 m1 q1
  go_loopw [6, 8, 13, 14, 15, 17, 18, 20, 22, 23, 24, 25, 26, 27, 29] (fun _ n i _ _ _ _ _ _ _ _ _ _ _ _ wr => ∃ (N k : Nat) (xs : List Int), k ≤ m.length + 1 ∧ N ≤ 200 + k ∧ n = .int .i64 N ∧ i = .int .i64 k ∧ Hid (Pl w L xs N wr ∧ h ∉ xs ∧ h ≤ N)) (fun _ _ i _ _ _ _ _ _ _ _ _ _ _ _ _ => (m.length + 1 - intOf i).toNat)
  case atStart => exact ⟨N, 0, _, by omega, by omega, rfl, rfl, hid ⟨HP3.out.new ((Fr.refl _ _).alloc _), HGo.out, HhN.out⟩⟩
  case round =>
    clear HD HGo HhN HO2 HP3 H1 H2 H3 HQn
    obtain ⟨N, k, xs, hk, hNk, rfl, rfl, HW⟩ := hrel
    have HNh := hid HW.out.2.1
    by_cases hlt : k < m.length
    · have hltI : (k : Int) < m.length := by omega
      have hleI : (k : Int) ≤ m.length := by omega
      go_upto_region 25 with (first
          | (go_at_call 17; refine (ints_eq xs xs _ _ _ H6.out.1 (H2.out.1.new (GF5.out.trans H6.out.2.2)) rfl).mono ?_; rintro e w7 ⟨rfl, hf7⟩; have GF7 := hid (H2.out.2.2.trans (GF5.out.trans (H6.out.2.2.trans hf7))); clear hf7)
          | (go_at_call 12; refine (OS.beforeStale (H2.out.2.1.new GF5.out) (.inl HNh.out) HHb.out.1 HHb.out.2 HHb.out.1 HHb.out.2).mono ?_; rintro e wb ⟨rfl, rfl⟩)
          | (go_at_call 13; refine (OS.labelStale (H2.out.2.1.new GF5.out) HNh.out HHb.out.1 HHb.out.2).mono ?_; rintro e wb ⟨⟨lb, rfl⟩, rfl⟩)
          | (go_at_call 14; refine (OS.deleteStale (H2.out.2.1.new GF4.out) HNh.out HHb.out.1 HHb.out.2).mono ?_; rintro e w5 ⟨rfl, hf5⟩; have GF5 := hid ((GF4.out.trans hf5).alloc stepO); clear hf5)
          | (go_at_call 16; refine (OS.aheadStale (H2.out.2.1.new GF3.out) HNh.out HHb.out.1 HHb.out.2).mono ?_; rintro e w4 ⟨rfl, hf4⟩; have GF4 := hid ((GF3.out.trans hf4).alloc stepO); clear hf4)
          | (go_at_call 15; refine (OS.afterStale H2.out.2.1 HNh.out HHb.out.1 HHb.out.2).mono ?_; rintro e w3 ⟨rfl, hf3⟩; have GF3 := hid (hf3.alloc stepO); clear hf3)
          | (go_at_call 11; refine (OS.handles (H2.out.2.1.new GF5.out)).mono ?_; rintro e w6 ⟨A6, c6, rfl, H6⟩)
          | (go_at_call 11; refine (OS.handles HW.out.1.o).mono ?_; rintro e w2 ⟨A2, c2, rfl, H2⟩))
      have HW7 := hid (HW.out.1.new GF7.out)
      clear H2 H6 GF3 GF4 GF5 GF7
      obtain ⟨b, o, rfl, hc⟩ := HA.out.2 (by omega)
      obtain ⟨a, ha⟩ : ∃ a, m[k]? = some a := ⟨_, List.getElem?_eq_getElem hlt⟩
      obtain ⟨q0, q1, q2⟩ := hc k a ha
      obtain ⟨d, raw, za⟩ := a
      have c0 := HW7.out.o.fr.cell q0 id
      have c1 := HW7.out.o.fr.cell q1 id
      have c2 := HW7.out.o.fr.cell q2 id
      have HZb := hid (HA.out.1 _ (List.mem_of_getElem? ha))
      have HYb := hid (AcO.of_in ⟨d, raw, za⟩ xs HZb.out.1 HZb.out.2 (fun y hy => by have := HW7.out.mem y hy; omega))
      have HSm := hid (show xs.length ≤ 65536 by have := HW7.out.len; omega)
      have HHo := hid (fun (v : Value) (w' : World) (hx : Rd w' v (ints' xs)) => handleOf_any ⟨d, raw, za⟩ xs v w' hx HSm.out HZb.out.1 HZb.out.2)
      obtain ⟨y, hy⟩ : ∃ y, AcO.of ⟨d, raw, za⟩ xs = y := ⟨_, rfl⟩
      rw [hy] at HYb HHo
      have HB0 := hid (show w.heap.size ≤ w7.heap.size from HW7.out.o.fr.size)
      have HNb := hid (show N < 100000000 by omega)
      have HTb := hid (show xs.length ≤ 2560 by have := HW7.out.len; omega)
      have HQ := hid (And.intro q0 (And.intro q1 q2))
      have HNE := hid (fun (j : Nat) (hj : w.heap.size ≤ j) => And.intro (show NG ≤ j from Nat.le_trans HG.out hj) (show ¬ b = j by have h9 : b < w.heap.size := World.block_lt_of_cell? (h := q0); omega))
      clear q0 q1 q2 hc ha hy
      go_cut [27, 29] from 73 to 176 (fun s7 s9 wx => ∃ (x er s1 : Int) (xs' : List Int) (N' : Nat), s7 = .int .i64 x ∧ s9 = .int .i64 er ∧ Hid (ActO xs N d y x s1 er xs' N' ∧ Pl w L xs' N' wx))
      case first =>
        go_region_held3 (fun w' => w'.cell? ⟨b, o + k * 3, none⟩ = some (.int .i64 d) ∧ w'.cell? ⟨b, o + k * 3 + 1, none⟩ = some (.bool raw) ∧ w'.cell? ⟨b, o + k * 3 + 2, none⟩ = some (.int .i64 za)) (first | exact ⟨k0, k1, k2⟩ | exact ⟨c0, c1, c2⟩ | exact ⟨cell_sets (HNE.out _ HM.out).1 k0 (HNE.out _ HM.out).2 _ _ _ _, cell_sets (HNE.out _ HM.out).1 k1 (HNE.out _ HM.out).2 _ _ _ _, cell_sets (HNE.out _ HM.out).1 k2 (HNE.out _ HM.out).2 _ _ _ _⟩ | go_keep) (first
          | (go_at_call 18; with_reducible refine (OSB.does HB3.out HNb.out HTb.out d y HYb.out.1 HYb.out.2).mono ?_; rintro e w4 ⟨x, s1, s2, s3, s4, er, xs', N', rfl, H4⟩; have hs4 := H4.out.2.2 _ _ HS3.out; have HS4 := hid hs4; have s0 := hs4.cell 0; have t1 := hs4.cell 1; have t2 := hs4.cell 2; have t3 := hs4.cell 3; have sf := hs4.frozen; have k0 := H4.out.1.fr.cell HQ.out.1 id; have k1 := H4.out.1.fr.cell HQ.out.2.1 id; have k2 := H4.out.1.fr.cell HQ.out.2.2 id; clear hs4)
          | (go_at_call 18; with_reducible refine (OSB.does (OS.box (OS.new HW7.out.o HF3.out) (.cells #[.int .i64 0, .int .i64 0, .int .i64 0, .int .i64 0] 36)) HNb.out HTb.out d y HYb.out.1 HYb.out.2).mono ?_; rintro e w4 ⟨x, s1, s2, s3, s4, er, xs', N', rfl, H4⟩; have HM := hid (Nat.le_trans HB0.out HF3.out.size); have hs4 := H4.out.2.2 _ _ (Has.new w3 [.int .i64 0, .int .i64 0, .int .i64 0, .int .i64 0] 36); have HS4 := hid hs4; have s0 := hs4.cell 0; have t1 := hs4.cell 1; have t2 := hs4.cell 2; have t3 := hs4.cell 3; have sf := hs4.frozen; have k0 := H4.out.1.fr.cell HQ.out.1 id; have k1 := H4.out.1.fr.cell HQ.out.2.1 id; have k2 := H4.out.1.fr.cell HQ.out.2.2 id; clear hs4)
          | (go_at_call 18; with_reducible refine (OS.does (OS.new HW7.out.o HF3.out) HNb.out HTb.out d y HYb.out.1 HYb.out.2).mono ?_; rintro e w4 ⟨x, S, er, xs', N', rfl, H4⟩; have k0 := H4.out.1.fr.cell HQ.out.1 id; have k1 := H4.out.1.fr.cell HQ.out.2.1 id; have k2 := H4.out.1.fr.cell HQ.out.2.2 id)
          | (go_at_call 19; with_reducible refine (HHo.out _ w2 H2.out.1).mono ?_; rintro e w3 ⟨rfl, hf3⟩; have HF3 := hid (HF2.out.trans hf3); have HS3 := hid (HS2.out.fr' hf3 id); have HB3 := hid (HB2.out.new hf3); have k0 := HF3.out.cell c0 id; have k1 := HF3.out.cell c1 id; have k2 := HF3.out.cell c2 id; clear hf3)
          | (go_at_call 19; with_reducible refine (HHo.out _ w2 H2.out.1).mono ?_; rintro e w3 ⟨rfl, hf3⟩; have HF3 := hid (HF2.out.trans hf3); have k0 := HF3.out.cell c0 id; have k1 := HF3.out.cell c1 id; have k2 := HF3.out.cell c2 id; clear hf3)
          | (go_at_call 19; with_reducible refine (HHo.out _ _ (H2.out.1.new ((Fr.refl Nil1 w2).alloc (.cells #[.int .i64 0, .int .i64 0, .int .i64 0, .int .i64 0] 36)))).mono ?_; rintro e w3 ⟨rfl, hf3⟩; have HF3 := hid ((HF2.out.alloc (.cells #[.int .i64 0, .int .i64 0, .int .i64 0, .int .i64 0] 36)).trans hf3); have HS3 := hid ((Has.new w2 [.int .i64 0, .int .i64 0, .int .i64 0, .int .i64 0] 36).fr' hf3 id); have HM := hid (Nat.le_trans HB0.out HF2.out.size); have HB3 := hid ((OS.box (OS.new HW7.out.o HF2.out) (.cells #[.int .i64 0, .int .i64 0, .int .i64 0, .int .i64 0] 36)).new hf3); have k0 := HF3.out.cell c0 id; have k1 := HF3.out.cell c1 id; have k2 := HF3.out.cell c2 id; clear hf3)
          | (go_at_call 11; refine (OS.handles (OS.new HW7.out.o (Fr.refl Nil1 w7).drew)).mono ?_; rintro e w2 ⟨A2, c2', rfl, H2⟩; have HF2 := hid ((Fr.refl Nil1 w7).drew.trans H2.out.2.2); have k0 := HF2.out.cell c0 id; have k1 := HF2.out.cell c1 id; have k2 := HF2.out.cell c2 id)
          | (go_at_call 11; refine (OS.handles (OS.new HW7.out.o ((Fr.refl Nil1 w7).alloc (.cells #[.int .i64 0, .int .i64 0, .int .i64 0, .int .i64 0] 36)).drew)).mono ?_; rintro e w2 ⟨A2, c2', rfl, H2⟩; have HF2 := hid (((Fr.refl Nil1 w7).alloc (.cells #[.int .i64 0, .int .i64 0, .int .i64 0, .int .i64 0] 36)).drew.trans H2.out.2.2); have HS2 := hid (((Has.new w7 [.int .i64 0, .int .i64 0, .int .i64 0, .int .i64 0] 36).drew).fr' H2.out.2.2 id); have HM := hid (HB0.out); have HB2 := hid (OSB.new (OS.box HW7.out.o (.cells #[.int .i64 0, .int .i64 0, .int .i64 0, .int .i64 0] 36)) (((Fr.refl Nil1 _).drew).trans H2.out.2.2)); have k0 := HF2.out.cell c0 id; have k1 := HF2.out.cell c1 id; have k2 := HF2.out.cell c2 id))
        all_goals (try go_wp2_with fail)
        all_goals go_meet
        all_goals (first
          | exact ⟨x, er, S.k, xs', N', rfl, rfl, hid ⟨H4.out.2.1, HW7.out.act H4.out.2.1 (H4.out.1.new ((Fr.refl _ _).alloc _))⟩⟩
          | exact ⟨x, er, s1, xs', N', rfl, rfl, hid ⟨H4.out.2.1, HW7.out.act H4.out.2.1 (OSB.set H4.out.1 HM.out (fr_sets _ _ (HNE.out _ HM.out).1 _ _ _ _))⟩⟩)
      case rest =>
        obtain ⟨x, er, s1, xs', N', rfl, rfl, H4⟩ := hcut
        have HP := hid (And.intro H4.out.2 (H4.out.1.gone HNh.out HW.out.2.2))
        have hA4 := H4.out.1
        have hhN := HW.out.2.2
        clear H4 c0 c1 c2 HHo HYb HSm HZb HTb
        cases hA4 with
        | put i _ _ hx _ he hl hn =>
          subst hx he hn
          have hx0 : ((N : Int) + 1 != 0) = true := by rw [bne_iff_ne]; omega
          have hxh : ((N : Int) + 1 == h) = false := beq_eq_false_iff_ne.2 (by omega)
          go_wp2_with fail
          refine ⟨⟨N + 1, k + 1, xs', by omega, by omega, by go_num, by go_num, HP⟩, by simp [intOf]; omega⟩
        | del i _ _ hx _ he hl hn =>
          subst hx he hn
          go_wp2_with fail
          refine ⟨⟨N', k + 1, xs', by omega, by omega, by go_num, by go_num, HP⟩, by simp [intOf]; omega⟩
        | stale _ _ hx he hl hn =>
          subst hx he hn
          go_wp2_with fail
          refine ⟨⟨N', k + 1, xs', by omega, by omega, by go_num, by go_num, HP⟩, by simp [intOf]; omega⟩
        | full _ _ hx he hl hn =>
          subst hx he hn
          go_wp2_with fail
          refine ⟨⟨N', k + 1, xs', by omega, by omega, by go_num, by go_num, HP⟩, by simp [intOf]; omega⟩
    · by_cases heq : k = m.length
      · subst heq
        go_wp2_with (first
          | (go_at_call 17; refine (ints_eq xs xs _ _ _ H6.out.1 (H2.out.1.new (GF5.out.trans H6.out.2.2)) rfl).mono ?_; rintro e w7 ⟨rfl, hf7⟩; have GF7 := hid (H2.out.2.2.trans (GF5.out.trans (H6.out.2.2.trans hf7))); clear hf7)
          | (go_at_call 12; refine (OS.beforeStale (H2.out.2.1.new GF5.out) (.inl HNh.out) HHb.out.1 HHb.out.2 HHb.out.1 HHb.out.2).mono ?_; rintro e wb ⟨rfl, rfl⟩)
          | (go_at_call 13; refine (OS.labelStale (H2.out.2.1.new GF5.out) HNh.out HHb.out.1 HHb.out.2).mono ?_; rintro e wb ⟨⟨lb, rfl⟩, rfl⟩)
          | (go_at_call 14; refine (OS.deleteStale (H2.out.2.1.new GF4.out) HNh.out HHb.out.1 HHb.out.2).mono ?_; rintro e w5 ⟨rfl, hf5⟩; have GF5 := hid ((GF4.out.trans hf5).alloc stepO); clear hf5)
          | (go_at_call 16; refine (OS.aheadStale (H2.out.2.1.new GF3.out) HNh.out HHb.out.1 HHb.out.2).mono ?_; rintro e w4 ⟨rfl, hf4⟩; have GF4 := hid ((GF3.out.trans hf4).alloc stepO); clear hf4)
          | (go_at_call 15; refine (OS.afterStale H2.out.2.1 HNh.out HHb.out.1 HHb.out.2).mono ?_; rintro e w3 ⟨rfl, hf3⟩; have GF3 := hid (hf3.alloc stepO); clear hf3)
          | (go_at_call 11; refine (OS.handles (H2.out.2.1.new GF5.out)).mono ?_; rintro e w6 ⟨A6, c6, rfl, H6⟩)
          | (go_at_call 11; refine (OS.handles HW.out.1.o).mono ?_; rintro e w2 ⟨A2, c2, rfl, H2⟩))
        refine ⟨⟨N, m.length + 1, xs, by omega, by omega, by go_num, by go_num, hid ⟨HW.out.1.new GF7.out, HW.out.2⟩⟩, by simp [intOf]⟩
      · obtain rfl : k = m.length + 1 := by omega
        have HF := hid HW.out.1.o.fr
        go_wp2_with (go_at_call 9; refine (HAw.out _ HF.out).mono ?_; rintro e w9 ⟨rfl, H9⟩)
        go_ret
        exact ⟨rfl, HF.out.trans H9⟩
end Go.Proofs.YtogjfaiidciedaaGreatDoor
