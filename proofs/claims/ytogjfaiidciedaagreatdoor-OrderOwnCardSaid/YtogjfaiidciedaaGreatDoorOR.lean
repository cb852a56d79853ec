/- Acts on a list of handles, played. -/
import Derived.Test.YtogjfaiidciedaaGreatDoorOQ
import Derived.Deep.RegionHeld3
import Derived.Deep.Cut
import Derived.Deep.CutRange
set_option linter.unusedVariables false
set_option linter.unusedSimpArgs false
namespace Go.Proofs.YtogjfaiidciedaaGreatDoor
open Go.RowKit Go.Maps

/-- A slice of acts. -/
def RdAo (w : World) (v : Value) (l : List AcO) : Prop :=
  ∃ (A : Option Addr) (c : Nat), v = .slice A l.length c ∧ (∀ a ∈ l, -9223372036854775808 ≤ a.hh ∧ a.hh ≤ 9223372036854775807) ∧ (0 < l.length → ∃ b o, A = some ⟨b, o, none⟩ ∧ ∀ j a, l[j]? = some a → w.cell? ⟨b, o + j * 3, none⟩ = some (.int .i64 a.d) ∧ w.cell? ⟨b, o + j * 3 + 1, none⟩ = some (.bool a.raw) ∧ w.cell? ⟨b, o + j * 3 + 2, none⟩ = some (.int .i64 a.hh))
theorem RdAo.new {w w' : World} {v : Value} {l : List AcO} (h : RdAo w v l) (hf : Fr Nil1 w w') : RdAo w' v l := by
  obtain ⟨A, c, rfl, hb, hA⟩ := h
  refine ⟨A, c, rfl, hb, fun hp => ?_⟩
  obtain ⟨b, o, rfl, hc⟩ := hA hp
  exact ⟨b, o, rfl, fun j a hj => ⟨hf.cell (hc j a hj).1 (fun s => s), hf.cell (hc j a hj).2.1 (fun s => s), hf.cell (hc j a hj).2.2 (fun s => s)⟩⟩
section
variable {w0 w : World} {L : Nat} {l : List Int} {n b : Nat}
theorem OSB.does (H : OSB w0 L l n b w) (hn : n < 100000000) (hT : l.length ≤ 2560) (d y : Int) (h1 : -9223372036854775808 ≤ y) (h2 : y ≤ 9223372036854775807) :
    Calls Tryz.prog 18 #[.pointer (some ⟨L, 0, none⟩), .int .i64 d, .int .i64 y] w fun e w' => ∃ (x s1 s2 s3 s4 er : Int) (l' : List Int) (n' : Nat), e = .returned (.tuple #[.int .i64 x, .agg #[.int .i64 s1, .int .i64 s2, .int .i64 s3, .int .i64 s4], .int .i64 er]) ∧ Hid (OSB w0 L l' n' b w' ∧ ActO l n d y x s1 er l' n' ∧ ∀ c T, Has w b c T → Has w' b c T) := by
  obtain ⟨bl, p, tf, F, σ, h, τ, a, rfl, rfl, hb⟩ := H.ex
  refine (ordDoes_any a hn hT d y h1 h2).mono ?_
  rintro e w' ⟨x, S, er, rfl, H2⟩
  obtain ⟨F', σ', h', τ', hW, hQ⟩ := H2.out
  have ho := OrdW.osb hW hb H.lt rfl rfl
  refine ⟨x, S.k, S.f, S.s, S.c, er, its σ', τ'.length, rfl, hid ⟨ho.1, ?_, ho.2⟩⟩
  cases hQ with
  | put k hT' hd hx he k' => exact .put k hT' hd hx k'.st he k'.items k'.len
  | del k hd hk hx he k' => exact .del k hd hk hx k'.st he k'.items k'.len
  | stale hd hl hx hS he hσ hτ => exact .stale hd (fun hm => by rw [(a.live y).2 hm] at hl; cases hl) hx he (by rw [hσ]) (by rw [hτ])
  | full hd hT hx hS he hσ hτ => exact .full (hd.imp id (fun h => ⟨h.1, (a.live y).1 h.2⟩)) hT hx he (by rw [hσ]) (by rw [hτ])
theorem OSB.set (H : OSB w0 L l n b w) {w' : World} (h0 : w0.heap.size ≤ b) (hf : Fr (fun k => k = b) w w') : OS w0 L l n w' := by
  obtain ⟨bl, p, tf, F, σ, h, τ, a, b', c, hb⟩ := H.ex
  exact ⟨⟨bl, p, tf, F, σ, h, τ, a.frS hf (fun k hk => by subst hk; exact ⟨hb, h0⟩), b', c⟩, H.fr.trans' hf (fun j _ hj hs => by have e : j = b := hs; omega)⟩
/-- What `played` knows of its list: the handles are among 1 .. n, not more than n of them. -/
structure Pl (w0 : World) (L : Nat) (l : List Int) (n : Nat) (w : World) : Prop where
  o : OS w0 L l n w
  len : l.length ≤ n
  mem : ∀ y ∈ l, 1 ≤ y ∧ y ≤ (n : Int)
theorem Pl.new {w' : World} (H : Pl w0 L l n w) (hf : Fr Nil1 w w') : Pl w0 L l n w' := ⟨H.o.new hf, H.len, H.mem⟩
theorem Pl.act (H : Pl w0 L l n w) {d y x k e : Int} {l' : List Int} {n' : Nat} {w' : World} (hA : ActO l n d y x k e l' n') (ho : OS w0 L l' n' w') : Pl w0 L l' n' w' := by
  cases hA with
  | put i _ _ _ _ _ hl hn =>
    subst hl hn
    exact ⟨ho, by rw [len_put]; have := H.len; omega, fun z hz => by
      rcases mem_put.1 hz with rfl | hz
      · omega
      · have := H.mem z hz; omega⟩
  | del i _ _ _ _ _ hl hn =>
    subst hl hn
    exact ⟨ho, by rw [List.length_append, List.length_take, List.length_drop]; have := H.len; omega, fun z hz => by
      rcases List.mem_append.1 hz with hz | hz
      · exact H.mem z (List.mem_of_mem_take hz)
      · exact H.mem z (List.mem_of_mem_drop hz)⟩
  | stale _ _ _ _ hl hn => subst hl hn; exact ⟨ho, H.len, H.mem⟩
  | full _ _ _ _ hl hn => subst hl hn; exact ⟨ho, H.len, H.mem⟩
end
theorem AcO.of_in (a : AcO) (l : List Int) (b1 : -9223372036854775808 ≤ a.hh) (b2 : a.hh ≤ 9223372036854775807) (hl : ∀ y ∈ l, -9223372036854775808 ≤ y ∧ y ≤ 9223372036854775807) : -9223372036854775808 ≤ a.of l ∧ a.of l ≤ 9223372036854775807 := by
  unfold AcO.of
  split
  · exact ⟨b1, b2⟩
  · rw [List.getD_eq_getElem?_getD]
    cases h : l[(a.hh % l.length).toNat]? with
    | none => exact ⟨by decide, by decide⟩
    | some y => exact hl y (List.mem_of_getElem? h)
theorem fr_sets (w : World) (m : Nat) (hg : NG ≤ m) (x1 x2 x3 x4 : Value) : Fr (fun k => k = m) w ((((w.setCell ⟨m, 0, none⟩ x1).setCell ⟨m, 1, none⟩ x2).setCell ⟨m, 2, none⟩ x3).setCell ⟨m, 3, none⟩ x4) :=
  ((((Fr.refl (fun k => k = m) w).setCell ⟨m, 0, none⟩ x1 hg (fun _ => rfl)).setCell ⟨m, 1, none⟩ x2 hg (fun _ => rfl)).setCell ⟨m, 2, none⟩ x3 hg (fun _ => rfl)).setCell ⟨m, 3, none⟩ x4 hg (fun _ => rfl)
theorem cell_sets {w : World} {a : Addr} {m : Nat} {v : Value} (hg : NG ≤ m) (h : w.cell? a = some v) (hne : ¬ a.block = m) (x1 x2 x3 x4 : Value) : ((((w.setCell ⟨m, 0, none⟩ x1).setCell ⟨m, 1, none⟩ x2).setCell ⟨m, 2, none⟩ x3).setCell ⟨m, 3, none⟩ x4).cell? a = some v :=
  (fr_sets w m hg x1 x2 x3 x4).cell h hne
set_option maxRecDepth 100000 in
set_option maxHeartbeats 8000000 in
theorem played_any (v : Value) (l : List AcO) (w : World) (hv : RdAo w v l) (hN : l.length ≤ 200) (hg : GW w) : Calls Tryz.prog 10 #[v] w fun e w' => ∃ (L n : Nat) (xs : List Int), e = .returned (.tuple #[.pointer (some ⟨L, 0, none⟩), .int .i64 n]) ∧ n ≤ 200 ∧ Hid (Pl w L xs n w') := by
  have HNew := hid (OS.start w hg)
  obtain ⟨A, c, rfl, hb, hA⟩ := hv
  have HA := hid (And.intro hb hA)
  have HG := hid hg.size
  clear hb hA hg
  go_enter Tryz.func10, Tryz.ntmps10
  go_wp2_with (go_at_call 20; refine HNew.out.mono ?_; rintro e w1 ⟨L, rfl, H1⟩)
  go_loopw [5, 6, 7, 9] (fun n i _ _ wr => ∃ (N k : Nat) (xs : List Int), k ≤ l.length ∧ N ≤ k ∧ n = .int .i64 N ∧ i = .int .i64 k ∧ Hid (Pl w L xs N wr)) (fun _ i _ _ _ => (l.length - intOf i).toNat)
  case atStart => exact ⟨0, 0, [], by omega, by omega, rfl, rfl, hid ⟨H1.out, by decide, fun y hy => by cases hy⟩⟩
  case round =>
    obtain ⟨N, k, xs, hk, hNk, rfl, rfl, HW⟩ := hrel
    by_cases hlt : k < l.length
    · have hltI : (k : Int) < l.length := by omega
      obtain ⟨b, o, rfl, hc⟩ := HA.out.2 (by omega)
      obtain ⟨a, ha⟩ : ∃ a, l[k]? = some a := ⟨_, List.getElem?_eq_getElem hlt⟩
      obtain ⟨q0, q1, q2⟩ := hc k a ha
      obtain ⟨d, raw, z⟩ := a
      have c0 := HW.out.o.fr.cell q0 id
      have c1 := HW.out.o.fr.cell q1 id
      have c2 := HW.out.o.fr.cell q2 id
      have HZb := hid (HA.out.1 _ (List.mem_of_getElem? ha))
      have HYb := hid (AcO.of_in ⟨d, raw, z⟩ xs HZb.out.1 HZb.out.2 (fun y hy => by have := HW.out.mem y hy; omega))
      have HSm := hid (show xs.length ≤ 65536 by have := HW.out.len; omega)
      have HHo := hid (fun (v : Value) (w' : World) (hx : Rd w' v (ints' xs)) => handleOf_any ⟨d, raw, z⟩ xs v w' hx HSm.out HZb.out.1 HZb.out.2)
      obtain ⟨y, hy⟩ : ∃ y, AcO.of ⟨d, raw, z⟩ xs = y := ⟨_, rfl⟩
      rw [hy] at HYb HHo
      have HB0 := hid (show w.heap.size ≤ wr.heap.size from HW.out.o.fr.size)
      have HNb := hid (show N < 100000000 by omega)
      have HTb := hid (show xs.length ≤ 2560 by have := HW.out.len; omega)
      have HQ := hid (And.intro q0 (And.intro q1 q2))
      have HNE := hid (fun (m : Nat) (hm : w.heap.size ≤ m) => And.intro (show NG ≤ m from Nat.le_trans HG.out hm) (show ¬ b = m by have h9 : b < w.heap.size := World.block_lt_of_cell? (h := q0); omega))
      clear q0 q1 q2 hc ha hy
      go_upto_region 6 with (fail)
      go_cut [7, 9] from 11 to 42 (fun s7 s9 wx => ∃ (x er s1 : Int) (xs' : List Int) (N' : Nat), s7 = .int .i64 x ∧ s9 = .int .i64 er ∧ Hid (ActO xs N d y x s1 er xs' N' ∧ Pl w L xs' N' wx))
      case first =>
        go_region_held3 (fun w' => w'.cell? ⟨b, o + k * 3, none⟩ = some (.int .i64 d) ∧ w'.cell? ⟨b, o + k * 3 + 1, none⟩ = some (.bool raw) ∧ w'.cell? ⟨b, o + k * 3 + 2, none⟩ = some (.int .i64 z)) (first | exact ⟨k0, k1, k2⟩ | exact ⟨c0, c1, c2⟩ | exact ⟨cell_sets (HNE.out _ HM.out).1 k0 (HNE.out _ HM.out).2 _ _ _ _, cell_sets (HNE.out _ HM.out).1 k1 (HNE.out _ HM.out).2 _ _ _ _, cell_sets (HNE.out _ HM.out).1 k2 (HNE.out _ HM.out).2 _ _ _ _⟩ | go_keep) (first
          | (go_at_call 18; with_reducible refine (OSB.does HB3.out HNb.out HTb.out d y HYb.out.1 HYb.out.2).mono ?_; rintro e w4 ⟨x, s1, s2, s3, s4, er, xs', N', rfl, H4⟩; have hs4 := H4.out.2.2 _ _ HS3.out; have HS4 := hid hs4; have s0 := hs4.cell 0; have t1 := hs4.cell 1; have t2 := hs4.cell 2; have t3 := hs4.cell 3; have sf := hs4.frozen; have k0 := H4.out.1.fr.cell HQ.out.1 id; have k1 := H4.out.1.fr.cell HQ.out.2.1 id; have k2 := H4.out.1.fr.cell HQ.out.2.2 id; clear hs4)
          | (go_at_call 18; with_reducible refine (OSB.does (OS.box (OS.new HW.out.o HF3.out) (.cells #[.int .i64 0, .int .i64 0, .int .i64 0, .int .i64 0] 36)) HNb.out HTb.out d y HYb.out.1 HYb.out.2).mono ?_; rintro e w4 ⟨x, s1, s2, s3, s4, er, xs', N', rfl, H4⟩; have HM := hid (Nat.le_trans HB0.out HF3.out.size); have hs4 := H4.out.2.2 _ _ (Has.new w3 [.int .i64 0, .int .i64 0, .int .i64 0, .int .i64 0] 36); have HS4 := hid hs4; have s0 := hs4.cell 0; have t1 := hs4.cell 1; have t2 := hs4.cell 2; have t3 := hs4.cell 3; have sf := hs4.frozen; have k0 := H4.out.1.fr.cell HQ.out.1 id; have k1 := H4.out.1.fr.cell HQ.out.2.1 id; have k2 := H4.out.1.fr.cell HQ.out.2.2 id; clear hs4)
          | (go_at_call 18; with_reducible refine (OS.does (OS.new HW.out.o HF3.out) HNb.out HTb.out d y HYb.out.1 HYb.out.2).mono ?_; rintro e w4 ⟨x, S, er, xs', N', rfl, H4⟩; have k0 := H4.out.1.fr.cell HQ.out.1 id; have k1 := H4.out.1.fr.cell HQ.out.2.1 id; have k2 := H4.out.1.fr.cell HQ.out.2.2 id)
          | (go_at_call 19; with_reducible refine (HHo.out _ w2 H2.out.1).mono ?_; rintro e w3 ⟨rfl, hf3⟩; have HF3 := hid (HF2.out.trans hf3); have HS3 := hid (HS2.out.fr' hf3 id); have HB3 := hid (HB2.out.new hf3); have k0 := HF3.out.cell c0 id; have k1 := HF3.out.cell c1 id; have k2 := HF3.out.cell c2 id; clear hf3)
          | (go_at_call 19; with_reducible refine (HHo.out _ w2 H2.out.1).mono ?_; rintro e w3 ⟨rfl, hf3⟩; have HF3 := hid (HF2.out.trans hf3); have k0 := HF3.out.cell c0 id; have k1 := HF3.out.cell c1 id; have k2 := HF3.out.cell c2 id; clear hf3)
          | (go_at_call 19; with_reducible refine (HHo.out _ _ (H2.out.1.new ((Fr.refl Nil1 w2).alloc (.cells #[.int .i64 0, .int .i64 0, .int .i64 0, .int .i64 0] 36)))).mono ?_; rintro e w3 ⟨rfl, hf3⟩; have HF3 := hid ((HF2.out.alloc (.cells #[.int .i64 0, .int .i64 0, .int .i64 0, .int .i64 0] 36)).trans hf3); have HS3 := hid ((Has.new w2 [.int .i64 0, .int .i64 0, .int .i64 0, .int .i64 0] 36).fr' hf3 id); have HM := hid (Nat.le_trans HB0.out HF2.out.size); have HB3 := hid ((OS.box (OS.new HW.out.o HF2.out) (.cells #[.int .i64 0, .int .i64 0, .int .i64 0, .int .i64 0] 36)).new hf3); have k0 := HF3.out.cell c0 id; have k1 := HF3.out.cell c1 id; have k2 := HF3.out.cell c2 id; clear hf3)
          | (go_at_call 11; refine (OS.handles (OS.new HW.out.o (Fr.refl Nil1 wr).drew)).mono ?_; rintro e w2 ⟨A2, c2', rfl, H2⟩; have HF2 := hid ((Fr.refl Nil1 wr).drew.trans H2.out.2.2); have k0 := HF2.out.cell c0 id; have k1 := HF2.out.cell c1 id; have k2 := HF2.out.cell c2 id)
          | (go_at_call 11; refine (OS.handles (OS.new HW.out.o ((Fr.refl Nil1 wr).alloc (.cells #[.int .i64 0, .int .i64 0, .int .i64 0, .int .i64 0] 36)).drew)).mono ?_; rintro e w2 ⟨A2, c2', rfl, H2⟩; have HF2 := hid (((Fr.refl Nil1 wr).alloc (.cells #[.int .i64 0, .int .i64 0, .int .i64 0, .int .i64 0] 36)).drew.trans H2.out.2.2); have HS2 := hid (((Has.new wr [.int .i64 0, .int .i64 0, .int .i64 0, .int .i64 0] 36).drew).fr' H2.out.2.2 id); have HM := hid (HB0.out); have HB2 := hid (OSB.new (OS.box HW.out.o (.cells #[.int .i64 0, .int .i64 0, .int .i64 0, .int .i64 0] 36)) (((Fr.refl Nil1 _).drew).trans H2.out.2.2)); have k0 := HF2.out.cell c0 id; have k1 := HF2.out.cell c1 id; have k2 := HF2.out.cell c2 id))
        all_goals (try go_wp2_with fail)
        all_goals go_meet
        all_goals (first
          | exact ⟨x, er, S.k, xs', N', rfl, rfl, hid ⟨H4.out.2.1, HW.out.act H4.out.2.1 (H4.out.1.new ((Fr.refl _ _).alloc _))⟩⟩
          | exact ⟨x, er, s1, xs', N', rfl, rfl, hid ⟨H4.out.2.1, HW.out.act H4.out.2.1 (OSB.set H4.out.1 HM.out (fr_sets _ _ (HNE.out _ HM.out).1 _ _ _ _))⟩⟩)
      case rest =>
        obtain ⟨x, er, s1, xs', N', rfl, rfl, H4⟩ := hcut
        have HP := hid H4.out.2
        have hA4 := H4.out.1
        clear H4 c0 c1 c2 HHo HYb HSm HZb HTb
        cases hA4 with
        | put i _ _ hx _ he hl hn =>
          subst hx he hn
          have hgt : (N : Int) < (N : Int) + 1 := by omega
          go_wp2_with fail
          refine ⟨⟨N + 1, k + 1, xs', by omega, by omega, by go_num, by go_num, HP⟩, by simp [intOf]; omega⟩
        | del i _ _ hx _ he hl hn =>
          subst hx he hn
          have hgt : ¬ (N' : Int) < 0 := by omega
          go_wp2_with fail
          refine ⟨⟨N', k + 1, xs', by omega, by omega, by go_num, by go_num, HP⟩, by simp [intOf]; omega⟩
        | stale _ _ hx he hl hn =>
          subst hx he hn
          go_wp2_with fail
          refine ⟨⟨N', k + 1, xs', by omega, by omega, by go_num, by go_num, HP⟩, by simp [intOf]; omega⟩
        | full _ _ hx he hl hn =>
          subst hx he hn
          go_wp2_with fail
          refine ⟨⟨N', k + 1, xs', by omega, by omega, by go_num, by go_num, HP⟩, by simp [intOf]; omega⟩
    · have hnI : ¬ (k : Int) < l.length := by omega
      obtain rfl : k = l.length := by omega
      go_wp2_with fail
      go_ret2
      exact ⟨L, N, rfl, by omega, xs, HW⟩
end Go.Proofs.YtogjfaiidciedaaGreatDoor
