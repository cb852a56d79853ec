/- pma.Of (nobody is told), set.Of. -/
import Derived.Test.YtmbkmojekpkfhaaGreatDoorEB
import Derived.Test.YtmbkmojekpkfhaaGreatDoorSJ
set_option linter.unusedVariables false
set_option linter.unusedSimpArgs false
namespace Go.Proofs.YtmbkmojekpkfhaaGreatDoor
open Go.RowKit Go.Shelf
attribute [local go_sem] Oper.semAt_some

set_option maxRecDepth 100000 in
set_option maxHeartbeats 4000000 in
theorem pmaOfNil_ok (l : List Int) (hn : l.length ≤ 2560) {u : Value} {w : World} (hu : Rd w u (ints' l)) (hg : GW w) :
    Calls Tryz.prog 117 #[u, Value.nilFunc] w fun e w' => ∃ (F : PF) (τ : List (Option Int)), e = .returned (.tuple #[.pointer (some ⟨F.p, 0, none⟩), .int .i64 0]) ∧
      Hid (LaidR l (2 ^ forH l.length) τ ∧ PmaR w' F τ (forH l.length) Value.nilFunc ∧ Fr Nil1 w w' ∧ ∀ k, F.mem k → w.heap.size ≤ k) := by
  refine (callsIn_wide (n := 3)).1 ?_
  have hlo := forH_lo l.length
  have hhi := forH_hi l.length
  have HOf := hid (sizeOf_ok l hn hu hg)
  have hG := hg.size
  obtain ⟨A, c, rfl, hb, hA⟩ := hu
  rw [ints'_length] at HOf ⊢
  have HUs := hid (fun (w1 wz : World) (f : SF) (τ : List (Option Int)) (hL : LaidR l (2 ^ forH l.length) τ) (hS : SlotsR wz f τ) (hp : Has wz w1.heap.size [.pointer none, .pointer none, Value.nilFunc] 81) (gp : NG ≤ w1.heap.size) =>
    pmaUse_ok (h := forH l.length) hS hlo hhi (by rw [hL.len]) hp gp ⟨_, rfl⟩ ⟨_, rfl⟩)
  clear hA hb hg hn hlo hhi
  generalize hh : forH l.length = h at *
  (refine callsIn_of_wp_marks Tryz.func117 rfl trivial ?_ rfl; simp only [Tryz.ntmps117, List.size_toArray, List.length_cons, List.length_nil, Nat.reduceAdd, Nat.reduceSub, Array.replicate_succ, Array.replicate_zero, List.push_toArray, List.append_toArray, List.nil_append, List.cons_append])
  gi_wp2_with (first
    | ((first | refine ⟨trivial, wideNo, ?_⟩ | refine ⟨trivial, ?_⟩); gi_at_call 143; refine (callsIn_wide.2 HOf.out).mono ?_; rintro e w1 ⟨f, rfl, H1⟩; obtain ⟨τ, hL, hS⟩ := H1.out.1; have HL := hid hL; have HS := hid hS; have hs1 := H1.out.2.1.size; have hb0 := (Has.new w1 [.pointer none, .pointer none, Value.nilFunc] 81).alloc (.cells #[.pointer (some ⟨w1.heap.size, 0, none⟩)] 24); have HB0 := hid hb0; have hb1 := Has.new (w1.alloc (.cells #[.pointer none, .pointer none, Value.nilFunc] 81)) [.pointer (some ⟨w1.heap.size, 0, none⟩)] 24; have HB1 := hid hb1; clear hL hS hb0 hb1)
    | ((first | refine ⟨trivial, wideNo, ?_⟩ | refine ⟨trivial, ?_⟩); gi_at_call 44; refine (callsIn_wide.2 (HUs.out w1 _ f τ HL.out (HS.out.new (((Fr.refl Nil1 w1).alloc _).alloc _)) HB0.out (by omega))).mono ?_; rintro e w2 ⟨⟨v, rfl⟩, t, d, hp, ht, hd, hf⟩; have H2 := hid (And.intro hp (And.intro ht (And.intro hd hf))); clear hp ht hd hf)
    | ((first | refine ⟨trivial, wideNo, ?_⟩ | refine ⟨trivial, ?_⟩); gi_at_call 46; refine (callsIn_wide.2 (gapsAll_any f.s _)).mono ?_; rintro e w3 ⟨rfl, rfl⟩))
  obtain ⟨Q, hQ⟩ : ∃ Q, w1.heap.size = Q := ⟨_, rfl⟩
  obtain ⟨R, hR⟩ : ∃ R, w2.heap.size = R := ⟨_, rfl⟩
  have s2 := H2.out.2.2.2.size
  have HPm := hid (show PmaR w2 ⟨Q, f, t, d⟩ τ h Value.nilFunc from hQ ▸ H2.out.1)
  have hf2 : Fr (fun k => k = Q) w1 w2 := by
    have a : Fr (fun k => k = Q) w1 ((w1.alloc (.cells #[.pointer none, .pointer none, Value.nilFunc] 81)).alloc (.cells #[.pointer (some ⟨w1.heap.size, 0, none⟩)] 24)) := ((Fr.refl _ _).alloc _).alloc _
    exact a.trans (H2.out.2.2.2.mono (fun _ _ e => e.trans hQ))
  have hbx : Has w2 (Q + 1) [.pointer (some ⟨Q, 0, none⟩)] 24 := by
    have := HB1.out.fr' H2.out.2.2.2 (by simp)
    simp only [World.size_alloc] at this
    rw [hQ] at this
    exact this
  have s2' : Q + 2 ≤ R := by simp at s2; omega
  have ht2 : Q + 2 ≤ t := by have := H2.out.2.1; simp at this; omega
  have hd2 : Q + 2 ≤ d := by have := H2.out.2.2.1; simp at this; omega
  have hN : Has (w2.alloc (.cells #[.pointer (some ⟨f.s, 0, none⟩)] 31)) R [.pointer (some ⟨f.s, 0, none⟩)] 31 := hR ▸ Has.new w2 _ _
  have hF0 : Fr Nil1 w2 (w2.alloc (.cells #[.pointer (some ⟨f.s, 0, none⟩)] 31)) := (Fr.refl _ _).alloc _
  have hsz0 : (w2.alloc (.cells #[.pointer (some ⟨f.s, 0, none⟩)] 31)).heap.size = R + 1 := by simp [hR]
  obtain ⟨W0, hW0⟩ : ∃ W0, w2.alloc (.cells #[.pointer (some ⟨f.s, 0, none⟩)] 31) = W0 := ⟨_, rfl⟩
  rw [hW0] at hN hF0 hsz0 ⊢
  rw [hQ, hR]
  have HP0 := hid (HPm.out.new hF0)
  have HX0 := hid (hbx.fr' hF0 id)
  have hG0 : NG ≤ W0.heap.size := by omega
  have hGQ : NG ≤ Q := by omega
  have hlt2 := HPm.out.sl.lt
  have hnm : ∀ k, f.mem k → k < R := fun k hk => hR ▸ hlt2 k hk
  have HFin := hid (show Fr Nil1 w W0 from (H1.out.2.1.trans' (S' := fun k => k = Q) hf2 (fun j _ hj e => by have e' : j = Q := e; omega)).trans hF0)
  have HMem := hid (show ∀ k, PF.mem ⟨Q, f, t, d⟩ k → w.heap.size ≤ k from by
    rintro k (e | hk | e | e)
    · have e' : k = Q := e; omega
    · exact H1.out.2.2 k hk
    · have e' : k = t := e; omega
    · have e' : k = d := e; omega)
  clear hW0 hbx hf2 hF0 hlt2 HPm
  refine wpIn_rangeFunc_ownG rfl (by omega) (gf := 90) (lb := #[.pointer (some ⟨R, 0, none⟩)]) rfl trivial (enters_of Tryz.func90 (by kernel_rfl) rfl)
    (gapsAll_stops _ R f τ W0 hN HP0.out.sl) (fun h k => h.trans k) (fun W l o o' hl ho hc hw => KeepT.putObj W0 (fun k hk => by
      rcases hk with hk | hk | hk
      · omega
      · omega
      · have := hnm k hk; omega) W l o o' hl ho hc hw) (Below.refl _ _) (fun _ => rfl)
    (fun pre W => Fr Nil1 W0 W ∧ W0.heap.size ≤ W.heap.size)
    (fun _ _ _ => False)
    (fun s A B row hs hg hrow => ⟨hs.1.grownBy hg hrow (Nat.le_refl _) hG0, Nat.le_trans hs.2 hg.size⟩)
    (fun _ _ _ _ _ hs _ _ => hs)
    ⟨Fr.refl _ _, Nat.le_refl _⟩
    (fun x => { tmps := #[.slice A l.length c, Value.nilFunc, undef, undef, .pointer none, .int .i64 0, .pointer (some ⟨f.s, 0, none⟩), .int .i64 0, .pointer (some ⟨Q + 1, 0, none⟩), .int .i64 (x.1 : Int), .int .i64 x.2,
      .tuple #[.pointer (some ⟨f.s, 0, none⟩), .int .i64 0], .slice A l.length c, .tuple #[.pointer (some ⟨f.s, 0, none⟩), .int .i64 0], .pointer (some ⟨f.s, 0, none⟩), .int .i64 0, .int .i64 0, .bool false, undef, Value.nilFunc, .agg #[.pointer none, .pointer none, Value.nilFunc],
      .pointer (some ⟨Q, 0, none⟩), .pointer (some ⟨Q, 0, none⟩), .pointer (some ⟨f.s, 0, none⟩), v, .pointer (some ⟨f.s, 0, none⟩), .func (.func 90) #[] #[.pointer (some ⟨R, 0, none⟩)], .int .i64 (x.1 : Int), .int .i64 x.2, undef, undef, undef, undef, undef], defers := [] }) ?assign ?body ?done ?stop
  case assign =>
    intro l x W K hK
    unfold encIx
    gi_wp2
    exact hK
  case body =>
    rintro l' pre x W ⟨HF, hWs⟩ hlt
    obtain ⟨c0, cf⟩ := (HX0.out.fr' HF id).one
    have HFF := hid HF
    have HTl := hid (pmaTell_ok hearN (p := Q) (fun h => h) [] x.2 (-1) (x.1 : Int) W ⟨trivial, (HP0.out.new HF).row⟩)
    gi_wp2_with ((first | refine ⟨trivial, wideNo, ?_⟩ | refine ⟨trivial, ?_⟩); gi_at_call 49; refine (callsIn_wide.2 HTl.out).mono ?_; rintro e w4 ⟨⟨v', rfl⟩, _, h5⟩; have H5 := hid h5; clear h5)
    have h6 : Fr Nil1 W w4 := H5.out.mono (fun _ _ h => h)
    exact ⟨KeepsFrom.of_fr h6 (fun _ _ h => h), KeepT.of_fr h6 (fun _ _ h => h), HFF.out.trans h6, Nat.le_trans hWs h6.size⟩
  case done =>
    rintro D ys W hD rfl ⟨HF, hWs⟩ hK
    obtain ⟨c0, cf⟩ := (HX0.out.fr' HF id).one
    have HFF := hid HF
    have HKK := hid hK
    gi_wp2_with fail
    have hf9 : Fr Nil1 W0 (W.putObj D (.deferred none)) := HFF.out.putObj D _ hD hG0
    refine ⟨by simp, .inl ⟨_, _, rfl, run_takeDeferred HKK.out, ?_⟩⟩
    exact ⟨.tuple #[.pointer (some ⟨Q, 0, none⟩), .int .i64 0], by simp [results, Tryz.f117, go_sem], ⟨Q, f, t, d⟩, τ, rfl, hid ⟨HL.out, HP0.out.new hf9, HFin.out.trans hf9, HMem.out⟩⟩
  case stop =>
    rintro D c pre W _ _ h _
    exact h.elim
end Go.Proofs.YtmbkmojekpkfhaaGreatDoor
