/- size.Of: the least array of elements, evenly spread. -/
import Derived.Test.YtmbkmojekpkfhaaGreatDoorEA
set_option linter.unusedVariables false
set_option linter.unusedSimpArgs false
namespace Go.Proofs.YtmbkmojekpkfhaaGreatDoor
open Go.RowKit

/-- Behind some rounds. -/
structure OfW (w w2 : World) (f : SF) (v : Value) (N : Nat) (ps vs : List Int) (wr : World) : Prop where
  sl : ∃ τ, LayI N ps vs τ ∧ SlotsR wr f τ
  row : RowI wr w.heap.size v ps
  fr : Fr Nil1 w wr
set_option maxRecDepth 100000 in
set_option maxHeartbeats 4000000 in
theorem sizeOf_ok (l : List Int) (hn : l.length ≤ 2560) {u : Value} {w : World} (hu : Rd w u (ints' l)) (hg : GW w) :
    Calls Tryz.prog 143 #[u] w fun e w' => ∃ f : SF, e = .returned (.tuple #[.pointer (some ⟨f.s, 0, none⟩), .int .i64 0]) ∧ Hid ((∃ τ, LaidR l (2 ^ forH l.length) τ ∧ SlotsR w' f τ) ∧ Fr Nil1 w w' ∧ ∀ k, f.mem k → w.heap.size ≤ k) := by
  obtain ⟨A, c, rfl, hb, hA⟩ := hu
  rw [ints'_length] at hb hA ⊢
  have hlo := forH_lo l.length
  have hhi := forH_hi l.length
  have hfit := (forH_iff hn hlo hhi).2 (Nat.le_refl _)
  have hz0 : 0 < 2 ^ forH l.length := Nat.pow_pos (by omega)
  have hpll := plcL_length l.length 0 (2 ^ forH l.length) hz0
  have hpok := plcL_ok l.length 0 (2 ^ forH l.length) hz0 (by omega)
  rw [Nat.mul_zero] at hpok
  have HA := hid (fun (wr : World) (hf : Fr Nil1 w wr) (k : Nat) (hk : k < l.length) => show ∃ ad, A = some ad ∧ wr.cell? (ad.add k) = some (.int .i64 (l.getD k 0)) from by
    obtain ⟨ad, rfl, hc⟩ := hA (by omega)
    exact ⟨ad, rfl, hf.cell (hc k _ (ints'_get l k hk)) id⟩)
  have HFor := hid (levelFor_ok l.length hn w hg)
  have HEm := hid (fun w' (hf : Fr Nil1 w w') => (sizeEmpty_ok l.length (forH l.length) hlo hhi (by omega) w' (hg.fr hf)).mono (fun e w2 hh => show ∃ (f2 : SF) (g : Nat) (cc : Nat) (v : Value), e = .returned (.tuple #[.pointer (some ⟨f2.s, 0, none⟩), v, .int .i64 0]) ∧ (∃ A' cc, v = .slice A' l.length cc) ∧
      Hid (SlotsR w2 f2 (List.replicate (8 * 2 ^ forH l.length) none) ∧ RowI w2 w'.heap.size v (plcL l.length 0 (2 ^ forH l.length)) ∧ Fr Nil1 w' w2 ∧ (∀ k, f2.mem k → w'.heap.size ≤ k) ∧ ∀ k, f2.mem k → v.ownBlock ≠ some k) from by
    obtain ⟨f2, v, he, h1, h2, h3, h4, h5⟩ := hh
    obtain ⟨A', cc, hv, _, _⟩ := h2.rd (by rw [hpll]; omega)
    rw [ints'_length, hpll] at hv
    exact ⟨f2, 0, cc, v, he, ⟨A', cc, hv⟩, hid ⟨h1, h2, h3, h4, h5⟩⟩))
  have HDn := hid (fun τ => LayI.done (n := l.length) (segs := 2 ^ forH l.length) (vs := l) (τ := τ) hz0 rfl (by omega))
  have HPl := hid hpll
  have HPok := hid hpok
  clear hA hlo hhi hfit hz0 hpll hpok
  generalize 2 ^ forH l.length = Z at *
  generalize plcL l.length 0 Z = ps at *
  obtain ⟨y, hy⟩ : ∃ y : Int, ((8 * Z : Nat) : Int) = y := ⟨_, rfl⟩
  rw [hy] at HFor HEm
  clear hy
  have HG := hid hg.size
  clear hg
  go_enter Tryz.func143, Tryz.ntmps143
  go_wp2_with (first
    | (go_at_call 150; refine HFor.out.mono ?_; rintro e w1 ⟨rfl, H1⟩; have HF1 := hid H1; clear H1)
    | (go_at_call 129; refine (HEm.out _ HF1.out).mono ?_; rintro e w2 ⟨f, _, _, v, rfl, ⟨A', cc, rfl⟩, H2⟩))
  have h0 := hid (show OfW w w2 f (.slice A' l.length cc) (8 * Z) ps [] w2 from ⟨⟨_, LayI.start _ _, H2.out.1⟩, H2.out.2.1.mono HF1.out.size, HF1.out.trans H2.out.2.2.1⟩)
  go_loopw [8, 9, 10, 33] (fun _ _ _ i wr => ∃ k : Nat, k ≤ l.length ∧ i = .int .i64 k ∧ Hid (OfW w w2 f (.slice A' l.length cc) (8 * Z) ps (l.take k) wr)) (fun _ _ _ i _ => l.length - (intOf i).toNat)
  case atStart => exact ⟨0, by omega, rfl, h0⟩
  case round =>
    obtain ⟨k, hk, rfl, HW⟩ := hrel
    by_cases hlt : k < l.length
    · have hltI : (k : Int) < l.length := by omega
      have hk0 : (0 : Int) ≤ k := by omega
      obtain ⟨ad, rfl, hc⟩ := HA.out wr HW.out.fr k hlt
      have htl : (l.take k).length = k := by rw [List.length_take]; omega
      obtain ⟨τ, hLay, hSl⟩ := HW.out.sl
      have hpl : k < ps.length := by rw [HPl.out]; exact hlt
      obtain ⟨q, hq, hqN, hqf⟩ := hLay.free HPok.out (by rw [htl]; exact hpl)
      have hstep := hLay.step HPok.out (by rw [htl]; exact hpl) (l.getD k 0) hq
      rw [htl] at hq
      have htk : l.take k ++ [l.getD k 0] = l.take (k + 1) := by
        rw [List.take_succ_eq_append_getElem hlt, List.getD_eq_getElem?_getD, List.getElem?_eq_getElem hlt]; rfl
      rw [htk] at hstep
      have hτl : τ.length = 8 * Z := hLay.len
      have HPut := hid (show Calls Tryz.prog 54 #[.pointer (some ⟨f.s, 0, none⟩), .int .i64 (q : Int), .int .i64 (l.getD k 0)] wr fun e w'' => e = .returned (.int .i64 0) ∧ SlotsR w'' f (τ.set q (some (l.getD k 0))) ∧ Fr f.chg wr w'' from by
        have := gapsPut_ok hSl (q : Int) (l.getD k 0) (by omega) (by omega) (by rw [Int.toNat_natCast]; exact hqf)
        rwa [Int.toNat_natCast] at this)
      obtain ⟨A2, c2, e2, _, hcA⟩ := HW.out.row.rd (by rw [HPl.out]; omega)
      rw [ints'_length, HPl.out] at e2 hcA
      injection e2 with e3 e4 e5
      subst e3
      subst e5
      obtain ⟨ad2, rfl, hc2⟩ := hcA (by omega)
      have d1 := hc2 k _ (ints'_get ps k hpl)
      rw [hq] at d1
      have HStep := hid hstep
      clear hLay hSl hqf hstep htk hτl hcA hc2 hpl htl hq
      have HQ := hid (And.intro hqN HStep.out)
      clear hqN
      generalize hx : l.getD k 0 = x at *
      have HXX := hid hx
      clear hx
      go_wp2_with (go_at_call 54; refine HPut.out.mono ?_; rintro e w3 ⟨rfl, h31, h32⟩; have H3 := hid (And.intro h31 h32); clear h31 h32)
      refine ⟨⟨k + 1, by omega, by go_num, hid ⟨⟨_, HStep.out, H3.out.1⟩, HW.out.row.frO H3.out.2 (fun g hg hh => H2.out.2.2.2.2 g (SF.chg_mem hh) hg), HW.out.fr.trans' H3.out.2 (fun j _ hj hh => ?_)⟩⟩, by simp [intOf]; omega⟩
      have := H2.out.2.2.2.1 j (SF.chg_mem hh)
      have := HF1.out.size
      omega
    · have HK := hid (show k = l.length by omega)
      go_wp2_with fail
      go_ret2
      obtain ⟨τ, hLay, hSl⟩ := HW.out.sl
      rw [HK.out, List.take_of_length_le (Nat.le_refl _)] at hLay
      exact ⟨f, rfl, hid ⟨⟨τ, HDn.out τ hLay, hSl⟩, HW.out.fr, fun k hk => by have := H2.out.2.2.2.1 k hk; have := HF1.out.size; omega⟩⟩
end Go.Proofs.YtmbkmojekpkfhaaGreatDoor
