/- RankQuantiles, as it is called: the walk. -/
import Derived.Test.YtmbkmojekpkfhaaGreatDoorKQ
import Derived.Deep.Cut
set_option linter.unusedVariables false
set_option linter.unusedSimpArgs false
namespace Go.Proofs.YtmbkmojekpkfhaaGreatDoor
open Go.RowKit

set_option maxRecDepth 100000 in
set_option maxHeartbeats 8000000 in
theorem rankQuantiles_any (u v : Value) (l : List Int) (acts : List AcS) (n parts : Int) (w : World) (hu : Rd w u (ints' l)) (hv : RdAm w v acts) (hg : GW w) : Calls Tryz.prog 6 #[.agg #[u, v], .int .i64 n, .int .i64 parts] w fun e w' => e = .returned (.bool true) ∧ Fr Nil1 w w' := by
  have HAw := hid (fun w' (hf : Fr Nil1 w w') => awake15_any w' (hg.fr hf))
  have HMany := hid (fun (hN : 100 < acts.length) w' (hf : Fr Nil1 w w') => set14_many u acts (hu.new hf) (hv.new hf) hN)
  have HAny := hid (fun (hN : acts.length ≤ 100) w' (hf : Fr Nil1 w w') => (set14_any u acts (hu.new hf) (hv.new hf) hN (hg.fr hf)).mono (fun e w2 hh => show ∃ (s : Nat) (A : Option Addr) (m c : Nat), e = .returned (.tuple #[.pointer (some ⟨s, 0, none⟩), .slice A m c]) ∧ ∃ ks, Hid (MdS w' w'.heap.size s u v 300 ks (.slice A m c) w2 ∧ m = ks.length) from by
    obtain ⟨s, vk, he, ks, h⟩ := hh
    obtain ⟨A, c, e2, _⟩ := h.out.row.rd (by have := h.out.len; omega)
    rw [ints'_length] at e2
    subst e2
    exact ⟨s, A, ks.length, c, he, ks, hid ⟨h.out, rfl⟩⟩))
  obtain ⟨A, c, rfl, _, _⟩ := hu
  obtain ⟨B, d, rfl, _, _⟩ := hv
  rw [ints'_length] at HMany HAny ⊢
  have hb := Has.new w [.slice A l.length c, .slice B acts.length d] 52
  have HBx := hid hb
  have c0 := hb.cell 0
  have c1 := hb.cell 1
  have HF := hid (show Fr Nil1 w (w.alloc (.cells #[.slice A l.length c, .slice B acts.length d] 52)) from (Fr.refl _ _).alloc _)
  clear hb hg
  by_cases hN : 100 < acts.length
  · have hI : (100 : Int) < (acts.length : Int) := by omega
    have HM := hid (HMany.out hN _ HF.out)
    clear hN HMany HAny
    go_enter Tryz.func6, Tryz.ntmps6
    go_wp2_with (first
      | (go_at_call 27; (with_reducible refine (HAw.out w1 (HF.out.trans HF1.out)).mono ?_); rintro e w2 ⟨rfl, h2⟩; have HF2 := hid h2; clear h2)
      | (go_at_call 26; (with_reducible refine HM.out.mono ?_); rintro e w1 ⟨rfl, h1⟩; have HF1 := hid h1; have k0 := (HBx.out.fr' h1 id).cell 0; have k1 := (HBx.out.fr' h1 id).cell 1; clear h1))
    go_ret
    exact ⟨rfl, (HF.out.trans HF1.out).trans HF2.out⟩
  · have HM := hid (HAny.out (by omega) _ HF.out)
    clear hN HMany HAny
    go_enter Tryz.func6, Tryz.ntmps6
    go_upto_region 7 with (first
      | (go_at_call 28; (with_reducible refine (rankOf_rk H2.out.1.set.ss).mono ?_); rintro e w3 ⟨X, rfl, σ, h, H3⟩; have HRd := hid ((H2.out.1.row.new H3.out.2.1).rd (by have := H2.out.1.len; omega)))
      | (go_at_call 26; (with_reducible refine HM.out.mono ?_); rintro e w2 ⟨s, A2, m, c2, rfl, ks, H2⟩))
    have HF3 := hid ((HF.out.trans H2.out.1.set.ss.fr).trans H3.out.2.1)
    have hm := H2.out.2
    subst hm
    have HQ := hid (H3.out.1.quantile n parts)
    have HRq := hid (ref15Quantile_any ks (by have := H2.out.1.len; omega) n parts HRd.out)
    obtain ⟨z, hz⟩ : ∃ z, quanV ks n parts = z := ⟨_, rfl⟩
    rw [hz] at HQ HRq
    obtain ⟨z1, z2⟩ := z
    clear hz
    have HLn := hid H2.out.1.len
    by_cases he : ks = []
    · have HMd := hid (H3.out.1.medianNone he)
      have hl0 : ks.length = 0 := by rw [he]; rfl
      clear he
      rw [hl0] at HRq ⊢
      go_wp2_with (first
        | (go_at_call 27; (with_reducible refine (HAw.out w3 HF3.out).mono ?_); rintro e w10 ⟨rfl, h10⟩; have HF10 := hid h10; clear h10)
        | (go_at_call 34; (with_reducible refine HMd.out.mono ?_); rintro e w5 ⟨rfl, rfl⟩)
        | (go_at_call 35; (with_reducible refine HQ.out.mono ?_); rintro e w5 ⟨rfl, rfl⟩)
        | (go_at_call 36; (with_reducible refine HRq.out.mono ?_); rintro e w5 ⟨rfl, rfl⟩))
      go_ret
      exact ⟨rfl, HF3.out.trans HF10.out⟩
    · have HMd := hid (H3.out.1.median he)
      have hpos : 0 < ks.length := List.length_pos_iff.2 he
      obtain ⟨A5, c5, e5, _, hA5⟩ := HRd.out
      rw [ints'_length] at e5 hA5
      injection e5 with e6 e7 e8
      subst e6
      subst e8
      obtain ⟨ad, rfl, hc⟩ := hA5 hpos
      obtain ⟨i, hi⟩ : ∃ i, (ks.length - 1) / 2 = i := ⟨_, rfl⟩
      have hil : i < ks.length := by omega
      have d1 := hc i _ (ints'_get ks i hil)
      have HdA := hid (fun wz (hf : Fr Nil1 w3 wz) => hf.cell d1 id)
      rw [hi] at HMd
      obtain ⟨N, hN⟩ : ∃ N, ks.length = N := ⟨_, rfl⟩
      rw [hN] at HRq hpos hil hi ⊢
      have hNb : (N : Int) ≤ 300 := by have := HLn.out; omega
      have e1 : IntKind.i64.wrap ((N : Int) - 1) = (N : Int) - 1 := IntWalk.i64_in _ (by omega)
      have e2 : Int.tdiv ((N : Int) - 1) 2 = (i : Int) := by rw [Int.tdiv_eq_ediv_of_nonneg (by omega)]; omega
      have e3 : ((N : Int) - 1) / 2 = (i : Int) := by omega
      have e4 : 0 ≤ (N : Int) - 1 := by omega
      have hi0 : (0 : Int) ≤ (i : Int) := by omega
      have hi1 : (i : Int) < (N : Int) := by omega
      have hNz : ((N : Int) == 0) = false := by rw [beq_eq_false_iff_ne]; omega
      have hNy : N ≠ 0 := by omega
      clear he hA5 hc hpos hil hi hN
      generalize ks.getD i 0 = y at *
      go_wp2_with (first
        | (go_at_call 27; (with_reducible refine (HAw.out w3 HF3.out).mono ?_); rintro e w10 ⟨rfl, h10⟩; have HF10 := hid h10; clear h10)
        | (go_at_call 34; (with_reducible refine HMd.out.mono ?_); rintro e w5 ⟨rfl, rfl⟩)
        | (go_at_call 35; (with_reducible refine HQ.out.mono ?_); rintro e w5 ⟨rfl, rfl⟩)
        | (go_at_call 36; (with_reducible refine HRq.out.mono ?_); rintro e w5 ⟨rfl, rfl⟩))
      go_ret
      exact ⟨rfl, HF3.out.trans HF10.out⟩
end Go.Proofs.YtmbkmojekpkfhaaGreatDoor
