/- RankBack, as it is called: the walk. -/
import Derived.Test.YtmbkmojekpkfhaaGreatDoorHD
import Derived.Test.YtmbkmojekpkfhaaGreatDoorEG
set_option linter.unusedVariables false
set_option linter.unusedSimpArgs false
namespace Go.Proofs.YtmbkmojekpkfhaaGreatDoor
open Go.RowKit

theorem lessC_get {ks : List Int} (H : Up ks) {k : Nat} (hk : k < ks.length) : lessC ks (ks.getD k 0) = k :=
  lessC_uniq H (Nat.le_of_lt hk) (fun i x hi hik => (up_get H hi (get_some hk)).2 hik) (fun i x hi hki => by
    rcases Nat.eq_or_lt_of_le hki with e | e
    · subst e; rw [get_some hk] at hi; cases hi; exact Int.le_refl _
    · exact Int.le_of_lt ((up_get H (get_some hk) hi).2 e))
/-- What a law of rank has in hand: a set, its index, its keys. -/
structure RkS (w0 : World) (s : Nat) (X : IxF) (σ : List (Option Int)) (h : Nat) (ks : List Int) (w : World) : Prop where
  ss : SS w0 s ks w
  ix : IxR w X σ h
  eq : its σ = ks
theorem RkS.new {w0 w w' : World} {s : Nat} {X : IxF} {σ : List (Option Int)} {h : Nat} {ks : List Int} (H : RkS w0 s X σ h ks w) (hf : Fr Nil1 w w') : RkS w0 s X σ h ks w' := ⟨H.ss.new hf, H.ix.new hf, H.eq⟩
section
variable {w0 w : World} {s h : Nat} {X : IxF} {σ : List (Option Int)} {ks : List Int}
theorem RkS.select (H : RkS w0 s X σ h ks w) (N : Nat) (hN : N < ks.length) : Calls Tryz.prog 29 #[.pointer (some ⟨X.x, 0, none⟩), .int .i64 N] w fun e w' => e = .returned (.tuple #[.int .i64 (ks.getD N 0), .int .i64 0]) ∧ w = w' := by
  have := rankSelect_ok H.ix N (by rw [H.eq]; exact hN)
  rwa [H.eq] at this
theorem RkS.selectNone (H : RkS w0 s X σ h ks w) (N : Int) (hN : N < 0 ∨ (ks.length : Int) ≤ N) : Calls Tryz.prog 29 #[.pointer (some ⟨X.x, 0, none⟩), .int .i64 N] w fun e w' => e = .returned (.tuple #[.int .i64 0, .int .i64 14]) ∧ w = w' :=
  rankSelect_none H.ix N (by rw [H.eq]; exact hN)
theorem RkS.rank (H : RkS w0 s X σ h ks w) (key : Int) : Calls Tryz.prog 32 #[.pointer (some ⟨X.x, 0, none⟩), .int .i64 key] w fun e w' => e = .returned (.int .i64 (lessC ks key : Nat)) ∧ Fr Nil1 w w' := by
  have := rankRank_any H.ix key
  rwa [H.eq] at this
end
theorem rankOf_rk {w0 w : World} {s : Nat} {ks : List Int} (H : SS w0 s ks w) : Calls Tryz.prog 28 #[.pointer (some ⟨s, 0, none⟩)] w fun e w' => ∃ (X : IxF), e = .returned (.pointer (some ⟨X.x, 0, none⟩)) ∧ ∃ (σ : List (Option Int)) (h : Nat), Hid (RkS w0 s X σ h ks w' ∧ Fr Nil1 w w' ∧ ∀ k, X.mem k → w.heap.size ≤ k) := by
  refine (rankOf_any H).mono ?_
  rintro e w' ⟨X, rfl, σ, h, h1⟩
  exact ⟨X, rfl, σ, h, hid ⟨⟨H.new h1.out.2.2.1, h1.out.1, h1.out.2.1⟩, h1.out.2.2⟩⟩
set_option maxRecDepth 100000 in
set_option maxHeartbeats 8000000 in
theorem rankBack_any (u v : Value) (l : List Int) (acts : List AcS) (key : Int) (w : World) (hu : Rd w u (ints' l)) (hv : RdAm w v acts) (hg : GW w) : Calls Tryz.prog 9 #[.agg #[u, v], .int .i64 key] w fun e w' => e = .returned (.bool true) ∧ Fr Nil1 w w' := by
  have HAw := hid (fun w' (hf : Fr Nil1 w w') => awake15_any w' (hg.fr hf))
  have HMany := hid (fun (hN : 100 < acts.length) w' (hf : Fr Nil1 w w') => set14_many u acts (hu.new hf) (hv.new hf) hN)
  have HAny := hid (fun (hN : acts.length ≤ 100) w' (hf : Fr Nil1 w w') => set14_any u acts (hu.new hf) (hv.new hf) hN (hg.fr hf))
  obtain ⟨A, c, rfl, _, _⟩ := hu
  obtain ⟨B, d, rfl, _, _⟩ := hv
  rw [ints'_length] at HMany HAny ⊢
  have hb := Has.new w [.slice A l.length c, .slice B acts.length d] 52
  have HBx := hid hb
  have c0 := hb.cell 0
  have c1 := hb.cell 1
  have HF := hid (show Fr Nil1 w (w.alloc (.cells #[.slice A l.length c, .slice B acts.length d] 52)) from (Fr.refl _ _).alloc _)
  clear hb hg
  by_cases hN : 100 < acts.length
  · have hI : (100 : Int) < (acts.length : Int) := by omega
    have HM := hid (HMany.out hN _ HF.out)
    clear hN HMany HAny
    go_enter Tryz.func9, Tryz.ntmps9
    go_wp2_with (first
      | (go_at_call 27; (with_reducible refine (HAw.out w1 (HF.out.trans HF1.out)).mono ?_); rintro e w2 ⟨rfl, h2⟩; have HF2 := hid h2; clear h2)
      | (go_at_call 26; (with_reducible refine HM.out.mono ?_); rintro e w1 ⟨rfl, h1⟩; have HF1 := hid h1; have k0 := (HBx.out.fr' h1 id).cell 0; have k1 := (HBx.out.fr' h1 id).cell 1; clear h1))
    go_ret
    exact ⟨rfl, (HF.out.trans HF1.out).trans HF2.out⟩
  · have HM := hid (HAny.out (by omega) _ HF.out)
    clear hN HMany HAny
    go_enter Tryz.func9, Tryz.ntmps9
    go_wp2_with (first
      | (go_at_call 37; (with_reducible refine H3.out.1.ss.keys.mono ?_); rintro e w4 ⟨A4, c4, rfl, H4⟩)
      | (go_at_call 28; (with_reducible refine (rankOf_rk H2.out.set.ss).mono ?_); rintro e w3 ⟨X, rfl, σ, h, H3⟩)
      | (go_at_call 26; (with_reducible refine HM.out.mono ?_); rintro e w2 ⟨s, vk, rfl, ks, H2⟩))
    have HR4 := hid (H3.out.1.new H4.out.2)
    have HLn := hid H2.out.len
    have HF4 := hid (((HF.out.trans H2.out.set.ss.fr).trans H3.out.2.1).trans H4.out.2)
    have HRd := hid H4.out.1
    clear H4 H3 H2 HM
    go_loopw [4, 9, 10, 11] (fun r i _ _ wr => ∃ k : Nat, k ≤ ks.length ∧ r = .bool false ∧ i = .int .i64 k ∧ Hid (Fr Nil1 w4 wr)) (fun _ i _ _ _ => (ks.length - intOf i).toNat)
    case atStart => exact ⟨0, by omega, rfl, rfl, hid (Fr.refl _ _)⟩
    case round =>
      obtain ⟨k, hk, rfl, rfl, HW⟩ := hrel
      have HR := hid (HR4.out.new HW.out)
      obtain ⟨A5, c5, e5, _, hA5⟩ := HRd.out.new HW.out
      rw [ints'_length] at e5 hA5
      injection e5 with e6 e7 e8
      subst e6
      subst e8
      have HA5 := hid hA5
      clear hA5
      by_cases hlt : k < ks.length
      · have hltI : (k : Int) < ks.length := by omega
        have hk0 : (0 : Int) ≤ k := by omega
        have hkb : (k : Int) < 300 := by have := HLn.out; omega
        obtain ⟨ad, rfl, hc⟩ := HA5.out (by omega)
        have d1 := hc k _ (ints'_get ks k hlt)
        have HSel := hid (HR.out.select k hlt)
        have hrk := HR.out.rank (ks.getD k 0)
        rw [lessC_get HR.out.ss.up hlt] at hrk
        have HRk := hid hrk
        have HK := hid (And.intro hk hlt)
        clear hc hrk hk hlt
        generalize ks.getD k 0 = x at *
        go_wp2_with (first
          | (go_at_call 32; (with_reducible refine HRk.out.mono ?_); rintro e w6 ⟨rfl, h6⟩; have HF6 := hid h6; clear h6)
          | (go_at_call 29; (with_reducible refine HSel.out.mono ?_); rintro e w5 ⟨rfl, rfl⟩))
        exact ⟨⟨k + 1, by have := HK.out; omega, rfl, by go_num, hid (HW.out.trans HF6.out)⟩, by have := HK.out; simp [intOf]; omega⟩
      · have hltI : ¬ (k : Int) < ks.length := by omega
        have HS1 := hid (HR.out.selectNone ks.length (.inr (Int.le_refl _)))
        have HS2 := hid (HR.out.selectNone (-1) (.inl (by omega)))
        have HLen := hid HR.out.ss.len
        have HRk := hid (HR.out.rank key)
        have hml := lessC_le ks key
        have HHas := hid (fun w' (hf : Fr Nil1 wr w') => (HR.out.ss.new hf).has key)
        have hup := HR.out.ss.up
        clear hk hlt
        by_cases hm : lessC ks key < ks.length
        · have hy := lessC_at (get_some hm)
          have hmem : decide (key ∈ ks) = (ks.getD (lessC ks key) 0 == key) := by
            by_cases e : ks.getD (lessC ks key) 0 = key
            · rw [e, beq_self_eq_true]
              exact decide_eq_true ((mem_lessC hup).2 (by rw [get_some hm, e]))
            · rw [beq_false_of_ne e]
              exact decide_eq_false (fun g => e (by have := (mem_lessC hup).1 g; rw [get_some hm] at this; exact Option.some.inj this))
          have HS3 := hid (fun w' (hf : Fr Nil1 wr w') => (HR.out.new hf).select (lessC ks key) hm)
          have hmI : ((lessC ks key : Nat) : Int) ≤ ks.length := by omega
          have hmD : decide ((ks.length : Int) < ((lessC ks key : Nat) : Int)) = false := decide_eq_false (by omega)
          have hyd : decide (ks.getD (lessC ks key) 0 < key) = false := decide_eq_false (by omega)
          rw [hmem] at HHas
          clear hy hmem
          generalize hyy : ks.getD (lessC ks key) 0 = y at *
          clear hyy hm
          by_cases hm0 : lessC ks key = 0
          · have hm0' := hid hm0
            rw [hm0] at HRk HS3
            rw [show ((0 : Nat) : Int) = 0 from rfl] at HRk HS3
            clear hm0
            go_wp2_with (first
              | (go_at_call 27; (with_reducible refine (HAw.out w9 ((HF4.out.trans HW.out).trans HF9.out)).mono ?_); rintro e w10 ⟨rfl, h10⟩; have HF10 := hid h10; clear h10)
              | (go_at_call 41; (with_reducible refine (HHas.out w8 HF8.out).mono ?_); rintro e w9 ⟨rfl, h9⟩; have HF9 := hid (HF8.out.trans h9); clear h9)
              | (go_at_call 29; (with_reducible refine (HS3.out w8 HF8.out).mono ?_); rintro e w11 ⟨rfl, rfl⟩)
              | (go_at_call 29; (with_reducible refine HS1.out.mono ?_); rintro e w12 ⟨rfl, rfl⟩)
              | (go_at_call 29; (with_reducible refine HS2.out.mono ?_); rintro e w13 ⟨rfl, rfl⟩)
              | (go_at_call 32; (with_reducible refine HRk.out.mono ?_); rintro e w8 ⟨rfl, h8⟩; have HF8 := hid h8; clear h8)
              | (go_at_call 40; (with_reducible refine HLen.out.mono ?_); rintro e w14 ⟨rfl, rfl⟩))
            go_ret
            exact ⟨rfl, (HF4.out.trans HW.out).trans (HF9.out.trans HF10.out)⟩
          · obtain ⟨i, hi⟩ : ∃ i, lessC ks key = i + 1 := ⟨lessC ks key - 1, by omega⟩
            have hil : i < ks.length := by omega
            obtain ⟨ad, rfl, hc⟩ := HA5.out (by omega)
            have d1 := hc i _ (ints'_get ks i hil)
            have hz := lessC_lt (get_some hil) (show i < lessC ks key by omega)
            have HCe := hid (fun wz (hf : Fr Nil1 wr wz) => hf.cell d1 (by exact id))
            obtain ⟨M, hM⟩ : ∃ M : Int, ((lessC ks key : Nat) : Int) = M := ⟨_, rfl⟩
            have hMz : (M == 0) = false := by rw [beq_eq_false_iff_ne]; omega
            have hM0 : ¬ M < 0 := by omega
            have hM1 : decide (M < 0) = false := decide_eq_false hM0
            have hM2 : decide ((ks.length : Int) < M) = false := decide_eq_false (by omega)
            have hMb : M ≤ 300 := by have := HLn.out; omega
            have hw1 : IntKind.i64.wrap (M - 1) = (i : Int) := by rw [show M - 1 = (i : Int) by omega]; exact IntWalk.i64_in _ (by have := HLn.out; omega)
            have hi0 : (0 : Int) ≤ (i : Int) := by omega
            have hi1 : (i : Int) < ks.length := by omega
            have hzd : decide (ks.getD i 0 < key) = true := decide_eq_true hz
            rw [hM] at HRk HS3
            clear hc d1 hz hM hi hil hm0
            generalize ks.getD i 0 = z at *
            go_wp2_with (first
              | (go_at_call 27; (with_reducible refine (HAw.out w9 ((HF4.out.trans HW.out).trans HF9.out)).mono ?_); rintro e w10 ⟨rfl, h10⟩; have HF10 := hid h10; clear h10)
              | (go_at_call 41; (with_reducible refine (HHas.out w8 HF8.out).mono ?_); rintro e w9 ⟨rfl, h9⟩; have HF9 := hid (HF8.out.trans h9); clear h9 ; have d2 := HCe.out w9 HF9.out)
              | (go_at_call 29; (with_reducible refine (HS3.out w8 HF8.out).mono ?_); rintro e w11 ⟨rfl, rfl⟩)
              | (go_at_call 29; (with_reducible refine HS1.out.mono ?_); rintro e w12 ⟨rfl, rfl⟩)
              | (go_at_call 29; (with_reducible refine HS2.out.mono ?_); rintro e w13 ⟨rfl, rfl⟩)
              | (go_at_call 32; (with_reducible refine HRk.out.mono ?_); rintro e w8 ⟨rfl, h8⟩; have HF8 := hid h8; clear h8)
              | (go_at_call 40; (with_reducible refine HLen.out.mono ?_); rintro e w14 ⟨rfl, rfl⟩))
            go_ret
            exact ⟨rfl, (HF4.out.trans HW.out).trans (HF9.out.trans HF10.out)⟩
        · have hmem : decide (key ∈ ks) = false := decide_eq_false (not_mem_of_less hup (by omega))
          have HS3 := hid (fun w' (hf : Fr Nil1 wr w') => (HR.out.new hf).selectNone (lessC ks key : Nat) (.inr (by omega)))
          have hmI : ((lessC ks key : Nat) : Int) ≤ ks.length := by omega
          have hmD : decide ((ks.length : Int) < ((lessC ks key : Nat) : Int)) = false := decide_eq_false (by omega)
          rw [hmem] at HHas
          clear hmem
          by_cases hm0 : lessC ks key = 0
          · have hm0' := hid hm0
            rw [hm0] at HRk HS3
            rw [show ((0 : Nat) : Int) = 0 from rfl] at HRk HS3
            clear hm0
            go_wp2_with (first
              | (go_at_call 27; (with_reducible refine (HAw.out w9 ((HF4.out.trans HW.out).trans HF9.out)).mono ?_); rintro e w10 ⟨rfl, h10⟩; have HF10 := hid h10; clear h10)
              | (go_at_call 41; (with_reducible refine (HHas.out w8 HF8.out).mono ?_); rintro e w9 ⟨rfl, h9⟩; have HF9 := hid (HF8.out.trans h9); clear h9)
              | (go_at_call 29; (with_reducible refine (HS3.out w8 HF8.out).mono ?_); rintro e w11 ⟨rfl, rfl⟩)
              | (go_at_call 29; (with_reducible refine HS1.out.mono ?_); rintro e w12 ⟨rfl, rfl⟩)
              | (go_at_call 29; (with_reducible refine HS2.out.mono ?_); rintro e w13 ⟨rfl, rfl⟩)
              | (go_at_call 32; (with_reducible refine HRk.out.mono ?_); rintro e w8 ⟨rfl, h8⟩; have HF8 := hid h8; clear h8)
              | (go_at_call 40; (with_reducible refine HLen.out.mono ?_); rintro e w14 ⟨rfl, rfl⟩))
            go_ret
            exact ⟨rfl, (HF4.out.trans HW.out).trans (HF9.out.trans HF10.out)⟩
          · obtain ⟨i, hi⟩ : ∃ i, lessC ks key = i + 1 := ⟨lessC ks key - 1, by omega⟩
            have hil : i < ks.length := by omega
            obtain ⟨ad, rfl, hc⟩ := HA5.out (by omega)
            have d1 := hc i _ (ints'_get ks i hil)
            have hz := lessC_lt (get_some hil) (show i < lessC ks key by omega)
            have HCe := hid (fun wz (hf : Fr Nil1 wr wz) => hf.cell d1 (by exact id))
            obtain ⟨M, hM⟩ : ∃ M : Int, ((lessC ks key : Nat) : Int) = M := ⟨_, rfl⟩
            have hMz : (M == 0) = false := by rw [beq_eq_false_iff_ne]; omega
            have hM0 : ¬ M < 0 := by omega
            have hM1 : decide (M < 0) = false := decide_eq_false hM0
            have hM2 : decide ((ks.length : Int) < M) = false := decide_eq_false (by omega)
            have hMb : M ≤ 300 := by have := HLn.out; omega
            have hw1 : IntKind.i64.wrap (M - 1) = (i : Int) := by rw [show M - 1 = (i : Int) by omega]; exact IntWalk.i64_in _ (by have := HLn.out; omega)
            have hi0 : (0 : Int) ≤ (i : Int) := by omega
            have hi1 : (i : Int) < ks.length := by omega
            have hzd : decide (ks.getD i 0 < key) = true := decide_eq_true hz
            rw [hM] at HRk HS3
            clear hc d1 hz hM hi hil hm0
            generalize ks.getD i 0 = z at *
            go_wp2_with (first
              | (go_at_call 27; (with_reducible refine (HAw.out w9 ((HF4.out.trans HW.out).trans HF9.out)).mono ?_); rintro e w10 ⟨rfl, h10⟩; have HF10 := hid h10; clear h10)
              | (go_at_call 41; (with_reducible refine (HHas.out w8 HF8.out).mono ?_); rintro e w9 ⟨rfl, h9⟩; have HF9 := hid (HF8.out.trans h9); clear h9 ; have d2 := HCe.out w9 HF9.out)
              | (go_at_call 29; (with_reducible refine (HS3.out w8 HF8.out).mono ?_); rintro e w11 ⟨rfl, rfl⟩)
              | (go_at_call 29; (with_reducible refine HS1.out.mono ?_); rintro e w12 ⟨rfl, rfl⟩)
              | (go_at_call 29; (with_reducible refine HS2.out.mono ?_); rintro e w13 ⟨rfl, rfl⟩)
              | (go_at_call 32; (with_reducible refine HRk.out.mono ?_); rintro e w8 ⟨rfl, h8⟩; have HF8 := hid h8; clear h8)
              | (go_at_call 40; (with_reducible refine HLen.out.mono ?_); rintro e w14 ⟨rfl, rfl⟩))
            go_ret
            exact ⟨rfl, (HF4.out.trans HW.out).trans (HF9.out.trans HF10.out)⟩
end Go.Proofs.YtmbkmojekpkfhaaGreatDoor
