/- RankStays, as it is called: the walk. -/
import Derived.Test.YtmbkmojekpkfhaaGreatDoorKQ
import Derived.Deep.Cut
set_option linter.unusedVariables false
set_option linter.unusedSimpArgs false
namespace Go.Proofs.YtmbkmojekpkfhaaGreatDoor
open Go.RowKit

section
variable {w0 w w' : World} {s : Nat} {ks : List Int} {B : Nat → Prop}
theorem SSP.insertF (H : SSP w0 s ks B w) (hT : ks.length < 2560) (key : Int) :
    Calls Tryz.prog 39 #[.pointer (some ⟨s, 0, none⟩), .int .i64 key] w fun e w' => ∃ (S : St) (er : Int), e = .returned (.tuple #[.agg #[.int .i64 S.k, .int .i64 S.f, .int .i64 S.s, .int .i64 S.c], .int .i64 er]) ∧ Hid (SSP w0 s (putA ks key) B w' ∧ ∃ T, Fr T w w' ∧ ∀ b, B b → ¬ T b) := by
  obtain ⟨p, F, σ, h, evs, a, rfl, nb⟩ := H.ex
  refine (setInsert_any a (Nat.le_of_lt hT) key).mono ?_
  rintro e w' ⟨S, er, rfl, H2⟩
  obtain ⟨F', σ', h', evs', hS, hQ, hm, hf⟩ := H2.out
  have hq : InsK (its σ) key S er (its σ') := by
    cases hQ with
    | ok bh seg next v ev hm hl hb hs hc he k =>
      obtain ⟨_, _, _, _, _, hst, _⟩ := k.step
      exact .ok hm hl (stepO_kind hst) he (by rw [k.items]; exact putK_at hc)
    | there hm he hS hσ hh => exact .there hm hS he (by rw [hσ])
    | full hm hT he hS hσ hh => exact .full hm hT hS he (by rw [hσ])
  obtain ⟨_, q2⟩ := hq.put hT
  refine ⟨S, er, rfl, hid ⟨⟨⟨p, F', σ', h', evs', hS, q2, fun b hb hk => ?_⟩, fun b hb => by have := H.lt b hb; have := hf.size; omega⟩, F.mem, hf, fun b hb g => nb b hb (.inl g)⟩⟩
  rcases hk with g | g
  · rcases hm b g with g | g
    · exact nb b hb (.inl g)
    · have := H.lt b hb; omega
  · exact nb b hb (.inr g)
theorem SSP.deleteF (H : SSP w0 s ks B w) (hT : ks.length ≤ 2560) (key : Int) :
    Calls Tryz.prog 38 #[.pointer (some ⟨s, 0, none⟩), .int .i64 key] w fun e w' => ∃ (S : St) (er : Int), e = .returned (.tuple #[.agg #[.int .i64 S.k, .int .i64 S.f, .int .i64 S.s, .int .i64 S.c], .int .i64 er]) ∧ Hid (SSP w0 s (delA ks key) B w' ∧ ∃ T, Fr T w w' ∧ ∀ b, B b → ¬ T b) := by
  obtain ⟨p, F, σ, h, evs, a, rfl, nb⟩ := H.ex
  refine (setDelete_any a hT key).mono ?_
  rintro e w' ⟨S, er, rfl, H2⟩
  obtain ⟨F', σ', h', evs', hS, hQ, hm, hf⟩ := H2.out
  have hq : DelK (its σ) key S er (its σ') := by
    cases hQ with
    | ok j ev hx hc he k =>
      obtain ⟨_, _, _, _, _, hst, _⟩ := k.step
      exact .ok (mem_its.2 ⟨j, hx⟩) (stepO_kind hst) he (by rw [k.items]; exact delK_at hc)
    | none hm he hS hσ hh => exact .none hm hS he (by rw [hσ])
  obtain ⟨_, q2⟩ := hq.del
  refine ⟨S, er, rfl, hid ⟨⟨⟨p, F', σ', h', evs', hS, q2, fun b hb hk => ?_⟩, fun b hb => by have := H.lt b hb; have := hf.size; omega⟩, F.mem, hf, fun b hb g => nb b hb (.inl g)⟩⟩
  rcases hk with g | g
  · rcases hm b g with g | g
    · exact nb b hb (.inl g)
    · have := H.lt b hb; omega
  · exact nb b hb (.inr g)
end
/-- The index, and the keys, stay while the set is turned. -/
structure StW (w0 : World) (s : Nat) (X : IxF) (σ : List (Option Int)) (h : Nat) (ks : List Int) (vk : Value) (n : Nat) (w : World) : Prop where
  ex : ∃ kz, SSP w0 s kz (fun b => X.mem b ∨ vk.ownBlock = some b) w ∧ kz.length ≤ n
  ix : IxR w X σ h
  eq : its σ = ks
  row : RowI w w0.heap.size vk ks
  fr : Fr Nil1 w0 w
theorem StW.turn {w0 w w' : World} {s : Nat} {X : IxF} {σ : List (Option Int)} {h n : Nat} {ks kz : List Int} {vk : Value} (H : StW w0 s X σ h ks vk n w) (h1 : SSP w0 s kz (fun b => X.mem b ∨ vk.ownBlock = some b) w') (h2 : ∃ T, Fr T w w' ∧ ∀ b, (X.mem b ∨ vk.ownBlock = some b) → ¬ T b) (hl : kz.length ≤ n + 1) : StW w0 s X σ h ks vk (n + 1) w' := by
  obtain ⟨T, hT, hB⟩ := h2
  exact ⟨⟨kz, h1, hl⟩, H.ix.fr hT (fun k hk => hB k (.inl hk)), H.eq, H.row.frO hT (fun g hg => hB g (.inr hg)), h1.ss.fr⟩
theorem StW.new {w0 w w' : World} {s : Nat} {X : IxF} {σ : List (Option Int)} {h n : Nat} {ks : List Int} {vk : Value} (H : StW w0 s X σ h ks vk n w) (hf : Fr Nil1 w w') : StW w0 s X σ h ks vk n w' := by
  obtain ⟨kz, h1, h2⟩ := H.ex
  exact ⟨⟨kz, h1.new hf, h2⟩, H.ix.new hf, H.eq, H.row.new hf, H.fr.trans hf⟩
theorem StW.select {w0 w : World} {s : Nat} {X : IxF} {σ : List (Option Int)} {h n : Nat} {ks : List Int} {vk : Value} (H : StW w0 s X σ h ks vk n w) (N : Nat) (hN : N < ks.length) : Calls Tryz.prog 29 #[.pointer (some ⟨X.x, 0, none⟩), .int .i64 N] w fun e w' => e = .returned (.tuple #[.int .i64 (ks.getD N 0), .int .i64 0]) ∧ w = w' := by
  have := rankSelect_ok H.ix N (by rw [H.eq]; exact hN)
  rwa [H.eq] at this
theorem StW.rank {w0 w : World} {s : Nat} {X : IxF} {σ : List (Option Int)} {h n : Nat} {ks : List Int} {vk : Value} (H : StW w0 s X σ h ks vk n w) (key : Int) : Calls Tryz.prog 32 #[.pointer (some ⟨X.x, 0, none⟩), .int .i64 key] w fun e w' => e = .returned (.int .i64 (lessC ks key : Nat)) ∧ Fr Nil1 w w' := by
  have := rankRank_any H.ix key
  rwa [H.eq] at this
theorem lessC_max {ks : List Int} (H : Up ks) {M : Int} (hr : ∀ x ∈ ks, x ≤ M) : ks.length ≤ lessC ks M + 1 := by
  rcases Nat.lt_or_ge (lessC ks M + 1) ks.length with g | g
  · exfalso
    have h1 := lessC_at (get_some (show lessC ks M < ks.length by omega))
    have h2 := (up_get H (get_some (show lessC ks M < ks.length by omega)) (get_some g)).2 (by omega)
    have h3 := hr _ (List.mem_of_getElem? (get_some g))
    omega
  · exact g
set_option maxRecDepth 100000 in
set_option maxHeartbeats 8000000 in
theorem rankStays_any (u v z : Value) (l : List Int) (acts more : List AcS) (w : World) (hu : Rd w u (ints' l)) (hv : RdAm w v acts) (hz : RdAm w z more) (hg : GW w) : Calls Tryz.prog 8 #[.agg #[u, v], z] w fun e w' => e = .returned (.bool true) ∧ Fr Nil1 w w' := by
  have HAw := hid (fun w' (hf : Fr Nil1 w w') => awake15_any w' (hg.fr hf))
  have HMany := hid (fun (hN : 100 < acts.length) w' (hf : Fr Nil1 w w') => set14_many u acts (hu.new hf) (hv.new hf) hN)
  have HAny := hid (fun (hN : acts.length ≤ 100) w' (hf : Fr Nil1 w w') => set14_any u acts (hu.new hf) (hv.new hf) hN (hg.fr hf))
  have HZ := hid hz
  obtain ⟨A, c, rfl, _, _⟩ := hu
  obtain ⟨B, d, rfl, _, _⟩ := hv
  obtain ⟨C, e0, rfl, _, _⟩ := hz
  rw [ints'_length] at HMany HAny ⊢
  have hb := Has.new w [.slice A l.length c, .slice B acts.length d] 52
  have HBx := hid hb
  have c0 := hb.cell 0
  have c1 := hb.cell 1
  have HF := hid (show Fr Nil1 w (w.alloc (.cells #[.slice A l.length c, .slice B acts.length d] 52)) from (Fr.refl _ _).alloc _)
  clear hb hg
  have HOfN := hid (fun w => rankOf_nil w)
  have HSelN := hid (fun N w => rankSelect_nil N w)
  have HMedN := hid (fun w => rankMedian_nil w)
  have HQuN := hid (fun n p w => rankQuantile_nil n p w)
  have HRkN := hid (fun key w => rankRank_nil key w)
  have HBtN := hid (fun lo hi w => rankBetween_nil lo hi w)
  by_cases hN : 100 < acts.length
  · have hI : (100 : Int) < (acts.length : Int) := by omega
    have HM := hid (HMany.out hN _ HF.out)
    clear hN HMany HAny
    go_enter Tryz.func8, Tryz.ntmps8
    go_wp2_with (first
      | (go_at_call 29; (with_reducible refine (HSelN.out _ _).mono ?_); rintro e w5 ⟨rfl, rfl⟩)
      | (go_at_call 34; (with_reducible refine (HMedN.out _).mono ?_); rintro e w5 ⟨rfl, rfl⟩)
      | (go_at_call 35; (with_reducible refine (HQuN.out _ _ _).mono ?_); rintro e w5 ⟨rfl, rfl⟩)
      | (go_at_call 32; (with_reducible refine (HRkN.out _ _).mono ?_); rintro e w5 ⟨rfl, rfl⟩)
      | (go_at_call 33; (with_reducible refine (HBtN.out _ _ _).mono ?_); rintro e w5 ⟨rfl, rfl⟩)
      | (go_at_call 28; (with_reducible refine (HOfN.out _).mono ?_); rintro e w5 ⟨rfl, rfl⟩)
      | (go_at_call 27; (with_reducible refine (HAw.out w1 (HF.out.trans HF1.out)).mono ?_); rintro e w2 ⟨rfl, h2⟩; have HF2 := hid h2; clear h2)
      | (go_at_call 26; (with_reducible refine HM.out.mono ?_); rintro e w1 ⟨rfl, h1⟩; have HF1 := hid h1; have k0 := (HBx.out.fr' h1 id).cell 0; have k1 := (HBx.out.fr' h1 id).cell 1; clear h1))
    go_ret
    exact ⟨rfl, (HF.out.trans HF1.out).trans HF2.out⟩
  · have HM := hid (HAny.out (by omega) _ HF.out)
    have hI : ¬ (100 : Int) < (acts.length : Int) := by omega
    clear hN HMany HAny
    by_cases h40 : 40 < more.length
    · have hJ : (40 : Int) < (more.length : Int) := by omega
      clear h40
      go_enter Tryz.func8, Tryz.ntmps8
      go_wp2_with (first
      | (go_at_call 29; (with_reducible refine (HSelN.out _ _).mono ?_); rintro e w5 ⟨rfl, rfl⟩)
      | (go_at_call 34; (with_reducible refine (HMedN.out _).mono ?_); rintro e w5 ⟨rfl, rfl⟩)
      | (go_at_call 35; (with_reducible refine (HQuN.out _ _ _).mono ?_); rintro e w5 ⟨rfl, rfl⟩)
      | (go_at_call 32; (with_reducible refine (HRkN.out _ _).mono ?_); rintro e w5 ⟨rfl, rfl⟩)
      | (go_at_call 33; (with_reducible refine (HBtN.out _ _ _).mono ?_); rintro e w5 ⟨rfl, rfl⟩)
      | (go_at_call 28; (with_reducible refine (HOfN.out _).mono ?_); rintro e w5 ⟨rfl, rfl⟩)
      | (go_at_call 27; (with_reducible refine (HAw.out w1 (HF.out.trans HF1.out)).mono ?_); rintro e w2 ⟨rfl, h2⟩; have HF2 := hid h2; clear h2)
      | (go_at_call 26; (with_reducible refine HM.out.mono ?_); rintro e w1 ⟨s, vk0, rfl, ks, H2⟩; have HF1 := hid H2.out.set.ss.fr; have k0 := (HBx.out.fr' HF1.out id).cell 0; have k1 := (HBx.out.fr' HF1.out id).cell 1))
      go_ret
      exact ⟨rfl, (HF.out.trans HF1.out).trans HF2.out⟩
    · have hJ : ¬ (40 : Int) < (more.length : Int) := by omega
      have H40 := hid h40
      clear h40
      go_enter Tryz.func8, Tryz.ntmps8
      go_wp2_with (first
      | (go_at_call 37; (with_reducible refine HKs.out.mono ?_); rintro e w4 ⟨A4, m4, c4, rfl, H4⟩)
      | (go_at_call 28; (with_reducible refine (rankOf_rk H2.out.set.ss).mono ?_); rintro e w3 ⟨X, rfl, σ, h, H3⟩; have HKs := hid (H3.out.1.ss.keysR.mono (fun e w4 hh => show ∃ (A4 : Option Addr) (m4 c4 : Nat), e = .returned (.slice A4 m4 c4) ∧ Hid (RowI w4 w3.heap.size (.slice A4 m4 c4) ks ∧ Fr Nil1 w3 w4 ∧ m4 = ks.length) from by
          obtain ⟨v, he, h⟩ := hh
          obtain ⟨A4, c4, e2, _⟩ := h.out.1.rd (by have := H2.out.len; omega)
          rw [ints'_length] at e2
          subst e2
          exact ⟨A4, ks.length, c4, he, hid ⟨h.out.1, h.out.2, rfl⟩⟩)))
      | (go_at_call 29; (with_reducible refine (HSelN.out _ _).mono ?_); rintro e w5 ⟨rfl, rfl⟩)
      | (go_at_call 34; (with_reducible refine (HMedN.out _).mono ?_); rintro e w5 ⟨rfl, rfl⟩)
      | (go_at_call 35; (with_reducible refine (HQuN.out _ _ _).mono ?_); rintro e w5 ⟨rfl, rfl⟩)
      | (go_at_call 32; (with_reducible refine (HRkN.out _ _).mono ?_); rintro e w5 ⟨rfl, rfl⟩)
      | (go_at_call 33; (with_reducible refine (HBtN.out _ _ _).mono ?_); rintro e w5 ⟨rfl, rfl⟩)
      | (go_at_call 28; (with_reducible refine (HOfN.out _).mono ?_); rintro e w5 ⟨rfl, rfl⟩)
      | (go_at_call 26; (with_reducible refine HM.out.mono ?_); rintro e w2 ⟨s, vk0, rfl, ks, H2⟩))
      have hm4 := H4.out.2.2
      subst hm4
      have hs3 := H3.out.2.1.size
      have hs4 := H4.out.2.1.size
      have hs2 := H2.out.set.ss.fr.size
      have HSt := hid (show StW (w.alloc (.cells #[.slice A l.length c, .slice B acts.length d] 52)) s X σ h ks (.slice A4 ks.length c4) 300 w4 from
        ⟨⟨ks, H2.out.set.ss.beside.fresh (H3.out.2.1.trans H4.out.2.1) (fun b hb => .inr (by
          rcases hb with g | g
          · have g1 := H3.out.2.2 b g; have g2 := H3.out.1.ix.lt b g; omega
          · have g1 := H4.out.1.own_lt b g; omega)), H2.out.len⟩, H3.out.1.ix.new H4.out.2.1, H3.out.1.eq, H4.out.1.mono (by omega), H3.out.1.ss.fr.trans H4.out.2.1⟩)
      have HUp := hid H2.out.set.ss.up
      have HRg := hid H2.out.rng
      have HLn := hid H2.out.len
      obtain ⟨WB, hWB⟩ : ∃ WB, w.alloc (.cells #[.slice A l.length c, .slice B acts.length d] 52) = WB := ⟨_, rfl⟩
      rw [hWB] at HSt HF
      clear hs2 hs3 hs4 H4 H3 H2 HM c0 c1 HBx hWB
      go_loopw [16] (fun i wr => ∃ k : Nat, k ≤ more.length ∧ i = .int .i64 k ∧ Hid (StW WB s X σ h ks (.slice A4 ks.length c4) (300 + k) wr)) (fun i _ => (more.length - intOf i).toNat)
      case atStart => exact ⟨0, by omega, rfl, HSt⟩
      case round =>
        obtain ⟨k, hk, rfl, HW⟩ := hrel
        by_cases hlt : k < more.length
        · have hltI : (k : Int) < more.length := by omega
          obtain ⟨C2, c7, e7, _, hB7⟩ := HZ.out.new (HF.out.trans HW.out.fr)
          injection e7 with e8 e9 e10
          subst e8
          subst e10
          obtain ⟨b0, o, rfl, hc⟩ := hB7 (by omega)
          obtain ⟨a, ha⟩ : ∃ a, more[k]? = some a := ⟨_, List.getElem?_eq_getElem hlt⟩
          obtain ⟨q0, q1⟩ := hc k a ha
          obtain ⟨goes, key⟩ := a
          obtain ⟨kz, hk1, hk2⟩ := HW.out.ex
          have HKz := hid (And.intro hk1 hk2)
          have HKk := hid (And.intro hlt H40.out)
          have hkb : (k : Int) < 100 := by have := H40.out; omega
          clear hc ha hlt hk1 hk2 hB7
          cases goes with
          | true =>
            have HD := hid (HKz.out.1.deleteF (by have := HKz.out.2; have := HKk.out; omega) key)
            go_wp2_with (go_at_call 38; (with_reducible refine HD.out.mono ?_); rintro e w5 ⟨S, er, rfl, H5⟩)
            exact ⟨⟨k + 1, by have := HKk.out; omega, by go_num, hid (HW.out.turn H5.out.1 H5.out.2 (by have := delA_length HKz.out.1.ss.up key; have := HKz.out.2; omega))⟩, by have := HKk.out; simp [intOf]; omega⟩
          | false =>
            have HD := hid (HKz.out.1.insertF (by have := HKz.out.2; have := HKk.out; omega) key)
            go_wp2_with (go_at_call 39; (with_reducible refine HD.out.mono ?_); rintro e w5 ⟨S, er, rfl, H5⟩)
            exact ⟨⟨k + 1, by have := HKk.out; omega, by go_num, hid (HW.out.turn H5.out.1 H5.out.2 (by have := putA_length kz key; have := HKz.out.2; omega))⟩, by have := HKk.out; simp [intOf]; omega⟩
        · have hltI : ¬ (k : Int) < more.length := by omega
          clear hk hlt
          obtain ⟨WC, hWC⟩ : ∃ WC, WC = wr := ⟨_, rfl⟩
          subst hWC
          go_wp2_with fail
          go_loopw [4, 17, 18, 19] (fun r i _ _ wx => ∃ j : Nat, j ≤ ks.length ∧ r = .bool false ∧ i = .int .i64 j ∧ Hid (Fr Nil1 WC wx)) (fun _ i _ _ _ => (ks.length - intOf i).toNat)
          case atStart => exact ⟨0, by omega, rfl, rfl, hid (Fr.refl _ _)⟩
          case round =>
            obtain ⟨j, hj, rfl, rfl, HX⟩ := hrel
            have HS := hid (HW.out.new HX.out)
            obtain ⟨A5, c5, e5, _, hA5⟩ := HS.out.row.rd (by have := HLn.out; omega)
            rw [ints'_length] at e5 hA5
            injection e5 with e6 e7 e8
            subst e6
            subst e8
            by_cases hlt : j < ks.length
            · have hltI : (j : Int) < ks.length := by omega
              have hj0 : (0 : Int) ≤ j := by omega
              have hjb : (j : Int) < 300 := by have := HLn.out; omega
              obtain ⟨ad, rfl, hc⟩ := hA5 (by omega)
              have d1 := hc j _ (ints'_get ks j hlt)
              have HSel := hid (HS.out.select j hlt)
              have hrk := HS.out.rank (ks.getD j 0)
              rw [lessC_get HUp.out hlt] at hrk
              have HRk := hid hrk
              have HK := hid (And.intro hj hlt)
              clear hc hrk hj hlt hA5
              generalize ks.getD j 0 = x at *
              go_wp2_with (first
                | (go_at_call 32; (with_reducible refine HRk.out.mono ?_); rintro e w6 ⟨rfl, h6⟩; have HF6 := hid h6; clear h6)
                | (go_at_call 29; (with_reducible refine HSel.out.mono ?_); rintro e w5 ⟨rfl, rfl⟩))
              exact ⟨⟨j + 1, by have := HK.out; omega, rfl, by go_num, hid (HX.out.trans HF6.out)⟩, by have := HK.out; simp [intOf]; omega⟩
            · have hltI : ¬ (j : Int) < ks.length := by omega
              have hsn := rankSelect_none HS.out.ix ks.length (.inr (by rw [HS.out.eq]; exact Int.le_refl _))
              have HSn := hid hsn
              have HRk := hid (HS.out.rank 9223372036854775807)
              have hmx := lessC_max HUp.out (M := 9223372036854775807) (fun x hx => (HRg.out x hx).2)
              have hle := lessC_le ks 9223372036854775807
              have hln := HLn.out
              obtain ⟨N, hN⟩ : ∃ N, ks.length = N := ⟨_, rfl⟩
              rw [hN] at HSn hmx hle hln hltI ⊢
              generalize lessC ks 9223372036854775807 = q at *
              have e1 : IntKind.i64.wrap ((N : Int) - 1) = (N : Int) - 1 := IntWalk.i64_in _ (by omega)
              have hd : decide ((N : Int) - 1 ≤ (q : Int)) = true := decide_eq_true (by omega)
              have hd2 : (N : Int) - 1 ≤ (q : Int) := by omega
              have HFA := hid ((HF.out.trans HW.out.fr).trans HX.out)
              clear hmx hle hln hj hlt hA5 hsn hN
              go_wp2_with (first
                | (go_at_call 27; (with_reducible refine (HAw.out w6 (HFA.out.trans HF6.out)).mono ?_); rintro e w7 ⟨rfl, h7⟩; have HF7 := hid h7; clear h7)
                | (go_at_call 32; (with_reducible refine HRk.out.mono ?_); rintro e w6 ⟨rfl, h6⟩; have HF6 := hid h6; clear h6)
                | (go_at_call 29; (with_reducible refine HSn.out.mono ?_); rintro e w5 ⟨rfl, rfl⟩))
              go_ret
              exact ⟨rfl, (HFA.out.trans HF6.out).trans HF7.out⟩
end Go.Proofs.YtmbkmojekpkfhaaGreatDoor
