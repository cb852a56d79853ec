/- SetFull, as it is called: the walk. -/
import Derived.Test.YticlkdjiaoflgaaGreatDoorSL
set_option linter.unusedVariables false
set_option linter.unusedSimpArgs false
namespace Go.Proofs.YticlkdjiaoflgaaGreatDoor
open Go.RowKit

theorem delK_ok {ks ks' : List Int} {key er : Int} {S : St} (H : DelK ks key S er ks') (hm : key ∈ ks) : er = 0 ∧ ks' = delK ks key := by
  cases H with
  | ok _ _ he hl => exact ⟨he, hl⟩
  | none h _ _ _ => exact absurd hm h
theorem insK_there {ks ks' : List Int} {key er : Int} {S : St} (H : InsK ks key S er ks') (hm : key ∈ ks) : er = 15 ∧ ks' = ks := by
  cases H with
  | ok h _ _ _ _ => exact absurd hm h
  | there _ _ he hl => exact ⟨he, hl⟩
  | full h _ _ _ _ => exact absurd hm h
theorem insK_full {ks ks' : List Int} {key er : Int} {S : St} (H : InsK ks key S er ks') (hm : key ∉ ks) (hT : 2560 ≤ ks.length) : er = 16 ∧ ks' = ks := by
  cases H with
  | ok _ h _ _ _ => omega
  | there h _ _ _ => exact absurd h hm
  | full _ _ _ he hl => exact ⟨he, hl⟩
/-- The keys that came: the first n steps from 0. -/
structure Stairs (d : Int) (n : Nat) (ks : List Int) : Prop where
  len : ks.length = n
  mem : ∀ x, x ∈ ks ↔ ∃ j : Nat, 1 ≤ j ∧ j ≤ n ∧ x = d * j
theorem Stairs.start (d : Int) : Stairs d 0 [] := ⟨rfl, fun x => ⟨(fun h => nomatch h), (fun ⟨j, a, b, _⟩ => by omega)⟩⟩
theorem mul_inj {d : Int} (hd : d ≠ 0) {a b : Nat} (h : d * (a : Int) = d * (b : Int)) : a = b := by
  have := Int.eq_of_mul_eq_mul_left hd h
  omega
theorem Stairs.next {d : Int} (hd : d ≠ 0) {n : Nat} {ks : List Int} (H : Stairs d n ks) : d * ((n + 1 : Nat) : Int) ∉ ks := by
  rw [H.mem]
  rintro ⟨j, _, b, e⟩
  have := mul_inj hd e
  omega
theorem Stairs.zero {d : Int} (hd : d ≠ 0) {n : Nat} {ks : List Int} (H : Stairs d n ks) : (0 : Int) ∉ ks := by
  rw [H.mem]
  rintro ⟨j, a, _, e⟩
  have := mul_inj hd (show d * ((0 : Nat) : Int) = d * (j : Int) by rw [← e]; simp)
  omega
theorem Stairs.put {d : Int} {n : Nat} {ks : List Int} (H : Stairs d n ks) : Stairs d (n + 1) (putK ks (d * ((n + 1 : Nat) : Int))) :=
  ⟨by rw [putK_length, H.len], fun x => by
    rw [mem_putK, H.mem]
    constructor
    · rintro (h | ⟨j, a, b, e⟩)
      · exact ⟨n + 1, by omega, by omega, h⟩
      · exact ⟨j, a, by omega, e⟩
    · rintro ⟨j, a, b, e⟩
      by_cases hj : j = n + 1
      · subst hj; exact .inl e
      · exact .inr ⟨j, a, by omega, e⟩⟩
/-- The step of a stair: the key that comes next. -/
theorem stair_step (by' : Int) (fall : Bool) (n : Nat) : (if fall = true then -by' else by') * ((n + 1 : Nat) : Int) = (if fall = true then -by' else by') * (n : Int) + (if fall = true then -by' else by') := by
  rw [show ((n + 1 : Nat) : Int) = (n : Int) + 1 by omega, Int.mul_add, Int.mul_one]
section
variable {w0 w : World} {s : Nat} {ks : List Int}
theorem SS.hasT (H : SS w0 s ks w) {key : Int} (h : key ∈ ks) : Calls Tryz.prog 14 #[.pointer (some ⟨s, 0, none⟩), .int .i64 key] w fun e w' => e = .returned (.bool true) ∧ Fr Nil1 w w' := by
  have := H.has key
  rwa [decide_eq_true h] at this
theorem SS.hasF (H : SS w0 s ks w) {key : Int} (h : key ∉ ks) : Calls Tryz.prog 14 #[.pointer (some ⟨s, 0, none⟩), .int .i64 key] w fun e w' => e = .returned (.bool false) ∧ Fr Nil1 w w' := by
  have := H.has key
  rwa [decide_eq_false h] at this
theorem SS.lenE (H : SS w0 s ks w) {n : Nat} (h : ks.length = n) : Calls Tryz.prog 19 #[.pointer (some ⟨s, 0, none⟩)] w fun e w' => e = .returned (.int .i64 n) ∧ w = w' := by
  have := H.len
  rwa [h] at this
end
set_option maxRecDepth 100000 in
set_option maxHeartbeats 4000000 in
theorem setFull_any (z : Int) (fall : Bool) (w : World) (hg : GW w) : Calls Tryz.prog 5 #[.int .i64 z, .bool fall] w fun e w' => e = .returned (.bool true) ∧ Fr Nil1 w w' := by
  have HAw := hid (fun w' (hf : Fr Nil1 w w') => awake_any w' (hg.fr hf))
  have HN := hid (SS.start w hg)
  have HG := hid hg
  clear hg
  by_cases c1 : z < 1
  · have HA := hid (HAw.out w (Fr.refl _ _))
    have d1 : decide (z < 1) = true := decide_eq_true c1
    clear HN HAw
    go_enter Tryz.func5, Tryz.ntmps5
    go_wp2_with (go_at_call 11; refine HA.out.mono ?_; rintro e w1 ⟨rfl, H1⟩)
    go_ret
    exact ⟨rfl, H1⟩
  by_cases c2 : 1000 < z
  · have HA := hid (HAw.out w (Fr.refl _ _))
    have d1 : decide (z < 1) = false := decide_eq_false c1
    have d2 : decide (1000 < z) = true := decide_eq_true c2
    clear HN HAw
    go_enter Tryz.func5, Tryz.ntmps5
    go_wp2_with (go_at_call 11; refine HA.out.mono ?_; rintro e w1 ⟨rfl, H1⟩)
    go_ret
    exact ⟨rfl, H1⟩
  have d1 : decide (z < 1) = false := decide_eq_false c1
  have d2 : decide (1000 < z) = false := decide_eq_false c2
  have z1 : 1 ≤ z := by omega
  have z2 : z ≤ 1000 := by omega
  obtain ⟨d, hd⟩ : ∃ d : Int, (if fall = true then -z else z) = d := ⟨_, rfl⟩
  have hd0 : d ≠ 0 := by rw [← hd]; split <;> omega
  have hdb : -1000 ≤ d ∧ d ≤ 1000 := by rw [← hd]; split <;> omega
  have HD := hid (And.intro hd (And.intro hd0 hdb))
  clear hd hd0 hdb c1 c2
  go_enter Tryz.func5, Tryz.ntmps5
  go_wp2_with (go_at_call 16; refine HN.out.mono ?_; rintro e w1 ⟨s, rfl, H1⟩)
  go_loopw [6, 7, 8, 9] (fun k i _ _ wr => ∃ (n : Nat) (key : Int) (ks : List Int), n ≤ 2560 ∧ i = .int .i64 n ∧ k = .int .i64 key ∧ -2560000 ≤ key ∧ key ≤ 2560000 ∧ Hid (SS w s ks wr ∧ Stairs d n ks ∧ d * (n : Int) = key)) (fun _ i _ _ _ => (2560 - intOf i).toNat)
  case atStart => exact ⟨0, 0, [], by omega, rfl, rfl, by omega, by omega, hid ⟨H1.out, Stairs.start d, by simp⟩⟩
  case round =>
    obtain ⟨n, key, ks, hn, rfl, rfl, hkb1, hkb2, HW⟩ := hrel
    by_cases hlt : n < 2560
    · have hltI : (n : Int) < 2560 := by omega
      have hb := HD.out.2.2
      have hk := HW.out.2.2
      obtain ⟨key', hk'⟩ : ∃ key, d * ((n + 1 : Nat) : Int) = key := ⟨_, rfl⟩
      have hkk : key' = key + d := by rw [← hk, ← hk', show ((n + 1 : Nat) : Int) = (n : Int) + 1 by omega, Int.mul_add, Int.mul_one]
      have hkb : -2560000 ≤ key' ∧ key' ≤ 2560000 := by
        rw [← hk']
        have h1 : d * ((n + 1 : Nat) : Int) ≤ 1000 * ((n + 1 : Nat) : Int) := Int.mul_le_mul_of_nonneg_right hb.2 (by omega)
        have h2 : -1000 * ((n + 1 : Nat) : Int) ≤ d * ((n + 1 : Nat) : Int) := Int.mul_le_mul_of_nonneg_right hb.1 (by omega)
        omega
      have HKB := hid hkb
      have HI := hid (HW.out.1.insert (by rw [HW.out.2.1.len]; omega) key')
      have HK := hid (And.intro hk' (by have := HW.out.2.1.next HD.out.2.1; rw [hk'] at this; exact this))
      have HDd := hid HD.out.1
      have HLt := hid (show ks.length < 2560 by rw [HW.out.2.1.len]; omega)
      cases fall with
      | true =>
        have e1 : key + z - 2 * z = key' := by have := HDd.out; simp at this; omega
        clear hb hk hk' hkk hkb
        go_wp2_with (go_at_call 18; (with_reducible refine HI.out.mono ?_); rintro e w2 ⟨S, er, ks', rfl, H2⟩; obtain ⟨rfl, rfl⟩ := insK_ok H2.out.2 HK.out.2 HLt.out)
        exact ⟨⟨n + 1, key', _, by omega, by go_num, rfl, HKB.out.1, HKB.out.2, hid ⟨H2.out.1.new ((Fr.refl _ _).alloc _), by rw [← HK.out.1]; exact HW.out.2.1.put, HK.out.1⟩⟩, by simp [intOf]; omega⟩
      | false =>
        have e1 : key + z = key' := by have := HDd.out; simp at this; omega
        clear hb hk hk' hkk hkb
        go_wp2_with (go_at_call 18; (with_reducible refine HI.out.mono ?_); rintro e w2 ⟨S, er, ks', rfl, H2⟩; obtain ⟨rfl, rfl⟩ := insK_ok H2.out.2 HK.out.2 HLt.out)
        exact ⟨⟨n + 1, key', _, by omega, by go_num, rfl, HKB.out.1, HKB.out.2, hid ⟨H2.out.1.new ((Fr.refl _ _).alloc _), by rw [← HK.out.1]; exact HW.out.2.1.put, HK.out.1⟩⟩, by simp [intOf]; omega⟩
    · obtain rfl : n = 2560 := by omega
      have hk := HW.out.2.2
      have HKm : Hid (key ∈ ks) := hid ((HW.out.2.1.mem key).2 ⟨2560, by omega, by omega, hk.symm⟩)
      have HZm := hid (HW.out.2.1.zero HD.out.2.1)
      have HKz : Hid (key ≠ 0) := hid (fun e => by
        have := mul_inj HD.out.2.1 (show d * ((2560 : Nat) : Int) = d * ((0 : Nat) : Int) by rw [hk, e]; simp)
        omega)
      have HLn := hid (show ks.length = 2560 from HW.out.2.1.len)
      have HU := hid HW.out.1.up
      have HDl := hid (show (delK ks key).length = 2559 by have := delK_length HU.out HKm.out; rw [HLn.out] at this; omega)
      have HDz := hid (show (0 : Int) ∉ delK ks key from fun h => HZm.out ((mem_delK HU.out HKm.out).1 h).1)
      have HPl := hid (show (putK (delK ks key) 0).length = 2560 by rw [putK_length, HDl.out])
      have HP0 := hid (show (0 : Int) ∈ putK (delK ks key) 0 from mem_putK.2 (.inl rfl))
      have HPk := hid (show key ∉ putK (delK ks key) 0 from fun h => by
        rcases mem_putK.1 h with h | h
        · exact HKz.out h
        · exact ((mem_delK HU.out HKm.out).1 h).2 rfl)
      have HSS := hid HW.out.1
      clear hk HW HD
      go_wp2_with (first
        | (go_at_call 11; refine (HAw.out _ (H5.out.fr.trans (H6.out.trans H7.out))).mono ?_; rintro e w9 ⟨rfl, H9⟩)
        | (go_at_call 14; (with_reducible refine (SS.hasF (H5.out.new H6.out) HPk.out).mono ?_); rintro e w7 ⟨rfl, h7⟩; have H7 := hid h7; clear h7)
        | (go_at_call 14; (with_reducible refine (SS.hasT H5.out HP0.out).mono ?_); rintro e w6 ⟨rfl, h6⟩; have H6 := hid h6; clear h6)
        | (go_at_call 19; refine (SS.lenE H5.out HPl.out).mono ?_; rintro e w6 ⟨rfl, rfl⟩)
        | (go_at_call 18; (with_reducible refine (SS.insert H4.out (by rw [HDl.out]; omega) 0).mono ?_); rintro e w5 ⟨S5, er, ks5, rfl, h5⟩; obtain ⟨rfl, rfl⟩ := insK_ok h5.out.2 HDz.out (by rw [HDl.out]; omega); have H5 := hid (h5.out.1.new ((Fr.refl _ _).alloc (.cells #[.int .i64 S5.k, .int .i64 S5.f, .int .i64 S5.s, .int .i64 S5.c] 38))); clear h5)
        | (go_at_call 17; (with_reducible refine (SS.delete H3.out (by rw [HLn.out]; omega) key).mono ?_); rintro e w4 ⟨S4, er, ks4, rfl, h4⟩; obtain ⟨rfl, rfl⟩ := delK_ok h4.out.2 HKm.out; have H4 := hid (h4.out.1.new ((Fr.refl _ _).alloc (.cells #[.int .i64 S4.k, .int .i64 S4.f, .int .i64 S4.s, .int .i64 S4.c] 38))); clear h4)
        | (go_at_call 18; (with_reducible refine (SS.insert H2.out (by rw [HLn.out]; omega) key).mono ?_); rintro e w3 ⟨S3, er, ks3, rfl, h3⟩; obtain ⟨rfl, hks3⟩ := insK_there h3.out.2 HKm.out; have H3 := hid (h3.out.1.new ((Fr.refl _ _).alloc (.cells #[.int .i64 S3.k, .int .i64 S3.f, .int .i64 S3.s, .int .i64 S3.c] 38))); rw [hks3] at H3; clear h3 hks3)
        | (go_at_call 18; (with_reducible refine (SS.insert HSS.out (by rw [HLn.out]; omega) 0).mono ?_); rintro e w2 ⟨S2, er, ks2, rfl, h2⟩; obtain ⟨rfl, hks2⟩ := insK_full h2.out.2 HZm.out (by rw [HLn.out]; omega); have H2 := hid (h2.out.1.new ((Fr.refl _ _).alloc (.cells #[.int .i64 S2.k, .int .i64 S2.f, .int .i64 S2.s, .int .i64 S2.c] 38))); rw [hks2] at H2; clear h2 hks2))
      go_ret
      exact ⟨rfl, H5.out.fr.trans (H6.out.trans (H7.out.trans H9))⟩
end Go.Proofs.YticlkdjiaoflgaaGreatDoor
