/- OrderFull, as it is called: the walk. -/
import Derived.Test.YtogjfaiidciedaaGreatDoorOP
set_option linter.unusedVariables false
set_option linter.unusedSimpArgs false
namespace Go.Proofs.YtogjfaiidciedaaGreatDoor
open Go.RowKit Go.Maps

/-- The handles 1 .. n, in whatever order. -/
structure AllTo (l : List Int) (n : Nat) : Prop where
  len : l.length = n
  mem : ∀ y, y ∈ l ↔ 1 ≤ y ∧ y ≤ (n : Int)
theorem mem_put {l : List Int} {i : Nat} {x y : Int} : y ∈ l.take i ++ x :: l.drop i ↔ y = x ∨ y ∈ l := by
  rw [List.mem_append, List.mem_cons]
  constructor
  · rintro (h | h | h)
    · exact .inr (List.mem_of_mem_take h)
    · exact .inl h
    · exact .inr (List.mem_of_mem_drop h)
  · rintro (h | h)
    · exact .inr (.inl h)
    · rw [← List.take_append_drop i l, List.mem_append] at h
      rcases h with h | h
      · exact .inl h
      · exact .inr (.inr h)
theorem len_put {l : List Int} {i : Nat} {x : Int} : (l.take i ++ x :: l.drop i).length = l.length + 1 := by
  rw [List.length_append, List.length_cons, List.length_take, List.length_drop]; omega
theorem AllTo.put {l : List Int} {n : Nat} (H : AllTo l n) (i : Nat) : AllTo (l.take i ++ ((n : Int) + 1) :: l.drop i) (n + 1) :=
  ⟨by rw [len_put, H.len], fun y => by rw [mem_put, H.mem]; omega⟩
section
variable {w0 w : World} {L : Nat} {l : List Int} {n : Nat}
theorem OS.doesPut (H : OS w0 L l n w) (hn : n < 100000000) (hT : l.length < 2560) (d y : Int) (hd : 0 ≤ d ∧ d ≤ 2) (hy : y ∈ l) (h1 : -9223372036854775808 ≤ y) (h2 : y ≤ 9223372036854775807) {z : Int} (hz : z = (n : Int) + 1) :
    Calls Tryz.prog 18 #[.pointer (some ⟨L, 0, none⟩), .int .i64 d, .int .i64 y] w fun e w' => ∃ (a b c d' : Int) (i : Nat), e = .returned (.tuple #[.int .i64 z, .agg #[.int .i64 a, .int .i64 b, .int .i64 c, .int .i64 d'], .int .i64 0]) ∧ Hid (OS w0 L (l.take i ++ ((n : Int) + 1) :: l.drop i) (n + 1) w') := by
  refine (OS.does H hn (by omega) d y h1 h2).mono ?_
  rintro e w' ⟨x, S, er, l', n', rfl, H2⟩
  obtain ⟨a, b, _⟩ := H2.out
  cases b with
  | put i _ _ hx _ he hl hn' => subst hx he hl hn' hz; exact ⟨S.k, S.f, S.s, S.c, i, rfl, hid a⟩
  | del i hd' _ _ _ _ _ _ => omega
  | stale _ hy' _ _ _ _ => exact absurd hy hy'
  | full _ hT' _ _ _ _ => omega
theorem OS.doesFull (H : OS w0 L l n w) (hn : n < 100000000) (hT : l.length = 2560) (d y : Int) (hd : 0 ≤ d ∧ d ≤ 2) (hy : y ∈ l) (h1 : -9223372036854775808 ≤ y) (h2 : y ≤ 9223372036854775807) :
    Calls Tryz.prog 18 #[.pointer (some ⟨L, 0, none⟩), .int .i64 d, .int .i64 y] w fun e w' => e = .returned (.tuple #[.int .i64 0, .agg #[.int .i64 0, .int .i64 0, .int .i64 0, .int .i64 0], .int .i64 16]) ∧ Hid (OS w0 L l n w') := by
  obtain ⟨bl, p, tf, F, σ, h, τ, a, rfl, rfl⟩ := H.ex
  have hl := (a.live y).2 hy
  have hfin : ∀ e w', (∃ (x : Int) (S : St) (er : Int), e = Ending.returned (.tuple #[.int .i64 x, .agg #[.int .i64 S.k, .int .i64 S.f, .int .i64 S.s, .int .i64 S.c], .int .i64 er]) ∧ Hid (DoW w0 w L bl p tf F σ τ d y x S er w')) → e = .returned (.tuple #[.int .i64 0, .agg #[.int .i64 0, .int .i64 0, .int .i64 0, .int .i64 0], .int .i64 16]) ∧ Hid (OS w0 L (its σ) τ.length w') := by
    rintro e w' ⟨x, S, er, rfl, H2⟩
    obtain ⟨F', σ', h', τ', hW, hQ⟩ := H2.out
    cases hQ with
    | full hd' hT' hx hS he hσ hτ => subst hx hS he; exact ⟨rfl, hid (OrdW.os a hW (by rw [hσ]) (by rw [hτ]))⟩
    | stale _ hl' _ _ _ _ _ => rw [hl] at hl'; cases hl'
    | del _ hd' _ _ _ _ => omega
    | put k hT' _ _ _ k' => omega
  exact (ordDoes_any a hn (by omega) d y h1 h2).mono hfin
/-- .. and block b is none of its own. -/
structure OSB (w0 : World) (L : Nat) (l : List Int) (n : Nat) (b : Nat) (w : World) : Prop where
  ex : ∃ (bl p : Nat) (tf : TF) (F : PF) (σ : List (Option Int)) (h : Nat) (τ : List (Option Int)), OrdR w0 L bl p tf F σ h τ w ∧ its σ = l ∧ τ.length = n ∧ ¬ OrS F bl L tf b
  lt : b < w.heap.size
  fr : Fr Nil1 w0 w
theorem OSB.os {b : Nat} (H : OSB w0 L l n b w) : OS w0 L l n w := by
  obtain ⟨bl, p, tf, F, σ, h, τ, a, b', c, _⟩ := H.ex
  exact ⟨⟨bl, p, tf, F, σ, h, τ, a, b', c⟩, H.fr⟩
theorem OSB.new {w' : World} {b : Nat} (H : OSB w0 L l n b w) (hf : Fr Nil1 w w') : OSB w0 L l n b w' := by
  obtain ⟨bl, p, tf, F, σ, h, τ, a, b', c, d⟩ := H.ex
  exact ⟨⟨bl, p, tf, F, σ, h, τ, a.new hf, b', c, d⟩, by have := H.lt; have := hf.size; omega, H.fr.trans hf⟩
theorem OS.box (H : OS w0 L l n w) (o : Obj) : OSB w0 L l n w.heap.size (w.alloc o) := by
  obtain ⟨bl, p, tf, F, σ, h, τ, a, b', c⟩ := H.ex
  exact ⟨⟨bl, p, tf, F, σ, h, τ, a.new ((Fr.refl _ _).alloc _), b', c, a.noBlk⟩, by simp, H.fr.alloc _⟩
theorem OrdW.osb {w' : World} {bl p : Nat} {tf : TF} {F F' : PF} {σ' : List (Option Int)} {h' : Nat} {τ' : List (Option Int)} {b : Nat} (H2 : OrdW w0 w L bl p tf F F' σ' h' τ' w') (hb : ¬ OrS F bl L tf b) (hlt : b < w.heap.size) {l' : List Int} {n' : Nat} (hl : its σ' = l') (hn : τ'.length = n') :
    OSB w0 L l' n' b w' ∧ ∀ c T, Has w b c T → Has w' b c T := by
  refine ⟨⟨⟨bl, p, tf, F', σ', h', τ', H2.r, hl, hn, fun hk => ?_⟩, by have := H2.fr.size; omega, H2.r.row.fr⟩, fun c T hc => hc.fr' H2.fr hb⟩
  rcases hk with hk | hk
  · rcases H2.mem _ hk with g | g
    · exact hb (.inl g)
    · omega
  · exact hb (.inr hk)
theorem OSB.delete {b : Nat} (H : OSB w0 L l n b w) (hn : n < 100000000) (hT : l.length ≤ 2560) {y : Int} {k : Nat} (hk : l[k]? = some y) (h1 : -9223372036854775808 ≤ y) (h2 : y ≤ 9223372036854775807) :
    Calls Tryz.prog 14 #[.pointer (some ⟨L, 0, none⟩), .int .i64 y] w fun e w' => ∃ (a b' c d : Int), e = .returned (.tuple #[.agg #[.int .i64 a, .int .i64 b', .int .i64 c, .int .i64 d], .int .i64 0]) ∧ Hid (OSB w0 L (l.take k ++ l.drop (k + 1)) n b w' ∧ ∀ c T, Has w b c T → Has w' b c T) := by
  obtain ⟨bl, p, tf, F, σ, h, τ, a, rfl, rfl, hb⟩ := H.ex
  refine (ordDelete_ok a y h1 h2 ((a.live y).2 (List.mem_of_getElem? hk)) hn hT hk).mono ?_
  rintro e w' ⟨S, F', σ', h', τ', rfl, H2⟩
  exact ⟨S.k, S.f, S.s, S.c, rfl, hid (OrdW.osb H2.out.1 hb H.lt H2.out.2.items H2.out.2.len)⟩
theorem OSB.doesPut {b : Nat} (H : OSB w0 L l n b w) (hn : n < 100000000) (hT : l.length < 2560) (d y : Int) (hd : 0 ≤ d ∧ d ≤ 2) (hy : y ∈ l) (h1 : -9223372036854775808 ≤ y) (h2 : y ≤ 9223372036854775807) {z : Int} (hz : z = (n : Int) + 1) :
    Calls Tryz.prog 18 #[.pointer (some ⟨L, 0, none⟩), .int .i64 d, .int .i64 y] w fun e w' => ∃ (a b' c d' : Int) (i : Nat), e = .returned (.tuple #[.int .i64 z, .agg #[.int .i64 a, .int .i64 b', .int .i64 c, .int .i64 d'], .int .i64 0]) ∧ Hid (OSB w0 L (l.take i ++ ((n : Int) + 1) :: l.drop i) (n + 1) b w' ∧ ∀ c T, Has w b c T → Has w' b c T) := by
  obtain ⟨bl, p, tf, F, σ, h, τ, a, rfl, rfl, hb⟩ := H.ex
  refine (ordDoes_any a hn (by omega) d y h1 h2).mono ?_
  rintro e w' ⟨x, S, er, rfl, H2⟩
  obtain ⟨F', σ', h', τ', hW, hQ⟩ := H2.out
  cases hQ with
  | put k _ _ hx he k' => subst hx he hz; exact ⟨S.k, S.f, S.s, S.c, k, rfl, hid (OrdW.osb hW hb H.lt k'.items k'.len)⟩
  | del _ hd' _ _ _ _ => omega
  | stale _ hl' _ _ _ _ _ => rw [(a.live y).2 hy] at hl'; cases hl'
  | full _ hT' _ _ _ _ _ => omega
end
set_option maxRecDepth 100000 in
set_option maxHeartbeats 4000000 in
theorem orderFull_any (d : Int) (w : World) (hg : GW w) : Calls Tryz.prog 6 #[.int .i64 d] w fun e w' => e = .returned (.bool true) ∧ Fr Nil1 w w' := by
  have HAw := hid (fun w' (hf : Fr Nil1 w w') => awake_any w' (hg.fr hf))
  have HN := hid (OS.start w hg)
  by_cases c1 : d < 0
  · have HA := hid (HAw.out w (Fr.refl _ _))
    have d1 : decide (d < 0) = true := decide_eq_true c1
    clear HN HAw
    go_enter Tryz.func6, Tryz.ntmps6
    go_wp2_with (go_at_call 9; refine HA.out.mono ?_; rintro e w1 ⟨rfl, H1⟩)
    go_ret
    exact ⟨rfl, H1⟩
  · by_cases c2 : 2 < d
    · have HA := hid (HAw.out w (Fr.refl _ _))
      have d1 : decide (d < 0) = false := decide_eq_false c1
      have d2 : decide (2 < d) = true := decide_eq_true c2
      clear HN HAw
      go_enter Tryz.func6, Tryz.ntmps6
      go_wp2_with (go_at_call 9; refine HA.out.mono ?_; rintro e w1 ⟨rfl, H1⟩)
      go_ret
      exact ⟨rfl, H1⟩
    · have d1 : decide (d < 0) = false := decide_eq_false c1
      have d2 : decide (2 < d) = false := decide_eq_false c2
      have hd : Hid (0 ≤ d ∧ d ≤ 2) := hid ⟨by omega, by omega⟩
      clear c1 c2
      go_enter Tryz.func6, Tryz.ntmps6
      go_wp2_with (go_at_call 20; refine HN.out.mono ?_; rintro e w1 ⟨L, rfl, H1⟩)
      go_loopw [2, 4, 5, 6] (fun _ i _ _ wr => ∃ (n : Nat) (l : List Int), n ≤ 2560 ∧ i = .int .i64 ((n : Int) + 1) ∧ Hid (OS w L l n wr ∧ AllTo l n)) (fun _ i _ _ _ => (2562 - intOf i).toNat)
      case atStart => exact ⟨0, [], by omega, rfl, hid ⟨H1.out, rfl, fun y => by simp; omega⟩⟩
      case round =>
        obtain ⟨n, l, hn, rfl, HW⟩ := hrel
        by_cases hlt : n < 2560
        · have hle : (n : Int) + 1 ≤ 2560 := by omega
          have v1 : IntKind.i64.wrap ((n : Int) + 1 + 1) = (n : Int) + 1 + 1 := IntWalk.i64_in _ (by omega)
          by_cases h0 : n = 0
          · subst h0
            have HF := hid (OS.first HW.out.1 (by omega) (by rw [HW.out.2.len]; omega) (x := 1) rfl)
            have hl0 : l = [] := List.eq_nil_of_length_eq_zero HW.out.2.len
            go_wp2_with (go_at_call 22; refine HF.out.mono ?_; rintro e w2 ⟨a1, a2, a3, a4, rfl, H2⟩)
            refine ⟨⟨1, [1], by omega, by go_num, hid ⟨by rw [hl0] at H2; exact H2.out, rfl, fun y => by simp; omega⟩⟩, by simp [intOf]⟩
          · have hb1 : ((n : Int) + 1 == 1) = false := beq_eq_false_iff_ne.2 (by omega)
            have en : (n : Int) + 1 - 1 = n := by omega
            have HD := hid (OS.doesPut HW.out.1 (by omega) (by rw [HW.out.2.len]; omega) d n hd.out ((HW.out.2.mem _).2 ⟨by omega, by omega⟩) (by omega) (by omega) (z := (n : Int) + 1) rfl)
            go_wp2_with (go_at_call 18; (try rw [en]); refine HD.out.mono ?_; rintro e w2 ⟨a1, a2, a3, a4, i, rfl, H2⟩)
            refine ⟨⟨n + 1, _, by omega, by go_num, hid ⟨H2.out, HW.out.2.put i⟩⟩, by simp [intOf]; omega⟩
        · obtain rfl : n = 2560 := by omega
          have HD1 := hid (OS.doesFull HW.out.1 (by omega) HW.out.2.len d 2560 hd.out ((HW.out.2.mem _).2 ⟨by omega, by omega⟩) (by omega) (by omega))
          obtain ⟨k, hk, ek⟩ := List.getElem_of_mem ((HW.out.2.mem 1000).2 ⟨by omega, by omega⟩)
          have hk' : l[k]? = some 1000 := List.getElem?_eq_some_iff.2 ⟨hk, ek⟩
          have HK := hid hk'
          have hkl := hid (show k < l.length from hk)
          have hin : (2560 : Int) ∈ l.take k ++ l.drop (k + 1) := by
            have hm := (HW.out.2.mem 2560).2 ⟨by omega, by omega⟩
            rw [← List.take_append_drop k l, List.drop_eq_getElem_cons hk, List.mem_append, List.mem_cons] at hm
            rw [List.mem_append]
            rcases hm with h | h | h
            · exact .inl h
            · rw [ek] at h; omega
            · exact .inr h
          have HIn := hid hin
          have hlen : (l.take k ++ l.drop (k + 1)).length = 2559 := by
            rw [List.length_append, List.length_take, List.length_drop, HW.out.2.len]
            have := HW.out.2.len
            omega
          have HLen := hid hlen
          clear hk ek hk' hin hlen
          go_wp2_with (first
            | (go_at_call 9; refine (HAw.out _ (OS.fr H5.out)).mono ?_; rintro e w9 ⟨rfl, H9⟩)
            | (go_at_call 21; refine (OS.len H5.out).mono ?_; rintro e w8 ⟨rfl, rfl⟩; rw [len_put, HLen.out])
            | (go_at_call 18; with_reducible refine (OSB.doesPut (OSB.new H3.out.1 ((Fr.refl _ _).alloc (.cells #[.int .i64 y1, .int .i64 y2, .int .i64 y3, .int .i64 y4] 36))) (by omega) (by rw [HLen.out]; omega) d 2560 hd.out HIn.out (by omega) (by omega) (z := 2561) rfl).mono ?_; rintro e w5 ⟨z1, z2, z3, z4, i5, rfl, H4⟩; have H5 := hid (OS.new (OSB.os H4.out.1) ((Fr.refl _ _).alloc (.cells #[.int .i64 z1, .int .i64 z2, .int .i64 z3, .int .i64 z4] 36))); have hb5 := (H4.out.2 _ _ (HB3.out.alloc (.cells #[.int .i64 y1, .int .i64 y2, .int .i64 y3, .int .i64 y4] 36))).alloc (.cells #[.int .i64 z1, .int .i64 z2, .int .i64 z3, .int .i64 z4] 36); have g0 := hb5.cell 0; have g1 := hb5.cell 1; have g2 := hb5.cell 2; have g3 := hb5.cell 3; clear hb5)
            | (go_at_call 14; refine (OSB.delete (OS.box H2.out (.cells #[.int .i64 0, .int .i64 0, .int .i64 0, .int .i64 0] 36)) (by omega) (by rw [HW.out.2.len]; omega) HK.out (by omega) (by omega)).mono ?_; rintro e w3 ⟨y1, y2, y3, y4, rfl, H3⟩; have HB3 := hid (H3.out.2 _ _ (Has.new w2 [.int .i64 0, .int .i64 0, .int .i64 0, .int .i64 0] 36)))
            | (go_at_call 18; refine HD1.out.mono ?_; rintro e w2 ⟨rfl, H2⟩))
          go_ret
          exact ⟨rfl, H5.out.fr.trans H9⟩
end Go.Proofs.YtogjfaiidciedaaGreatDoor
