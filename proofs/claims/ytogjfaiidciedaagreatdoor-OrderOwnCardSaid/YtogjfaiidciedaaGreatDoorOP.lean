/- Lists of handles, said by what they hold; the chapter's examples. -/
import Derived.Test.YtogjfaiidciedaaGreatDoorON
set_option linter.unusedVariables false
set_option linter.unusedSimpArgs false
namespace Go.Proofs.YtogjfaiidciedaaGreatDoor
open Go.RowKit Go.Maps

/-- A list of handles that holds l; n handles were taken. -/
structure OS (w0 : World) (L : Nat) (l : List Int) (n : Nat) (w : World) : Prop where
  ex : ∃ (bl p : Nat) (tf : TF) (F : PF) (σ : List (Option Int)) (h : Nat) (τ : List (Option Int)), OrdR w0 L bl p tf F σ h τ w ∧ its σ = l ∧ τ.length = n
  fr : Fr Nil1 w0 w
theorem OS.new {w0 w w' : World} {L : Nat} {l : List Int} {n : Nat} (H : OS w0 L l n w) (hf : Fr Nil1 w w') : OS w0 L l n w' := by
  obtain ⟨bl, p, tf, F, σ, h, τ, a, b, c⟩ := H.ex
  exact ⟨⟨bl, p, tf, F, σ, h, τ, a.new hf, b, c⟩, H.fr.trans hf⟩
theorem OrdW.os {w0 w w' : World} {L bl p : Nat} {tf : TF} {F F' : PF} {σ' : List (Option Int)} {h' : Nat} {τ' : List (Option Int)} {σ : List (Option Int)} {h : Nat} {τ : List (Option Int)} (H : OrdR w0 L bl p tf F σ h τ w) (H2 : OrdW w0 w L bl p tf F F' σ' h' τ' w') {l' : List Int} {n' : Nat} (hl : its σ' = l') (hn : τ'.length = n') : OS w0 L l' n' w' :=
  ⟨⟨bl, p, tf, F', σ', h', τ', H2.r, hl, hn⟩, H2.r.row.fr⟩
theorem OS.start (w : World) (hg : GW w) : Calls Tryz.prog 20 #[] w fun e w' => ∃ L : Nat, e = .returned (.pointer (some ⟨L, 0, none⟩)) ∧ Hid (OS w L [] 0 w') := by
  refine (ordNew_any w hg).mono ?_
  rintro e w' ⟨L, rfl, H⟩
  obtain ⟨bl, p, tf, F, H2⟩ := H.out.ex
  exact ⟨L, rfl, hid ⟨⟨bl, p, tf, F, _, 2, [], H2, by decide, rfl⟩, H.out.fr⟩⟩
section
variable {w0 w : World} {L : Nat} {l : List Int} {n : Nat}
/-- What an act does to a list, in plain words. -/
inductive ActO (l : List Int) (n : Nat) (d y : Int) (x : Int) (k : Int) (e : Int) (l' : List Int) (n' : Nat) : Prop
  | put (i : Nat) (hT : l.length < 2560) (hd : (d = 0 ∧ i = 0) ∨ (d = 1 ∧ ∃ r : Nat, l[r]? = some y ∧ i = r + 1) ∨ (d = 2 ∧ l[i]? = some y)) (hx : x = (n : Int) + 1) (hk : k ≠ 0) (he : e = 0) (hl : l' = l.take i ++ ((n : Int) + 1) :: l.drop i) (hn : n' = n + 1)
  | del (i : Nat) (hd : d ≠ 0 ∧ d ≠ 1 ∧ d ≠ 2) (hi : l[i]? = some y) (hx : x = 0) (hk : k ≠ 0) (he : e = 0) (hl : l' = l.take i ++ l.drop (i + 1)) (hn : n' = n)
  | stale (hd : d ≠ 0) (hy : y ∉ l) (hx : x = 0) (he : e = 17) (hl : l' = l) (hn : n' = n)
  | full (hd : d = 0 ∨ ((d = 1 ∨ d = 2) ∧ y ∈ l)) (hT : 2560 ≤ l.length) (hx : x = 0) (he : e = 16) (hl : l' = l) (hn : n' = n)
theorem OS.does (H : OS w0 L l n w) (hn : n < 100000000) (hT : l.length ≤ 2560) (d y : Int) (h1 : -9223372036854775808 ≤ y) (h2 : y ≤ 9223372036854775807) :
    Calls Tryz.prog 18 #[.pointer (some ⟨L, 0, none⟩), .int .i64 d, .int .i64 y] w fun e w' => ∃ (x : Int) (S : St) (er : Int) (l' : List Int) (n' : Nat), e = .returned (.tuple #[.int .i64 x, .agg #[.int .i64 S.k, .int .i64 S.f, .int .i64 S.s, .int .i64 S.c], .int .i64 er]) ∧ Hid (OS w0 L l' n' w' ∧ ActO l n d y x S.k er l' n' ∧ (er ≠ 0 → S = ⟨0, 0, 0, 0⟩)) := by
  obtain ⟨bl, p, tf, F, σ, h, τ, a, rfl, rfl⟩ := H.ex
  refine (ordDoes_any a hn hT d y h1 h2).mono ?_
  rintro e w' ⟨x, S, er, rfl, H2⟩
  obtain ⟨F', σ', h', τ', hW, hQ⟩ := H2.out
  refine ⟨x, S, er, its σ', τ'.length, rfl, hid ⟨OrdW.os a hW rfl rfl, ?_⟩⟩
  cases hQ with
  | put k hT' hd hx he k' => exact ⟨.put k hT' hd hx k'.st he k'.items k'.len, fun h => absurd he h⟩
  | del k hd hk hx he k' => exact ⟨.del k hd hk hx k'.st he k'.items k'.len, fun h => absurd he h⟩
  | stale hd hl hx hS he hσ hτ => exact ⟨.stale hd (fun hm => by rw [(a.live y).2 hm] at hl; cases hl) hx he (by rw [hσ]) (by rw [hτ]), fun _ => hS⟩
  | full hd hT hx hS he hσ hτ => exact ⟨.full (hd.imp id (fun h => ⟨h.1, (a.live y).1 h.2⟩)) hT hx he (by rw [hσ]) (by rw [hτ]), fun _ => hS⟩
theorem OS.first (H : OS w0 L l n w) (hn : n < 100000000) (hT : l.length < 2560) {x : Int} (hx : (n : Int) + 1 = x) :
    Calls Tryz.prog 22 #[.pointer (some ⟨L, 0, none⟩)] w fun e w' => ∃ (a b c d : Int), e = .returned (.tuple #[.int .i64 x, .agg #[.int .i64 a, .int .i64 b, .int .i64 c, .int .i64 d], .int .i64 0]) ∧ Hid (OS w0 L (x :: l) (n + 1) w') := by
  obtain ⟨bl, p, tf, F, σ, h, τ, a, rfl, rfl⟩ := H.ex
  refine (ordFirst_ok a hn hT).mono ?_
  rintro e w' ⟨S, F', σ', h', τ', rfl, H2⟩
  exact ⟨S.k, S.f, S.s, S.c, by rw [hx], hid (OrdW.os a H2.out.1 (by rw [H2.out.2.items, hx]; rfl) H2.out.2.len)⟩
theorem OS.after (H : OS w0 L l n w) (hn : n < 100000000) (hT : l.length < 2560) {x y : Int} (hx : (n : Int) + 1 = x) {k : Nat} (hk : l[k]? = some y) (h1 : -9223372036854775808 ≤ y) (h2 : y ≤ 9223372036854775807) {l' : List Int} (hl : l.take (k + 1) ++ x :: l.drop (k + 1) = l') :
    Calls Tryz.prog 15 #[.pointer (some ⟨L, 0, none⟩), .int .i64 y] w fun e w' => ∃ (a b c d : Int), e = .returned (.tuple #[.int .i64 x, .agg #[.int .i64 a, .int .i64 b, .int .i64 c, .int .i64 d], .int .i64 0]) ∧ Hid (OS w0 L l' (n + 1) w') := by
  obtain ⟨bl, p, tf, F, σ, h, τ, a, rfl, rfl⟩ := H.ex
  refine (ordAfter_ok a y h1 h2 ((a.live y).2 (List.mem_of_getElem? hk)) hn hT hk).mono ?_
  rintro e w' ⟨S, F', σ', h', τ', rfl, H2⟩
  exact ⟨S.k, S.f, S.s, S.c, by rw [hx], hid (OrdW.os a H2.out.1 (by rw [H2.out.2.items, hx]; exact hl) H2.out.2.len)⟩
theorem OS.ahead (H : OS w0 L l n w) (hn : n < 100000000) (hT : l.length < 2560) {x y : Int} (hx : (n : Int) + 1 = x) {k : Nat} (hk : l[k]? = some y) (h1 : -9223372036854775808 ≤ y) (h2 : y ≤ 9223372036854775807) {l' : List Int} (hl : l.take k ++ x :: l.drop k = l') :
    Calls Tryz.prog 16 #[.pointer (some ⟨L, 0, none⟩), .int .i64 y] w fun e w' => ∃ (a b c d : Int), e = .returned (.tuple #[.int .i64 x, .agg #[.int .i64 a, .int .i64 b, .int .i64 c, .int .i64 d], .int .i64 0]) ∧ Hid (OS w0 L l' (n + 1) w') := by
  obtain ⟨bl, p, tf, F, σ, h, τ, a, rfl, rfl⟩ := H.ex
  refine (ordAhead_ok a y h1 h2 ((a.live y).2 (List.mem_of_getElem? hk)) hn hT hk).mono ?_
  rintro e w' ⟨S, F', σ', h', τ', rfl, H2⟩
  exact ⟨S.k, S.f, S.s, S.c, by rw [hx], hid (OrdW.os a H2.out.1 (by rw [H2.out.2.items, hx]; exact hl) H2.out.2.len)⟩
theorem OS.delete (H : OS w0 L l n w) (hn : n < 100000000) (hT : l.length ≤ 2560) {y : Int} {k : Nat} (hk : l[k]? = some y) (h1 : -9223372036854775808 ≤ y) (h2 : y ≤ 9223372036854775807) {l' : List Int} (hl : l.take k ++ l.drop (k + 1) = l') :
    Calls Tryz.prog 14 #[.pointer (some ⟨L, 0, none⟩), .int .i64 y] w fun e w' => ∃ (a b c d : Int), e = .returned (.tuple #[.agg #[.int .i64 a, .int .i64 b, .int .i64 c, .int .i64 d], .int .i64 0]) ∧ Hid (OS w0 L l' n w') := by
  obtain ⟨bl, p, tf, F, σ, h, τ, a, rfl, rfl⟩ := H.ex
  refine (ordDelete_ok a y h1 h2 ((a.live y).2 (List.mem_of_getElem? hk)) hn hT hk).mono ?_
  rintro e w' ⟨S, F', σ', h', τ', rfl, H2⟩
  exact ⟨S.k, S.f, S.s, S.c, rfl, hid (OrdW.os a H2.out.1 (by rw [H2.out.2.items]; exact hl) H2.out.2.len)⟩
theorem OS.before (H : OS w0 L l n w) {a b : Int} {i j : Nat} (hi : l[i]? = some a) (hj : l[j]? = some b) (a1 : -9223372036854775808 ≤ a) (a2 : a ≤ 9223372036854775807) (b1 : -9223372036854775808 ≤ b) (b2 : b ≤ 9223372036854775807) {c : Bool} (hc : decide (i < j) = c) :
    Calls Tryz.prog 12 #[.pointer (some ⟨L, 0, none⟩), .int .i64 a, .int .i64 b] w fun e w' => e = .returned (.tuple #[.bool c, .int .i64 0]) ∧ w = w' := by
  obtain ⟨bl, p, tf, F, σ, h, τ, r, rfl, rfl⟩ := H.ex
  have hd : decide (slotV τ a < slotV τ b) = c := by
    rw [← hc]
    exact decide_eq_decide.2 (r.lt hi hj)
  have := ordBefore_ok r a b a1 a2 b1 b2 ((r.live a).2 (List.mem_of_getElem? hi)) ((r.live b).2 (List.mem_of_getElem? hj))
  rwa [hd] at this
theorem OS.beforeStale (H : OS w0 L l n w) {a b : Int} (hab : a ∉ l ∨ b ∉ l) (a1 : -9223372036854775808 ≤ a) (a2 : a ≤ 9223372036854775807) (b1 : -9223372036854775808 ≤ b) (b2 : b ≤ 9223372036854775807) :
    Calls Tryz.prog 12 #[.pointer (some ⟨L, 0, none⟩), .int .i64 a, .int .i64 b] w fun e w' => e = .returned (.tuple #[.bool false, .int .i64 17]) ∧ w = w' := by
  obtain ⟨bl, p, tf, F, σ, h, τ, r, rfl, rfl⟩ := H.ex
  refine ordBefore_stale r a b a1 a2 b1 b2 (hab.imp (fun hm => ?_) (fun hm => ?_))
  · cases e : liveB τ a with
    | false => rfl
    | true => exact absurd ((r.live a).1 e) hm
  · cases e : liveB τ b with
    | false => rfl
    | true => exact absurd ((r.live b).1 e) hm
theorem OS.len (H : OS w0 L l n w) : Calls Tryz.prog 21 #[.pointer (some ⟨L, 0, none⟩)] w fun e w' => e = .returned (.int .i64 l.length) ∧ w = w' := by
  obtain ⟨bl, p, tf, F, σ, h, τ, r, rfl, rfl⟩ := H.ex
  exact ordLen_any r
theorem OS.small (H : OS w0 L l n w) : l.length ≤ 4096 := by
  obtain ⟨bl, p, tf, F, σ, h, τ, r, rfl, rfl⟩ := H.ex
  exact r.row.small.1
theorem OS.handles (H : OS w0 L l n w) : Calls Tryz.prog 11 #[.pointer (some ⟨L, 0, none⟩)] w fun e w' => ∃ A c, e = .returned (.slice A l.length c) ∧ Hid (Rd w' (.slice A l.length c) (ints' l) ∧ OS w0 L l n w' ∧ Fr Nil1 w w') := by
  have hsm := H.small
  obtain ⟨bl, p, tf, F, σ, h, τ, r, rfl, rfl⟩ := H.ex
  refine (ordHandles_any r).mono ?_
  rintro e w' ⟨v, rfl, H2⟩
  have hr := H2.out.1.rd (by omega)
  obtain ⟨A, c, e, _⟩ := hr
  rw [ints'_length] at e
  subst e
  exact ⟨A, c, rfl, hid ⟨H2.out.1.rd (by omega), H.new H2.out.2.2, H2.out.2.2⟩⟩
end
set_option maxRecDepth 100000 in
set_option maxHeartbeats 4000000 in
theorem awake_any (w : World) (hg : GW w) : Calls Tryz.prog 9 #[] w fun e w' => e = .returned (.bool true) ∧ Fr Nil1 w w' := by
  have HN := hid (OS.start w hg)
  clear hg
  go_enter Tryz.func9, Tryz.ntmps9
  go_wp2_with (first
    | (go_at_call 12; with_reducible refine (OS.beforeStale (OS.new H9.out ((Fr.refl _ _).alloc _)) (a := 3) (b := 2) (.inl (by decide)) (by decide) (by decide) (by decide) (by decide)).mono ?_; rintro e wb ⟨rfl, rfl⟩)
    | (go_at_call 14; refine (OS.delete (l' := [4, 1, 2]) H8.out (by decide) (by decide) (y := 3) (k := 2) rfl (by decide) (by decide) rfl).mono ?_; rintro e w9 ⟨p1, p2, p3, p4, rfl, H9⟩)
    | (go_at_call 12; first | (with_reducible refine (OS.before H8.out (a := 3) (b := 2) (i := 2) (j := 3) rfl rfl (by decide) (by decide) (by decide) (by decide) (c := true) (by decide)).mono ?_; rintro e wb ⟨rfl, rfl⟩) | (with_reducible refine (OS.before H8.out (a := 1) (b := 4) (i := 1) (j := 0) rfl rfl (by decide) (by decide) (by decide) (by decide) (c := false) (by decide)).mono ?_; rintro e wb ⟨rfl, rfl⟩))
    | (go_at_call 17; refine (ints_lit w6 _ _ [4, 1, 3, 2] 4 H6.out.1 rfl rfl (by decide)).mono ?_; rintro e w8 ⟨rfl, hf8⟩; have H8 := hid (H6.out.2.1.new hf8); clear hf8)
    | (go_at_call 11; refine (OS.handles (OS.new H5.out ((Fr.refl _ _).alloc _))).mono ?_; rintro e w6 ⟨A6, c6, rfl, H6⟩)
    | (go_at_call 22; refine (OS.first (OS.new H4.out ((Fr.refl _ _).alloc _)) (by decide) (by decide) (x := 4) rfl).mono ?_; rintro e w5 ⟨s1, s2, s3, s4, rfl, H5⟩)
    | (go_at_call 16; refine (OS.ahead (l' := [1, 3, 2]) (OS.new H3.out ((Fr.refl _ _).alloc _)) (by decide) (by decide) (x := 3) (y := 2) rfl (k := 1) rfl (by decide) (by decide) rfl).mono ?_; rintro e w4 ⟨r1, r2, r3, r4, rfl, H4⟩)
    | (go_at_call 15; refine (OS.after (l' := [1, 2]) (OS.new H2.out ((Fr.refl _ _).alloc _)) (by decide) (by decide) (x := 2) (y := 1) rfl (k := 0) rfl (by decide) (by decide) rfl).mono ?_; rintro e w3 ⟨q1, q2, q3, q4, rfl, H3⟩)
    | (go_at_call 22; refine (OS.first H1.out (by decide) (by decide) (x := 1) rfl).mono ?_; rintro e w2 ⟨a1, a2, a3, a4, rfl, H2⟩)
    | (go_at_call 20; refine HN.out.mono ?_; rintro e w1 ⟨L, rfl, H1⟩))
  go_ret
  exact ⟨rfl, (H9.out.new ((Fr.refl _ _).alloc _)).fr⟩
end Go.Proofs.YtogjfaiidciedaaGreatDoor
