/- Law 11's own: the chapter's examples; acts, played. -/
import Derived.Test.YtgmnnafcflmjdaaGreatDoorSJ
import Derived.Test.YtgmnnafcflmjdaaGreatDoorC1
set_option linter.unusedVariables false
set_option linter.unusedSimpArgs false
namespace Go.Proofs.YtgmnnafcflmjdaaGreatDoor
open Go.RowKit

theorem cnts_first {τ : List (Option Int)} (hl : τ.length = 32) (H : ChgC (List.replicate 32 none) τ (2 ^ 2) 0 0 1) : cntsL τ = [1, 0, 0, 0] := by
  obtain ⟨h1, h2⟩ := H.seg
  have z0 : segC (List.replicate 32 (none : Option Int)) 0 = 0 := by decide
  have z1 : segC (List.replicate 32 (none : Option Int)) 1 = 0 := by decide
  have z2 : segC (List.replicate 32 (none : Option Int)) 2 = 0 := by decide
  have z3 : segC (List.replicate 32 (none : Option Int)) 3 = 0 := by decide
  have e0 := h2 (by decide)
  have e1 := h1 1 (by decide) (by decide)
  have e2 := h1 2 (by decide) (by decide)
  have e3 := h1 3 (by decide) (by decide)
  rw [z0] at e0
  rw [z1] at e1
  rw [z2] at e2
  rw [z3] at e3
  unfold cntsL
  rw [hl, show List.range (32 / 8) = [0, 1, 2, 3] from rfl]
  simp only [List.map_cons, List.map_nil, e1, e2, e3]
  rw [show segC τ 0 = 1 by omega]
  rfl
theorem pick_first : pickS [1, 0, 0, 0] 0 2 = (⟨1, 0, 1, 32⟩, 0) := by decide
section
variable {w0 w : World} {s p : Nat} {F : PF} {evs : List Ev}
theorem set_first (H : SetS w0 s p F (List.replicate 32 none) 2 evs w) (key : Int) :
    Calls Tryz.prog 14 #[.pointer (some ⟨s, 0, none⟩), .int .i64 key] w fun e w' => e = .returned (.tuple #[.agg #[.int .i64 1, .int .i64 0, .int .i64 1, .int .i64 32], .int .i64 0]) ∧ Hid (SS w0 s [key] w') := by
  have e0 : its (List.replicate 32 (none : Option Int)) = [] := by decide
  refine (setInsert_any H (by rw [e0]; decide) key).mono ?_
  rintro e w' ⟨S, er, rfl, H2⟩
  obtain ⟨F', σ', h', evs', hS, hQ, _, _⟩ := H2.out
  cases hQ with
  | ok bh seg next v ev hm hl hb hs hc he k =>
    have hseg : seg = 0 := by
      cases hb with
      | first _ hs _ => exact hs
      | «at» b _ ho _ _ => rw [onOf_none] at ho; cases ho
    subst hseg he
    have hit : its σ' = [key] := by rw [k.items, putK_at hc, e0]; rfl
    obtain ⟨τ, a1, a2, _, _, _, a6⟩ := k.step
    rw [cnts_first (by rw [a2, List.length_replicate]) a1, pick_first] at a6
    have hSS : S = ⟨1, 0, 1, 32⟩ := by injection a6 with h _; exact h.symm
    subst hSS
    exact ⟨rfl, hid ⟨⟨p, F', σ', h', evs', hS, hit⟩, by rw [← hit]; exact hS.up, hS.row.fr⟩⟩
  | there hm _ _ _ _ => rw [e0] at hm; cases hm
  | full _ hT _ _ _ _ => rw [e0] at hT; simp at hT
end
/-- Keys that do not rise make no set. -/
theorem setOf_two (w : World) : Calls Tryz.prog 40 #[.slice (some ⟨w.heap.size, 0, none⟩) 2 2] (w.alloc (.cells #[.int .i64 1, .int .i64 1] 3)) fun e w' => e = .returned (.tuple #[.pointer none, .int .i64 18]) ∧ Fr Nil1 (w.alloc (.cells #[.int .i64 1, .int .i64 1] 3)) w' := by
  have hb := Has.new w [.int .i64 1, .int .i64 1] 3
  have c0 := hb.cell 0
  have c1 := hb.cell 1
  obtain ⟨W, hW⟩ : ∃ W, w.alloc (.cells #[.int .i64 1, .int .i64 1] 3) = W := ⟨_, rfl⟩
  obtain ⟨b, hbb⟩ : ∃ b, w.heap.size = b := ⟨_, rfl⟩
  rw [hbb] at c0 c1 ⊢
  have c0' : W.cell? ⟨b, 0, none⟩ = some (.int .i64 1) := hW ▸ c0
  have c1' : W.cell? ⟨b, 1, none⟩ = some (.int .i64 1) := hW ▸ c1
  rw [hW]
  clear hb c0 c1 hW hbb
  go_enter Tryz.func40, Tryz.ntmps40
  go_wp2_with fail
  go_loopw [4] (fun i wx => i = .int .i64 1 ∧ W = wx) (fun _ _ => 0)
  case atStart => exact ⟨rfl, rfl⟩
  case round =>
    obtain ⟨rfl, rfl⟩ := hrel
    go_wp2_with fail
    go_quiet (fail)
    go_wp2_with fail
    go_ret2
    exact ⟨rfl, (Fr.refl _ _).drewN _⟩
/-- A set, and a block that is none of its own. -/
structure SSB (w0 : World) (s : Nat) (ks : List Int) (b : Nat) (w : World) : Prop where
  ex : ∃ (p : Nat) (F : PF) (σ : List (Option Int)) (h : Nat) (evs : List Ev), SetS w0 s p F σ h evs w ∧ its σ = ks ∧ ¬ SetB F s b
  lt : b < w.heap.size
section
variable {w0 w : World} {s : Nat} {ks : List Int} {b : Nat}
theorem SSB.ss (H : SSB w0 s ks b w) : SS w0 s ks w := by
  obtain ⟨p, F, σ, h, evs, a, rfl, _⟩ := H.ex
  exact ⟨⟨p, F, σ, h, evs, a, rfl⟩, a.up, a.row.fr⟩
theorem SSB.new {w' : World} (H : SSB w0 s ks b w) (hf : Fr Nil1 w w') : SSB w0 s ks b w' := by
  obtain ⟨p, F, σ, h, evs, a, e, n⟩ := H.ex
  exact ⟨⟨p, F, σ, h, evs, a.new hf, e, n⟩, by have := H.lt; have := hf.size; omega⟩
theorem SS.boxed (H : SS w0 s ks w) (o : Obj) : SSB w0 s ks w.heap.size (w.alloc o) := by
  obtain ⟨p, F, σ, h, evs, a, e⟩ := H.ex
  exact ⟨⟨p, F, σ, h, evs, a.new ((Fr.refl _ _).alloc _), e, fun hk => by have := a.lt _ hk; omega⟩, by simp⟩
theorem SSB.insert (H : SSB w0 s ks b w) (hT : ks.length ≤ 2560) (key : Int) :
    Calls Tryz.prog 14 #[.pointer (some ⟨s, 0, none⟩), .int .i64 key] w fun e w' => ∃ (S : St) (er : Int) (ks' : List Int), e = .returned (.tuple #[.agg #[.int .i64 S.k, .int .i64 S.f, .int .i64 S.s, .int .i64 S.c], .int .i64 er]) ∧ Hid (SSB w0 s ks' b w' ∧ InsK ks key S er ks' ∧ ∀ c T, Has w b c T → Has w' b c T) := by
  obtain ⟨p, F, σ, h, evs, a, rfl, nb⟩ := H.ex
  refine (setInsert_any a hT key).mono ?_
  rintro e w' ⟨S, er, rfl, H2⟩
  obtain ⟨F', σ', h', evs', hS, hQ, hm, hf⟩ := H2.out
  have hl := H.lt
  refine ⟨S, er, its σ', rfl, hid ⟨⟨⟨p, F', σ', h', evs', hS, rfl, fun hk => ?_⟩, by have := hf.size; omega⟩, ?_, fun c T hc => hc.fr' hf (fun g => nb (.inl g))⟩⟩
  · rcases hk with g | g
    · rcases hm b g with g | g
      · exact nb (.inl g)
      · omega
    · exact nb (.inr g)
  · cases hQ with
    | ok bh seg next v ev hm hl hb hs hc he k =>
      obtain ⟨_, _, _, _, _, hst, _⟩ := k.step
      exact .ok hm hl (stepO_kind hst) he (by rw [k.items]; exact putK_at hc)
    | there hm he hS hσ hh => exact .there hm hS he (by rw [hσ])
    | full hm hT he hS hσ hh => exact .full hm hT hS he (by rw [hσ])
theorem SS.floorSome (H : SS w0 s ks w) {key x : Int} (h : floorK ks key = some x) : Calls Tryz.prog 38 #[.pointer (some ⟨s, 0, none⟩), .int .i64 key] w fun e w' => e = .returned (.tuple #[.int .i64 x, .bool true]) ∧ Fr Nil1 w w' := by
  have := H.floor key
  rw [h] at this
  exact this
theorem SS.ceilNone (H : SS w0 s ks w) {key : Int} (h : ceilK ks key = none) : Calls Tryz.prog 39 #[.pointer (some ⟨s, 0, none⟩), .int .i64 key] w fun e w' => e = .returned (.tuple #[.int .i64 0, .bool false]) ∧ Fr Nil1 w w' := by
  have := H.ceil key
  rw [h] at this
  exact this
end
theorem insK_ok {ks ks' : List Int} {key er : Int} {S : St} (H : InsK ks key S er ks') (hm : key ∉ ks) (hT : ks.length < 2560) : er = 0 ∧ ks' = putK ks key := by
  cases H with
  | ok _ _ _ he hl => exact ⟨he, hl⟩
  | there h _ _ _ => exact absurd h hm
  | full _ h _ _ _ => omega
set_option maxRecDepth 100000 in
set_option maxHeartbeats 4000000 in
theorem awake_any (w : World) (hg : GW w) : Calls Tryz.prog 11 #[] w fun e w' => e = .returned (.bool true) ∧ Fr Nil1 w w' := by
  have HN := hid (setNew_any w hg)
  clear hg
  go_enter Tryz.func11, Tryz.ntmps11
  go_wp2_with (first
    | (go_at_call 34; refine (ints_lit w8 _ _ [1, 3, 5] 3 H8.out.1 rfl rfl (by decide)).mono ?_; rintro e w9 ⟨rfl, h9⟩; have hf9 := hid h9; clear h9)
    | (go_at_call 17; refine (SS.keys (HS7.out.new hf8.out)).mono ?_; rintro e w8 ⟨A8, c8, rfl, H8⟩)
    | (go_at_call 40; refine (setOf_two w7).mono ?_; rintro e w7' ⟨rfl, h8⟩; have hf8 := hid (((Fr.refl Nil1 w7).alloc (.cells #[.int .i64 1, .int .i64 1] 3)).trans h8); have hb := (HB5.out.fr' hf6.out id).fr' (hf7.out.trans hf8.out) id; have x0 := hb.cell 0; have x1 := hb.cell 1; have x2 := hb.cell 2; have x3 := hb.cell 3; clear h8 hb)
    | (go_at_call 39; refine (SS.ceilNone (HS5.out.new hf6.out) (key := 6) (by decide)).mono ?_; rintro e w7 ⟨rfl, h7⟩; have hf7 := hid h7; have HS7 := hid (HS5.out.new (hf6.out.trans h7)); clear h7)
    | (go_at_call 38; refine (SS.floorSome HS5.out (key := 4) (x := 3) (by decide)).mono ?_; rintro e w6 ⟨rfl, h6⟩; have hf6 := hid h6; clear h6)
    | (go_at_call 14; (with_reducible refine (SSB.insert (H4.out.1.new ((Fr.refl _ _).alloc (.cells #[.int .i64 S.k, .int .i64 S.f, .int .i64 S.s, .int .i64 S.c] 30))) (by decide) 3).mono ?_); rintro e w5 ⟨S5, er5, ks5, rfl, H5⟩; obtain ⟨rfl, rfl⟩ := insK_ok H5.out.2.1 (by decide) (by decide); have HS5 := hid (H5.out.1.ss.new ((Fr.refl _ _).alloc (.cells #[.int .i64 S5.k, .int .i64 S5.f, .int .i64 S5.s, .int .i64 S5.c] 30))); have HB5 := hid ((H5.out.2.2 _ _ (HB4.out.alloc _)).alloc (.cells #[.int .i64 S5.k, .int .i64 S5.f, .int .i64 S5.s, .int .i64 S5.c] 30)))
    | (go_at_call 14; (with_reducible refine (SSB.insert (H2.out.boxed (.cells #[.int .i64 1, .int .i64 0, .int .i64 1, .int .i64 32] 30)) (by decide) 1).mono ?_); rintro e w4 ⟨S, er, ks, rfl, H4⟩; obtain ⟨rfl, rfl⟩ := insK_ok H4.out.2.1 (by decide) (by decide); have HB4 := hid (H4.out.2.2 _ _ (Has.new w2 [.int .i64 1, .int .i64 0, .int .i64 1, .int .i64 32] 30)))
    | (go_at_call 14; (with_reducible refine (set_first H1.out.1 5).mono ?_); rintro e w2 ⟨rfl, H2⟩)
    | (go_at_call 12; refine HN.out.mono ?_; rintro e w1 ⟨s, p, F, rfl, H1⟩))
  go_ret
  exact ⟨rfl, HS7.out.fr.trans (hf8.out.trans (H8.out.2.trans hf9.out))⟩
end Go.Proofs.YtgmnnafcflmjdaaGreatDoor
