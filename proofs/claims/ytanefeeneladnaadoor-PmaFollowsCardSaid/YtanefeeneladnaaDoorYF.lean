/- PmaFollows, as it is called: the walk. -/
import Derived.Test.YtanefeeneladnaaDoorY5
import Derived.Deep.RegionHeld3
import Derived.Deep.Cut
import Derived.Deep.CutRange
set_option linter.unusedVariables false
set_option linter.unusedSimpArgs false
namespace Go.Proofs.YtanefeeneladnaaDoor
open Go.RowKit

/-- The closure's boxes. -/
structure FoJ (bs br g n : Nat) (evs : List Ev) (w : World) : Prop where
  s : Has w bs [.slice (some ⟨g, 0, none⟩) n n] 24
  r : Has w br [.bool (fol n evs).2] 4
  g : Has w g (ints' (folRow n (fol n evs).1)) 3
def FoB (bs br g : Nat) (k : Nat) : Prop := k = bs ∨ k = br ∨ k = g
theorem FoJ.bad {bs br g n : Nat} (gr : NG ≤ br) {evs : List Ev} {e : Ev} {w : World} (H : FoJ bs br g n evs w) (hb : folS n (fol n evs) e = ((fol n evs).1, false)) : FoJ bs br g n (evs ++ [e]) (w.setCell ⟨br, 0, none⟩ (.bool false)) ∧ Fr (FoB bs br g) w (w.setCell ⟨br, 0, none⟩ (.bool false)) := by
  have n1 := H.s.ne H.r (by decide)
  have n3 := H.r.ne H.g (by decide)
  have hs := fol_snoc n evs e
  rw [hb] at hs
  refine ⟨⟨H.s.other _ n1, ?_, ?_⟩, (Fr.refl _ _).setCell _ _ gr (fun _ => .inr (.inl rfl))⟩
  · rw [hs]; exact H.r.set 0 _
  · rw [hs]; exact H.g.other _ (fun e => n3 e.symm)
theorem FoJ.good {bs br g n : Nat} (gg : NG ≤ g) {evs : List Ev} {k : Nat} {i j : Int} {w : World} (H : FoJ bs br g n evs w) (hk : k < n) (hb : folS n (fol n evs) ((k : Int), i, j) = (updI (fol n evs).1 k j, (fol n evs).2)) : FoJ bs br g n (evs ++ [((k : Int), i, j)]) (w.setCell ⟨g, k, none⟩ (.int .i64 j)) ∧ Fr (FoB bs br g) w (w.setCell ⟨g, k, none⟩ (.int .i64 j)) := by
  have n2 := H.s.ne H.g (by decide)
  have n3 := H.r.ne H.g (by decide)
  have hs := fol_snoc n evs ((k : Int), i, j)
  rw [hb] at hs
  refine ⟨⟨H.s.other _ n2, ?_, ?_⟩, (Fr.refl _ _).setCell _ _ gg (fun _ => .inr (.inr rfl))⟩
  · rw [hs]; exact H.r.other _ n3
  · have := H.g.set k (.int .i64 j)
    rw [hs, ← folRow_set n _ k j hk]
    unfold ints' at this ⊢
    rw [List.map_set]
    exact this

set_option maxRecDepth 100000 in
set_option maxHeartbeats 1000000 in
theorem follows_ok {bs br g n : Nat} (gr : NG ≤ br) (gg : NG ≤ g) (hn : n ≤ 300) (evs : List Ev) (x i j : Int) (w : World) (H : FoJ bs br g n evs w) :
    Calls Tryd.prog 9 #[.int .i64 x, .int .i64 i, .int .i64 j, .pointer (some ⟨bs, 0, none⟩), .pointer (some ⟨br, 0, none⟩)] w fun e w' => (∃ v, e = .returned v) ∧ FoJ bs br g n (evs ++ [(x, i, j)]) w' ∧ Fr (FoB bs br g) w w' := by
  obtain ⟨s0, sf⟩ := H.s.one
  obtain ⟨r0, rf⟩ := H.r.one
  by_cases hx : x < 1
  · have HB := hid (H.bad gr (e := (x, i, j)) (if_pos (.inl hx)))
    have d1 : decide (x < 1) = true := decide_eq_true hx
    clear H
    go_enter Tryd.func9, Tryd.ntmps9
    go_wp2_with fail
    first | refine bodyPost_ret (results_none rfl _ _ _) rfl ?_ | refine bodyPost_end (results_none rfl _ _ _) rfl ?_
    exact ⟨⟨_, rfl⟩, HB.out.1, HB.out.2⟩
  · have d1 : decide (x < 1) = false := decide_eq_false hx
    by_cases hx2 : (n : Int) ≤ x
    · have HB := hid (H.bad gr (e := (x, i, j)) (if_pos (.inr (.inl hx2))))
      have d2 : decide ((n : Int) ≤ x) = true := decide_eq_true hx2
      clear H
      go_enter Tryd.func9, Tryd.ntmps9
      go_wp2_with fail
      first | refine bodyPost_ret (results_none rfl _ _ _) rfl ?_ | refine bodyPost_end (results_none rfl _ _ _) rfl ?_
      exact ⟨⟨_, rfl⟩, HB.out.1, HB.out.2⟩
    · have d2 : decide ((n : Int) ≤ x) = false := decide_eq_false hx2
      obtain ⟨k, rfl⟩ : ∃ k : Nat, x = k := ⟨x.toNat, by omega⟩
      have hk : k < n := by omega
      have c0 := H.g.cell k
      rw [ints'_get _ _ (by rw [folRow_length]; exact hk), folRow_getD n _ k hk] at c0
      have cf := H.g.frozen
      by_cases he : (fol n evs).1 k = i
      · have HB := hid (H.good gg (i := i) (j := j) hk (by
          unfold folS
          rw [if_neg]
          rintro (h | h | h)
          · exact hx h
          · exact hx2 h
          · exact h he))
        have hb0 : ((fol n evs).1 k != i) = false := by rw [bne_eq_false_iff_eq]; exact he
        have HE := hid he
        clear H he
        generalize (fol n evs).1 k = z at *
        go_enter Tryd.func9, Tryd.ntmps9
        go_wp2_with fail
        first | refine bodyPost_ret (results_none rfl _ _ _) rfl ?_ | refine bodyPost_end (results_none rfl _ _ _) rfl ?_
        exact ⟨⟨_, rfl⟩, HB.out.1, HB.out.2⟩
      · have HB := hid (H.bad gr (e := ((k : Int), i, j)) (if_pos (.inr (.inr he))))
        have hb0 : ((fol n evs).1 k != i) = true := by rw [bne_iff_ne]; exact he
        clear H
        generalize (fol n evs).1 k = z at *
        go_enter Tryd.func9, Tryd.ntmps9
        go_wp2_with fail
        first | refine bodyPost_ret (results_none rfl _ _ _) rfl ?_ | refine bodyPost_end (results_none rfl _ _ _) rfl ?_
        exact ⟨⟨_, rfl⟩, HB.out.1, HB.out.2⟩
theorem FoJ.fr {bs br g n : Nat} {evs : List Ev} {w w' : World} {S : Nat → Prop} (H : FoJ bs br g n evs w) (hf : Fr S w w') (hS : ∀ k, S k → ¬ FoB bs br g k) : FoJ bs br g n evs w' :=
  ⟨H.s.fr' hf (fun h => hS _ h (.inl rfl)), H.r.fr' hf (fun h => hS _ h (.inr (.inl rfl))), H.g.fr' hf (fun h => hS _ h (.inr (.inr rfl)))⟩
def folF (bs br : Nat) : Value := .func (.func 9) #[] #[.pointer (some ⟨bs, 0, none⟩), .pointer (some ⟨br, 0, none⟩)]
theorem follows_hear {bs br g n : Nat} (gr : NG ≤ br) (gg : NG ≤ g) (hn : n ≤ 300) : Hear (folF bs br) (FoB bs br g) (FoJ bs br g n) where
  fn := .inr ⟨9, #[], _, rfl, ⟨enters_of Tryd.func9 (by kernel_rfl) rfl, fun evs x i j w H => follows_ok gr gg hn evs x i j w H, fun evs w w' S H hf hS => H.fr hf hS⟩⟩
  keep := fun evs w w' S H hf hS => H.fr hf hS

/-- What is known of the elements, and of who is told. -/
structure FolI (n c : Nat) (evs : List Ev) (pos : Int → Int) (σ : List (Option Int)) : Prop where
  f : fol n evs = (pos, true)
  k : Knows pos σ
  r : ∀ x ∈ its σ, 1 ≤ x ∧ x ≤ c
theorem FolI.len {n c : Nat} {evs : List Ev} {pos : Int → Int} {σ : List (Option Int)} (H : FolI n c evs pos σ) : liveC pos c = (its σ).length ∧ (its σ).length ≤ c := by
  have := live_all H.k c H.r
  have := liveC_le pos c
  omega
theorem FolI.start (n : Nat) : FolI n 0 [] (fun _ => -1) (List.replicate 32 none) := by
  have hg : ∀ i, (List.replicate 32 (none : Option Int)).getD i none = none := fun i => by
    rw [List.getD_eq_getElem?_getD, List.getElem?_replicate]
    split <;> rfl
  exact ⟨rfl, fun x => ⟨(fun i hi => by rw [hg] at hi; cases hi), fun _ => rfl⟩, fun x hx => by
    obtain ⟨k, hk⟩ := mem_its.1 hx
    rw [hg] at hk
    cases hk⟩
theorem FolI.del {n c : Nat} {evs : List Ev} {pos : Int → Int} {σ : List (Option Int)} (H : FolI n c evs pos σ) (hn : c < n) {h : Nat} {s x : Int} {S : St} {er : Int} {σ' : List (Option Int)} {h' : Nat} {ev : List Ev} (Q : DelQ σ h s x S er σ' h' ev) : ∃ pos', FolI n c (evs ++ ev) pos' σ' := by
  cases Q with
  | ok j hj hx he k =>
    obtain ⟨h1, h2⟩ := k.knows pos H.k
    have hr : ∀ y ∈ its σ', 1 ≤ y ∧ y ≤ c := fun y hy => H.r y (by
      rw [k.items, List.mem_append] at hy
      rcases hy with hy | hy
      · exact List.mem_of_mem_take hy
      · exact List.mem_of_mem_drop hy)
    refine ⟨_, fol_append n evs ev pos H.f h1 (fun e he => ?_), h2, hr⟩
    have : 1 ≤ e.1 ∧ e.1 ≤ c := by
      rcases k.dom e he with g | g
      · exact H.r _ g
      · exact hr _ g
    omega
  | bad he h0 hv hS hσ hh hev => exact ⟨pos, by rw [hev, List.append_nil, hσ]; exact H⟩
theorem FolI.ins {n c : Nat} {evs : List Ev} {pos : Int → Int} {σ : List (Option Int)} (H : FolI n c evs pos σ) (hn : c + 1 < n) {h seg next : Nat} {v : Int} {S : St} {σ' : List (Option Int)} {h' : Nat} {ev : List Ev} (k : InsP σ h seg next ((c : Int) + 1) v S σ' h' ev) : ∃ pos', FolI n (c + 1) (evs ++ ev) pos' σ' ∧ pos' ((c : Int) + 1) = v := by
  have hno : pos ((c : Int) + 1) = -1 := (H.k _).2 (fun i hi => by
    have := H.r _ (mem_its.2 ⟨i, hi⟩)
    omega)
  obtain ⟨h1, h2⟩ := k.knows pos H.k hno
  have hr : ∀ y ∈ its σ', 1 ≤ y ∧ y ≤ (c + 1 : Nat) := fun y hy => by
    rw [k.items, List.mem_append, List.mem_cons] at hy
    rcases hy with hy | hy | hy
    · have := H.r y (List.mem_of_mem_take hy); omega
    · omega
    · have := H.r y (List.mem_of_mem_drop hy); omega
  obtain ⟨q, q1, q2, q3⟩ := k.slot
  refine ⟨runEv pos ev, ⟨fol_append n evs ev pos H.f h1 (fun e he => ?_), h2, hr⟩, by rw [q1]; exact (h2 _).1 q q2⟩
  rcases k.dom e he with g | g
  · have := H.r _ g; omega
  · have := hr _ g; omega
end Go.Proofs.YtanefeeneladnaaDoor
