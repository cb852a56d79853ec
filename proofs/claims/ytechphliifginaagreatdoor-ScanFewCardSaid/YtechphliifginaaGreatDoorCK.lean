/- scan.Take. -/
import Derived.Test.YtechphliifginaaGreatDoorCJ
import Derived.Test.YtechphliifginaaGreatDoorCY
set_option linter.unusedVariables false
set_option linter.unusedSimpArgs false
namespace Go.Proofs.YtechphliifginaaGreatDoor
open Go.RowKit Go.Shelf
attribute [local go_sem] Oper.semAt_some

/-- The segment of the first one taken, of the last. -/
def segF : List (Nat × Int) → Int
  | [] => 0
  | p :: _ => (p.1 : Int) / 8
def segL (ys : List (Nat × Int)) : Int := (ys.getLast?.map (fun p => (p.1 : Int) / 8)).getD (-1)
theorem segF_snoc (ys : List (Nat × Int)) (p : Nat × Int) : segF (ys ++ [p]) = if ys.length = 0 then (p.1 : Int) / 8 else segF ys := by
  cases ys with
  | nil => rfl
  | cons a t => simp [segF]
theorem segL_snoc (ys : List (Nat × Int)) (p : Nat × Int) : segL (ys ++ [p]) = (p.1 : Int) / 8 := by unfold segL; simp
theorem RowI.slice {w : World} {base : Nat} {v : Value} {xs : List Int} (h : RowI w base v xs) : ∃ A c, v = .slice A xs.length c := by
  rcases h.2 with ⟨rfl, h0⟩ | ⟨g, cap, cur, rfl, _⟩
  · exact ⟨none, 0, by rw [h0]⟩
  · exact ⟨_, _, rfl⟩
/-- Take's boxes. -/
structure TkW (P0 : Nat) (n first last : Int) (v : Value) (W : World) : Prop where
  bn : Has W P0 [.int .i64 n] 3
  r1 : Has W (P0 + 1) [.slice none 0 0] 30
  r2 : Has W (P0 + 1 + 1) [.int .i64 0] 3
  r3 : Has W (P0 + 1 + 1 + 1) [.int .i64 0] 36
  bo : Has W (P0 + 1 + 1 + 1 + 1) [v] 30
  bf : Has W (P0 + 1 + 1 + 1 + 1 + 1) [.int .i64 first] 3
  bl : Has W (P0 + 1 + 1 + 1 + 1 + 1 + 1) [.int .i64 last] 3
def tk0 (w : World) (n : Int) : World := (((((((w.alloc (.cells #[.int .i64 n] 3)).alloc (.cells #[.slice none 0 0] 30)).alloc (.cells #[.int .i64 0] 3)).alloc (.cells #[.int .i64 0] 36)).alloc (.cells #[.slice none 0 0] 30)).alloc (.cells #[.int .i64 0] 3)).alloc (.cells #[.int .i64 (-1)] 3))
section
variable {P0 : Nat} {n first last : Int} {v : Value} {w W : World}
theorem TkW.start (hP : w.heap.size = P0) : TkW P0 n 0 (-1) (.slice none 0 0) (tk0 w n) ∧ Fr Nil1 w (tk0 w n) ∧ (tk0 w n).heap.size = P0 + 7 := by
  subst hP
  unfold tk0
  refine ⟨⟨?_, ?_, ?_, ?_, ?_, ?_, ?_⟩, (((((((Fr.refl _ _).alloc _).alloc _).alloc _).alloc _).alloc _).alloc _).alloc _, by simp⟩
  · exact (((((((Has.new w _ _).alloc _).alloc _).alloc _).alloc _).alloc _).alloc _)
  · have := ((((((Has.new (w.alloc (.cells #[.int .i64 n] 3)) [.slice none 0 0] 30).alloc (.cells #[.int .i64 0] 3)).alloc (.cells #[.int .i64 0] 36)).alloc (.cells #[.slice none 0 0] 30)).alloc (.cells #[.int .i64 0] 3)).alloc (.cells #[.int .i64 (-1)] 3))
    simp only [World.size_alloc] at this
    exact this
  · have := (((((Has.new ((w.alloc (.cells #[.int .i64 n] 3)).alloc (.cells #[.slice none 0 0] 30)) [.int .i64 0] 3).alloc (.cells #[.int .i64 0] 36)).alloc (.cells #[.slice none 0 0] 30)).alloc (.cells #[.int .i64 0] 3)).alloc (.cells #[.int .i64 (-1)] 3))
    simp only [World.size_alloc] at this
    exact this
  · have := ((((Has.new (((w.alloc (.cells #[.int .i64 n] 3)).alloc (.cells #[.slice none 0 0] 30)).alloc (.cells #[.int .i64 0] 3)) [.int .i64 0] 36).alloc (.cells #[.slice none 0 0] 30)).alloc (.cells #[.int .i64 0] 3)).alloc (.cells #[.int .i64 (-1)] 3))
    simp only [World.size_alloc] at this
    exact this
  · have := (((Has.new ((((w.alloc (.cells #[.int .i64 n] 3)).alloc (.cells #[.slice none 0 0] 30)).alloc (.cells #[.int .i64 0] 3)).alloc (.cells #[.int .i64 0] 36)) [.slice none 0 0] 30).alloc (.cells #[.int .i64 0] 3)).alloc (.cells #[.int .i64 (-1)] 3))
    simp only [World.size_alloc] at this
    exact this
  · have := ((Has.new (((((w.alloc (.cells #[.int .i64 n] 3)).alloc (.cells #[.slice none 0 0] 30)).alloc (.cells #[.int .i64 0] 3)).alloc (.cells #[.int .i64 0] 36)).alloc (.cells #[.slice none 0 0] 30)) [.int .i64 0] 3).alloc (.cells #[.int .i64 (-1)] 3))
    simp only [World.size_alloc] at this
    exact this
  · have := Has.new ((((((w.alloc (.cells #[.int .i64 n] 3)).alloc (.cells #[.slice none 0 0] 30)).alloc (.cells #[.int .i64 0] 3)).alloc (.cells #[.int .i64 0] 36)).alloc (.cells #[.slice none 0 0] 30)).alloc (.cells #[.int .i64 0] 3)) [.int .i64 (-1)] 3
    simp only [World.size_alloc] at this
    exact this
theorem TkW.new {w' : World} (H : TkW P0 n first last v w) (hf : Fr Nil1 w w') : TkW P0 n first last v w' := ⟨H.bn.fr' hf id, H.r1.fr' hf id, H.r2.fr' hf id, H.r3.fr' hf id, H.bo.fr' hf id, H.bf.fr' hf id, H.bl.fr' hf id⟩
theorem TkW.kept {w' : World} (H : TkW P0 n first last v w) (hk : ∀ k, P0 ≤ k → k < P0 + 7 → k ≠ P0 + 1 + 1 + 1 + 1 → w'.heap[k]? = w.heap[k]?) {v' : Value} (ho : Has w' (P0 + 1 + 1 + 1 + 1) [v'] 30) : TkW P0 n first last v' w' :=
  ⟨(hk _ (by omega) (by omega) (by omega)).trans H.bn, (hk _ (by omega) (by omega) (by omega)).trans H.r1, (hk _ (by omega) (by omega) (by omega)).trans H.r2, (hk _ (by omega) (by omega) (by omega)).trans H.r3, ho, (hk _ (by omega) (by omega) (by omega)).trans H.bf, (hk _ (by omega) (by omega) (by omega)).trans H.bl⟩
theorem TkW.setF (H : TkW P0 n first last v W) (x : Int) : TkW P0 n x last v (W.setCell ⟨P0 + 1 + 1 + 1 + 1 + 1, 0, none⟩ (.int .i64 x)) :=
  ⟨H.bn.other _ (by show P0 ≠ P0 + 1 + 1 + 1 + 1 + 1; omega), H.r1.other _ (by show P0 + 1 ≠ P0 + 1 + 1 + 1 + 1 + 1; omega), H.r2.other _ (by show P0 + 1 + 1 ≠ P0 + 1 + 1 + 1 + 1 + 1; omega), H.r3.other _ (by show P0 + 1 + 1 + 1 ≠ P0 + 1 + 1 + 1 + 1 + 1; omega), H.bo.other _ (by show P0 + 1 + 1 + 1 + 1 ≠ P0 + 1 + 1 + 1 + 1 + 1; omega), H.bf.set 0 _, H.bl.other _ (by show P0 + 1 + 1 + 1 + 1 + 1 + 1 ≠ P0 + 1 + 1 + 1 + 1 + 1; omega)⟩
theorem TkW.setL (H : TkW P0 n first last v W) (x : Int) : TkW P0 n first x v (W.setCell ⟨P0 + 1 + 1 + 1 + 1 + 1 + 1, 0, none⟩ (.int .i64 x)) :=
  ⟨H.bn.other _ (by show P0 ≠ P0 + 1 + 1 + 1 + 1 + 1 + 1; omega), H.r1.other _ (by show P0 + 1 ≠ P0 + 1 + 1 + 1 + 1 + 1 + 1; omega), H.r2.other _ (by show P0 + 1 + 1 ≠ P0 + 1 + 1 + 1 + 1 + 1 + 1; omega), H.r3.other _ (by show P0 + 1 + 1 + 1 ≠ P0 + 1 + 1 + 1 + 1 + 1 + 1; omega), H.bo.other _ (by show P0 + 1 + 1 + 1 + 1 ≠ P0 + 1 + 1 + 1 + 1 + 1 + 1; omega), H.bf.other _ (by show P0 + 1 + 1 + 1 + 1 + 1 ≠ P0 + 1 + 1 + 1 + 1 + 1 + 1; omega), H.bl.set 0 _⟩
theorem TkW.grown {w' : World} {row : Option Nat} (H : TkW P0 n first last v w) (hg : w.grownBy w' row) (hr : ∀ r, row = some r → ∃ o : Obj, w.heap[r]? = some o ∧ o.isCells = false) : TkW P0 n first last v w' := ⟨H.bn.grownBy hg hr, H.r1.grownBy hg hr, H.r2.grownBy hg hr, H.r3.grownBy hg hr, H.bo.grownBy hg hr, H.bf.grownBy hg hr, H.bl.grownBy hg hr⟩
end
theorem TakS.seg {σ : List (Option Int)} {lo n : Int} {ys : List (Nat × Int)} (h : TakS σ lo n ys) (hs : σ.length ≤ 4096) : -1 ≤ segL ys ∧ segL ys ≤ 511 ∧ 0 ≤ segF ys ∧ segF ys ≤ 511 := by
  have hb : ∀ p ∈ ys, p.1 < 4096 := fun p hp => by have := getD_lt (h.2 p hp); omega
  have h1 : -1 ≤ segL ys ∧ segL ys ≤ 511 := by
    unfold segL
    cases e : ys.getLast? with
    | none => exact ⟨by simp, by simp⟩
    | some p =>
      have := hb p (List.mem_of_getLast? e)
      simp only [Option.map_some, Option.getD_some]
      omega
  refine ⟨h1.1, h1.2, ?_, ?_⟩
  · cases ys with
    | nil => simp [segF]
    | cons a t => simp only [segF]; omega
  · cases ys with
    | nil => simp [segF]
    | cons a t => have := hb a (by simp); simp only [segF]; omega
set_option maxRecDepth 100000 in
set_option maxHeartbeats 8000000 in
theorem scanTake_at {w0 w : World} {s p : Nat} {F : PF} {σ : List (Option Int)} {h : Nat} {evs : List Ev} (a : SetS w0 s p F σ h evs w) (lo n : Int) (hn : 0 ≤ n) :
    Calls Tryz.prog 35 #[.pointer (some ⟨s, 0, none⟩), .int .i64 lo, .int .i64 n] w fun e w' => ∃ (v : Value) (ys : List (Nat × Int)), e = .returned (.tuple #[v, .int .i64 (segL ys - segF ys + 1), .int .i64 0]) ∧ Hid (RowI w' w.heap.size v (ys.map (·.2)) ∧ TakS σ lo n ys ∧ Fr Nil1 w w') := by
  refine (callsIn_wide (n := 3)).1 ?_
  obtain ⟨i0, hi0, hz0, hz1, hz2⟩ := info_parts info_int
  have hsm : σ.length ≤ 4096 := by
    have h3 := a.row.d.len
    have h4 := p2_le a.row.r.h9
    omega
  have hup := a.up
  have hG : NG ≤ w.heap.size := Nat.le_trans a.gs (Nat.le_of_lt a.c.lt)
  refine callsIn_of_wp_marks Tryz.func35 rfl trivial ?_ rfl
  simp only [Tryz.ntmps35, List.size_toArray, List.length_cons, List.length_nil, Nat.reduceAdd, Nat.reduceSub, Array.replicate_succ, Array.replicate_zero, List.push_toArray, List.append_toArray, List.nil_append, List.cons_append]
  have HA := hid (fun (w' : World) (hf : Fr Nil1 w w') => scanSlots_at (a.new hf))
  have hn1 : ¬ n < 0 := by omega
  obtain ⟨P0, hP0⟩ : ∃ P0, w.heap.size = P0 := ⟨_, rfl⟩
  have HT0 := hid (TkW.start (n := n) hP0)
  have cn := HT0.out.1.bn.cell 0
  clear a
  gi_wp2_with (first
    | ((first | refine ⟨trivial, wideNo, ?_⟩ | refine ⟨trivial, ?_⟩); gi_at_call 98; refine (callsIn_wide.2 (HA.out (tk0 w n) HT0.out.2.1)).mono ?_; rintro e w1 ⟨f, rfl, H1⟩; have ht1 := HT0.out.1.new H1.out.2.1; have d1 := ht1.bn.cell 0; clear ht1)
    | ((first | refine ⟨trivial, wideNo, ?_⟩ | refine ⟨trivial, ?_⟩); gi_at_call 97; refine (callsIn_wide.2 (scanUpTake_any f.s lo _ _ _)).mono ?_; rintro e w2 ⟨rfl, rfl⟩))
  have h1 := H1.out
  have hT0 := HT0.out
  have hsz1 : P0 + 7 ≤ w1.heap.size := by have := h1.2.1.size; omega
  have ha := ((Has.new w1 [.pointer (some ⟨f.s, 0, none⟩)] 31).alloc (.cells #[.int .i64 lo] 3)).alloc (.cells #[.func (.func 99) #[] #[.pointer (some ⟨P0 + 1 + 1 + 1 + 1, 0, none⟩), .pointer (some ⟨P0, 0, none⟩)]] 57)
  have hb := (Has.new (w1.alloc (.cells #[.pointer (some ⟨f.s, 0, none⟩)] 31)) [.int .i64 lo] 3).alloc (.cells #[.func (.func 99) #[] #[.pointer (some ⟨P0 + 1 + 1 + 1 + 1, 0, none⟩), .pointer (some ⟨P0, 0, none⟩)]] 57)
  have hc := Has.new ((w1.alloc (.cells #[.pointer (some ⟨f.s, 0, none⟩)] 31)).alloc (.cells #[.int .i64 lo] 3)) [.func (.func 99) #[] #[.pointer (some ⟨P0 + 1 + 1 + 1 + 1, 0, none⟩), .pointer (some ⟨P0, 0, none⟩)]] 57
  have hf2 : Fr Nil1 w1 (((w1.alloc (.cells #[.pointer (some ⟨f.s, 0, none⟩)] 31)).alloc (.cells #[.int .i64 lo] 3)).alloc (.cells #[.func (.func 99) #[] #[.pointer (some ⟨P0 + 1 + 1 + 1 + 1, 0, none⟩), .pointer (some ⟨P0, 0, none⟩)]] 57)) := (((Fr.refl _ _).alloc _).alloc _).alloc _
  have hs2 : (((w1.alloc (.cells #[.pointer (some ⟨f.s, 0, none⟩)] 31)).alloc (.cells #[.int .i64 lo] 3)).alloc (.cells #[.func (.func 99) #[] #[.pointer (some ⟨P0 + 1 + 1 + 1 + 1, 0, none⟩), .pointer (some ⟨P0, 0, none⟩)]] 57)).heap.size = w1.heap.size + 3 := by simp
  simp only [World.size_alloc] at hb hc
  obtain ⟨W2, hW2⟩ : ∃ W2, (((w1.alloc (.cells #[.pointer (some ⟨f.s, 0, none⟩)] 31)).alloc (.cells #[.int .i64 lo] 3)).alloc (.cells #[.func (.func 99) #[] #[.pointer (some ⟨P0 + 1 + 1 + 1 + 1, 0, none⟩), .pointer (some ⟨P0, 0, none⟩)]] 57)) = W2 := ⟨_, rfl⟩
  rw [hW2] at ha hb hc hf2 hs2 ⊢
  obtain ⟨R, hR⟩ : ∃ R, w1.heap.size = R := ⟨_, rfl⟩
  rw [hR] at ha hb hc hs2 hsz1 ⊢
  have HU := hid (show UtW f R (R + 1) (R + 1 + 1) (P0 + 1 + 1 + 1 + 1) P0 σ lo W2 from ⟨ha, hb, hc, h1.1.new hf2, hup⟩)
  have hfA : Fr Nil1 w W2 := hT0.2.1.trans (h1.2.1.trans hf2)
  have htA := (hT0.1.new h1.2.1).new hf2
  clear ha hb hc hW2 cn d1
  refine wpIn_rangeX (α := Nat × Int) (by omega) (by omega) (T := UtT f R (R + 1) (R + 1 + 1)) HU.out.lt (gf := 160) (lb := #[.pointer (some ⟨R, 0, none⟩), .pointer (some ⟨R + 1, 0, none⟩), .pointer (some ⟨R + 1 + 1, 0, none⟩)]) rfl (enters_of Tryz.func160 (by kernel_rfl) rfl)
    (scanUp_X _ hn W2 HU.out) (fun _ => rfl)
    (fun X (pre : List (Nat × Int)) (W : World) => (∃ v, TkW P0 n (segF pre) (segL pre) v W ∧ RowI W X v (snds pre) ∧ W2.heap.size ≤ X) ∧ Fr Nil1 w W)
    (fun (c : Code) (pre : List (Nat × Int)) _ => c = .ret ∧ ∃ q ∈ pre, 4096 ≤ q.1)
    (fun X pre W h => by
      obtain ⟨⟨v, t, r, _⟩, _⟩ := h
      obtain ⟨A, c, rfl⟩ := r.slice
      rw [snds_len] at t
      exact ⟨⟨A, c, t.bo⟩, t.bn⟩)
    (fun X pre A B row hs hg hrow => ⟨(by obtain ⟨⟨v, h1, h2, h3⟩, _⟩ := hs; exact ⟨v, h1.grown hg (fun r e => (hrow r e).2), own_grown h2 hg (fun r e => (hrow r e).2), h3⟩), hs.2.grownBy hg hrow (by omega) (by omega)⟩)
    (fun _ _ _ _ _ hs _ _ => hs)
    (fun X hX => ⟨⟨_, htA, World.ownsRow_nil _ _ _ _, hX⟩, hfA⟩)
    (fun x => { tmps := #[.pointer (some ⟨s, 0, none⟩), .int .i64 lo, .int .i64 n, undef, undef, .pointer (some ⟨P0, 0, none⟩), .pointer (some ⟨P0 + 1, 0, none⟩), .pointer (some ⟨P0 + 1 + 1, 0, none⟩), .pointer (some ⟨P0 + 1 + 1 + 1, 0, none⟩), .pointer (some ⟨P0 + 1 + 1 + 1 + 1, 0, none⟩), .pointer (some ⟨P0 + 1 + 1 + 1 + 1 + 1, 0, none⟩), .pointer (some ⟨P0 + 1 + 1 + 1 + 1 + 1 + 1, 0, none⟩), .int .i64 (x.1 : Int), .int .i64 x.2, undef, undef, .bool false, .pointer (some ⟨s, 0, none⟩), .bool false, .bool false, .int .i64 n, .bool false, .pointer (some ⟨s, 0, none⟩), .pointer (some ⟨f.s, 0, none⟩), .int .i64 lo, .func (.func 99) #[] #[.pointer (some ⟨P0 + 1 + 1 + 1 + 1, 0, none⟩), .pointer (some ⟨P0, 0, none⟩)], .func (.func 160) #[] #[.pointer (some ⟨R, 0, none⟩), .pointer (some ⟨R + 1, 0, none⟩), .pointer (some ⟨R + 1 + 1, 0, none⟩)], .int .i64 (x.1 : Int), .int .i64 x.2, undef, undef, undef, undef, undef, undef, undef, undef, undef, undef, undef, undef, undef, undef, undef, undef, undef, undef, undef, undef, undef, undef], defers := [] }) ?assign ?body ?done ?stop
  case assign =>
    intro l x W K hK
    unfold encIx
    gi_wp2
    exact hK
  case body =>
    rintro l X pre x W hX hXW ⟨⟨v, ht, hrow, _⟩, hF⟩ hlt
    obtain ⟨A, c, rfl⟩ := hrow.slice
    rw [snds_len] at ht hrow
    have HT := hid ht
    have Hrow := hid hrow
    have HB := hid hF
    have HM := hid (show ∀ k, f.mem k → P0 + 7 ≤ k from fun k hk => by have := h1.2.2 k hk; omega)
    have HG := hid (And.intro hG (And.intro hs2 hsz1))
    have hpl : pre.length ≤ 4096 := by have := its_length σ; have := cntOn_le (onOf σ) σ.length; omega
    obtain ⟨c1, f1⟩ := ht.r1.one
    obtain ⟨c2, f2⟩ := ht.r2.one
    obtain ⟨c3, f3⟩ := ht.r3.one
    obtain ⟨c4, f4⟩ := ht.bo.one
    obtain ⟨c5, f5⟩ := ht.bf.one
    obtain ⟨c6, f6⟩ := ht.bl.one
    clear hF hG hfA htA hrow ht hup HA HT0 h1 hT0
    by_cases hx : x.1 < 4096
    · have HSg := hid (levelSeg_ok x.1 hx)
      obtain ⟨g, hg⟩ : ∃ g : Int, (x.1 : Int) / 8 = g := ⟨_, rfl⟩
      rw [hg] at HSg
      by_cases hl0 : pre.length = 0
      · have hl1 : decide ((pre.length : Int) = 0) = true := decide_eq_true (by omega)
        have hl2 : ((pre.length : Int) == 0) = true := by rw [beq_iff_eq]; omega
        have HL0 := hid hl0
        clear hl0
        obtain ⟨W3, hW3⟩ : ∃ W3, ((W.setCell ⟨P0 + 1 + 1 + 1 + 1 + 1, 0, none⟩ (.int .i64 g)).setCell ⟨P0 + 1 + 1 + 1 + 1 + 1 + 1, 0, none⟩ (.int .i64 g)) = W3 := ⟨_, rfl⟩
        have hF3 : Fr (fun k => k = P0 + 1 + 1 + 1 + 1 + 1 ∨ k = P0 + 1 + 1 + 1 + 1 + 1 + 1) W W3 := hW3 ▸ ((Fr.refl _ W).setCell ⟨P0 + 1 + 1 + 1 + 1 + 1, 0, none⟩ _ (by have := HG.out; show NG ≤ P0 + 1 + 1 + 1 + 1 + 1; omega) (fun _ => .inl rfl)).setCell ⟨P0 + 1 + 1 + 1 + 1 + 1 + 1, 0, none⟩ _ (by have := HG.out; show NG ≤ P0 + 1 + 1 + 1 + 1 + 1 + 1; omega) (fun _ => .inr rfl)
        have HT3 := hid (show TkW P0 n g g (.slice A pre.length c) W3 from hW3 ▸ (HT.out.setF g).setL g)
        have HR3 := hid (show RowI W3 X (.slice A pre.length c) (snds pre) from Hrow.out.fr hF3 (fun k hk e => by have := HG.out; rcases e with e | e <;> omega))
        have hs3 : W.heap.size ≤ W3.heap.size := hF3.size
        have HF3 := hid hF3
        obtain ⟨c7, f7⟩ := HT3.out.bo.one
        clear hF3
        gi_wp2_with (first
          | ((first | refine ⟨trivial, wideNo, ?_⟩ | refine ⟨trivial, ?_⟩); gi_at_call 100; refine (callsIn_wide.2 (HSg.out W)).mono ?_; rintro e w3 ⟨rfl, rfl⟩)
          | (gi_at_builtin; refine wpListIn_append_own _ rfl _ _ 30 rfl X 3 i0 (.int .i64 0) 1 8 Tryz.underlying30 hi0 hz0 hz1 hz2 rfl (by decide) _ _ _ rfl (HR3.out.alloc _) ⟨W3.heap.size, 0, none⟩ 1 1 [.int .i64 x.2] rfl rfl (cell_one_new _ _ _) (by simp [Value.oneCell']) (by rw [snds_len]; unfold maxLen; omega) (by rw [snds_len]; omega) (by simp; omega) ?_; intro v' w1 hown' hgrow _; obtain ⟨g', cap', rfl⟩ := ownsRow_succ hown'; obtain ⟨hv1, hv2, hr2, hk2, hb2⟩ := HT3.out.bo.appended (by decide) HR3.out (by omega) hown' hgrow; obtain ⟨hc1, hf1⟩ := hv1.one; have hgrow' := hid hgrow; clear hgrow))
        obtain ⟨q1, q2, q3⟩ := HG.out
        have hg1 : (W3.alloc (.cells #[.int .i64 x.2] 3)).grownBy w1 (Value.slice A pre.length c).ownBlock := hgrow'.out
        have hbl := own_block HR3.out
        have kx1 : KeepX (UtT f R (R + 1) (R + 1 + 1)) W2.heap.size X W W3 := KeepX.of_fr HF3.out (fun k hk e => by
          rcases hk with rfl | rfl | rfl | hk
          · rcases e with e | e <;> omega
          · rcases e with e | e <;> omega
          · rcases e with e | e <;> omega
          · have := HM.out k hk; rcases e with e | e <;> omega) (fun k e => .inl (by rcases e with e | e <;> omega)) (fun k o e hB _ => by rcases e with e | e <;> omega)
        have kx2 : KeepX (UtT f R (R + 1) (R + 1 + 1)) W2.heap.size X W3 (w1.setCell ⟨P0 + 1 + 1 + 1 + 1, 0, none⟩ _) := KeepX.appended hk2 hg1 (fun k hk => ⟨by
          rcases hk with hk | (rfl | rfl | rfl | hk) | hk
          · omega
          · omega
          · omega
          · omega
          · have := HM.out k hk; omega
          · omega, fun e => by
          have h1 := hbl k e.symm
          rcases hk with hk | hk | hk
          · omega
          · have := HU.out.lt k hk; omega
          · omega⟩)
        refine ⟨kx1.trans kx2, ⟨.slice (some ⟨g', 0, none⟩) ((snds pre).length + 1) cap', ?_, ?_, hX⟩, (HB.out.trans' HF3.out (fun j hj hl e => by rcases e with e | e <;> omega)).appended hg1 (by omega) (fun j e => by have := hbl j e; omega) (by omega)⟩
        · rw [segF_snoc, segL_snoc, hg, if_pos HL0.out]
          exact HT3.out.kept (fun k a1 a2 a3 => hb2 k (by omega) a3) hv2
        · rw [snds_snoc]
          unfold RowI
          rw [List.length_append, List.map_append]
          exact hr2
      · have hl1 : decide ((pre.length : Int) = 0) = false := decide_eq_false (by omega)
        have hl2 : ((pre.length : Int) == 0) = false := by rw [beq_eq_false_iff_ne]; omega
        have HL0 := hid hl0
        clear hl0
        obtain ⟨W3, hW3⟩ : ∃ W3, (W.setCell ⟨P0 + 1 + 1 + 1 + 1 + 1 + 1, 0, none⟩ (.int .i64 g)) = W3 := ⟨_, rfl⟩
        have hF3 : Fr (fun k => k = P0 + 1 + 1 + 1 + 1 + 1 + 1) W W3 := hW3 ▸ (Fr.refl _ W).setCell ⟨P0 + 1 + 1 + 1 + 1 + 1 + 1, 0, none⟩ _ (by have := HG.out; show NG ≤ P0 + 1 + 1 + 1 + 1 + 1 + 1; omega) (fun _ => rfl)
        have HT3 := hid (show TkW P0 n (segF pre) g (.slice A pre.length c) W3 from hW3 ▸ HT.out.setL g)
        have HR3 := hid (show RowI W3 X (.slice A pre.length c) (snds pre) from Hrow.out.fr hF3 (fun k hk e => by have := HG.out; omega))
        have hs3 : W.heap.size ≤ W3.heap.size := hF3.size
        have HF3 := hid hF3
        obtain ⟨c7, f7⟩ := HT3.out.bo.one
        clear hF3
        gi_wp2_with (first
          | ((first | refine ⟨trivial, wideNo, ?_⟩ | refine ⟨trivial, ?_⟩); gi_at_call 100; refine (callsIn_wide.2 (HSg.out W)).mono ?_; rintro e w3 ⟨rfl, rfl⟩)
          | (gi_at_builtin; refine wpListIn_append_own _ rfl _ _ 30 rfl X 3 i0 (.int .i64 0) 1 8 Tryz.underlying30 hi0 hz0 hz1 hz2 rfl (by decide) _ _ _ rfl (HR3.out.alloc _) ⟨W3.heap.size, 0, none⟩ 1 1 [.int .i64 x.2] rfl rfl (cell_one_new _ _ _) (by simp [Value.oneCell']) (by rw [snds_len]; unfold maxLen; omega) (by rw [snds_len]; omega) (by simp; omega) ?_; intro v' w1 hown' hgrow _; obtain ⟨g', cap', rfl⟩ := ownsRow_succ hown'; obtain ⟨hv1, hv2, hr2, hk2, hb2⟩ := HT3.out.bo.appended (by decide) HR3.out (by omega) hown' hgrow; obtain ⟨hc1, hf1⟩ := hv1.one; have hgrow' := hid hgrow; clear hgrow))
        obtain ⟨q1, q2, q3⟩ := HG.out
        have hg1 : (W3.alloc (.cells #[.int .i64 x.2] 3)).grownBy w1 (Value.slice A pre.length c).ownBlock := hgrow'.out
        have hbl := own_block HR3.out
        have kx1 : KeepX (UtT f R (R + 1) (R + 1 + 1)) W2.heap.size X W W3 := KeepX.of_fr HF3.out (fun k hk e => by
          rcases hk with rfl | rfl | rfl | hk
          · omega
          · omega
          · omega
          · have := HM.out k hk; omega) (fun k e => .inl (by omega)) (fun k o e hB _ => by omega)
        have kx2 : KeepX (UtT f R (R + 1) (R + 1 + 1)) W2.heap.size X W3 (w1.setCell ⟨P0 + 1 + 1 + 1 + 1, 0, none⟩ _) := KeepX.appended hk2 hg1 (fun k hk => ⟨by
          rcases hk with hk | (rfl | rfl | rfl | hk) | hk
          · omega
          · omega
          · omega
          · omega
          · have := HM.out k hk; omega
          · omega, fun e => by
          have h1 := hbl k e.symm
          rcases hk with hk | hk | hk
          · omega
          · have := HU.out.lt k hk; omega
          · omega⟩)
        refine ⟨kx1.trans kx2, ⟨.slice (some ⟨g', 0, none⟩) ((snds pre).length + 1) cap', ?_, ?_, hX⟩, (HB.out.trans' HF3.out (fun j hj hl e => by omega)).appended hg1 (by omega) (fun j e => by have := hbl j e; omega) (by omega)⟩
        · rw [segF_snoc, segL_snoc, hg, if_neg HL0.out]
          exact HT3.out.kept (fun k a1 a2 a3 => hb2 k (by omega) a3) hv2
        · rw [snds_snoc]
          unfold RowI
          rw [List.length_append, List.map_append]
          exact hr2
    · have HSg := hid (levelSeg_bad x.1 (by omega))
      have Hx := hid (show 4096 ≤ x.1 by omega)
      clear hx
      gi_wp2_with (first
        | ((first | refine ⟨trivial, wideNo, ?_⟩ | refine ⟨trivial, ?_⟩); gi_at_call 100; refine (callsIn_wide.2 (HSg.out W)).mono ?_; rintro e w3 ⟨rfl, rfl⟩))
      exact ⟨(((KeepsOthers.setCell W _ _).trans (KeepsOthers.setCell _ _ _)).trans (KeepsOthers.setCell _ _ _)).from _, rfl, x, by simp, Hx.out⟩
  case done =>
    rintro D X ys W hD hys ⟨⟨v, ht, hrow, hX⟩, hF⟩ hK
    obtain ⟨A, c, rfl⟩ := hrow.slice
    rw [snds_len] at ht hrow
    have HT := hid ht
    have Hrow := hid hrow
    have HB := hid hF
    have HG := hid (And.intro hG (And.intro hs2 hsz1))
    obtain ⟨c1, f1⟩ := ht.r1.one
    obtain ⟨c2, f2⟩ := ht.r2.one
    obtain ⟨c3, f3⟩ := ht.r3.one
    obtain ⟨c4, f4⟩ := ht.bo.one
    obtain ⟨c5, f5⟩ := ht.bf.one
    obtain ⟨c6, f6⟩ := ht.bl.one
    clear hF hG hfA htA hrow ht hup HA HT0 h1 hT0
    have hsg := hys.seg hsm
    obtain ⟨x1, hx1⟩ : ∃ x1, segL ys = x1 := ⟨_, rfl⟩
    obtain ⟨x2, hx2⟩ : ∃ x2, segF ys = x2 := ⟨_, rfl⟩
    rw [hx1, hx2] at HT
    rw [hx2] at c5
    rw [hx1] at c6
    rw [hx1, hx2] at hsg
    have HE := hid (And.intro hx1 (And.intro hx2 hys))
    obtain ⟨b1, b2, b3, b4⟩ := hsg
    have HK := hid hK
    clear hx1 hx2 hys hK
    gi_wp2_with fail
    gi_region
    have q := HG.out
    have hT := HT.out
    have k1 := ((hT.r1.set 0 (.slice A ys.length c)).other (p := ⟨P0 + 1 + 1, 0, none⟩) (.int .i64 (x1 - x2 + 1)) (by show P0 + 1 ≠ P0 + 1 + 1; omega)).other (p := ⟨P0 + 1 + 1 + 1, 0, none⟩) (.int .i64 0) (by show P0 + 1 ≠ P0 + 1 + 1 + 1; omega)
    have k2 := ((hT.r2.other (p := ⟨P0 + 1, 0, none⟩) (.slice A ys.length c) (by show P0 + 1 + 1 ≠ P0 + 1; omega)).set 0 (.int .i64 (x1 - x2 + 1))).other (p := ⟨P0 + 1 + 1 + 1, 0, none⟩) (.int .i64 0) (by show P0 + 1 + 1 ≠ P0 + 1 + 1 + 1; omega)
    have k3 := ((hT.r3.other (p := ⟨P0 + 1, 0, none⟩) (.slice A ys.length c) (by show P0 + 1 + 1 + 1 ≠ P0 + 1; omega)).other (p := ⟨P0 + 1 + 1, 0, none⟩) (.int .i64 (x1 - x2 + 1)) (by show P0 + 1 + 1 + 1 ≠ P0 + 1 + 1; omega)).set 0 (.int .i64 0)
    have hF5 : Fr (fun k => k = P0 + 1 ∨ k = P0 + 1 + 1 ∨ k = P0 + 1 + 1 + 1) W (((W.setCell ⟨P0 + 1, 0, none⟩ (.slice A ys.length c)).setCell ⟨P0 + 1 + 1, 0, none⟩ (.int .i64 (x1 - x2 + 1))).setCell ⟨P0 + 1 + 1 + 1, 0, none⟩ (.int .i64 0)).drew :=
      ((((Fr.refl _ W).setCell ⟨P0 + 1, 0, none⟩ _ (by show NG ≤ P0 + 1; omega) (fun _ => .inl rfl)).setCell ⟨P0 + 1 + 1, 0, none⟩ _ (by show NG ≤ P0 + 1 + 1; omega) (fun _ => .inr (.inl rfl))).setCell ⟨P0 + 1 + 1 + 1, 0, none⟩ _ (by show NG ≤ P0 + 1 + 1 + 1; omega) (fun _ => .inr (.inr rfl))).drew
    obtain ⟨W5, hW5⟩ : ∃ W5, (((W.setCell ⟨P0 + 1, 0, none⟩ (.slice A ys.length c)).setCell ⟨P0 + 1 + 1, 0, none⟩ (.int .i64 (x1 - x2 + 1))).setCell ⟨P0 + 1 + 1 + 1, 0, none⟩ (.int .i64 0)).drew = W5 := ⟨_, rfl⟩
    have k1' : Has W5 (P0 + 1) [.slice A ys.length c] 30 := hW5 ▸ k1
    have k2' : Has W5 (P0 + 1 + 1) [.int .i64 (x1 - x2 + 1)] 3 := hW5 ▸ k2
    have k3' : Has W5 (P0 + 1 + 1 + 1) [.int .i64 0] 36 := hW5 ▸ k3
    rw [hW5] at hF5 ⊢
    clear k1 k2 k3 hW5 f1 f2 f3 f4 f5 f6 c1 c2 c3 c4 c5 c6
    gi_wp2_with fail
    have hD5 : W5.heap[D]? = some (.deferred (some [])) := (hF5.block D (Array.getElem?_eq_some_iff.1 HK.out).1 (fun e => by rcases e with e | e | e <;> omega)).trans HK.out
    refine ⟨by simp, .inl ⟨_, _, rfl, run_takeDeferred hD5, ?_⟩⟩
    have p1 : (W5.putObj D (.deferred none)).cell? ⟨P0 + 1, 0, none⟩ = some (.slice A ys.length c) := (World.cell?_of_block (w := W5) (World.putObj_heap_other (show P0 + 1 ≠ D by omega))).trans (k1'.cell 0)
    have p2 : (W5.putObj D (.deferred none)).cell? ⟨P0 + 1 + 1, 0, none⟩ = some (.int .i64 (x1 - x2 + 1)) := (World.cell?_of_block (w := W5) (World.putObj_heap_other (show P0 + 1 + 1 ≠ D by omega))).trans (k2'.cell 0)
    have p3 : (W5.putObj D (.deferred none)).cell? ⟨P0 + 1 + 1 + 1, 0, none⟩ = some (.int .i64 0) := (World.cell?_of_block (w := W5) (World.putObj_heap_other (show P0 + 1 + 1 + 1 ≠ D by omega))).trans (k3'.cell 0)
    have hrow5 : RowI W5 X (.slice A ys.length c) (snds ys) := Hrow.out.fr hF5 (fun k hk e => by rcases e with e | e | e <;> omega)
    have hF9 : Fr Nil1 w (W5.putObj D (.deferred none)) := (HB.out.trans' hF5 (fun j hj hl e => by rcases e with e | e | e <;> omega)).putObj D _ (by omega) (by omega)
    obtain ⟨e1, e2, e3⟩ := HE.out
    exact ⟨.tuple #[.slice A ys.length c, .int .i64 (x1 - x2 + 1), .int .i64 0], by simp [results, Tryz.f35, go_sem, p1, p2, p3], _, ys, by rw [e1, e2], hid ⟨own_mono (ownsRow_putObj hrow5 _ hD5 rfl) (by omega), e3, hF9⟩⟩
  case stop =>
    rintro D c pre W _ hp ⟨_, q, hq, hq2⟩ _
    have := getD_lt (hp q hq)
    omega
end Go.Proofs.YtechphliifginaaGreatDoor
