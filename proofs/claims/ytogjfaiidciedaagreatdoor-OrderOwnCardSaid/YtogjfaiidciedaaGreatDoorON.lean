/- order.New, Before; the laws' handleOf. -/
import Derived.Test.YtogjfaiidciedaaGreatDoorOM
set_option linter.unusedVariables false
set_option linter.unusedSimpArgs false
namespace Go.Proofs.YtogjfaiidciedaaGreatDoor
open Go.RowKit Go.Maps

set_option maxRecDepth 100000 in
set_option maxHeartbeats 1000000 in
theorem ordNew_any (w : World) (hg : GW w) : Calls Tryz.prog 20 #[] w fun e w' => ∃ L : Nat, e = .returned (.pointer (some ⟨L, 0, none⟩)) ∧ Hid (NewW w w L w') := by
  have HN := hid (pmaNew_any Value.nilFunc (.inl rfl) w hg)
  have HT := hid (fun w1 (hf : Fr Nil1 w w1) => tabNew_any w1)
  have HG := hid hg.size
  go_enter Tryz.func20, Tryz.ntmps20
  go_wp2_with (first
    | (go_at_call 41; refine (tabNew_any w1).mono ?_; rintro e w2 ⟨rfl, ht, hf⟩; have H2 := hid (And.intro ht hf); clear ht hf)
    | (go_at_call 40; refine HN.out.mono ?_; rintro e w1 ⟨F, rfl, h1, h2, h3⟩; have H1 := hid (And.intro h1 (And.intro h2 h3)); clear h1 h2 h3))
  have hs1 := H1.out.2.1.size
  have ht := H2.out.1 (by have := HG.out; omega)
  have hs2 := H2.out.2.size
  have fz : Fr Nil1 w (w2.alloc (.cells #[.pointer (some ⟨F.p, 0, none⟩), .pointer (some ⟨w1.heap.size + 1, 0, none⟩)] 62)) := ((H1.out.2.1.trans H2.out.2).alloc _)
  have htl := ht.lt
  refine (ordFollow_any (w0 := w) (F := F) (tf := ⟨w1.heap.size + 1, w1.heap.size⟩) (L := w2.heap.size) (H1.out.1.new (H2.out.2.alloc _)) (ht.new ((Fr.refl _ _).alloc _)) (Has.new w2 _ _) fz (by have := HG.out; omega) H1.out.2.2 (fun k hk => ⟨?_, fun hF => ?_⟩) ⟨by omega, fun hF => ?_⟩).mono ?_
  · rcases hk with rfl | rfl
    · show w.heap.size ≤ w1.heap.size + 1; omega
    · show w.heap.size ≤ w1.heap.size; omega
  · have := H1.out.1.lt k hF
    rcases hk with rfl | rfl
    · have h' : w1.heap.size + 1 < w1.heap.size := this; omega
    · have h' : w1.heap.size < w1.heap.size := this; omega
  · have := H1.out.1.lt _ hF; omega
  · rintro e w' ⟨rfl, H3⟩
    go_wp2_with fail
    go_ret
    exact ⟨_, rfl, H3⟩
section
variable {w0 w : World} {L bl p : Nat} {tf : TF} {F : PF} {σ : List (Option Int)} {h : Nat} {τ : List (Option Int)}
theorem ordBefore_ok (H : OrdR w0 L bl p tf F σ h τ w) (a b : Int) (a1 : -9223372036854775808 ≤ a) (a2 : a ≤ 9223372036854775807) (b1 : -9223372036854775808 ≤ b) (b2 : b ≤ 9223372036854775807) (la : liveB τ a = true) (lb : liveB τ b = true) :
    Calls Tryz.prog 12 #[.pointer (some ⟨L, 0, none⟩), .int .i64 a, .int .i64 b] w fun e w' => e = .returned (.tuple #[.bool (decide (slotV τ a < slotV τ b)), .int .i64 0]) ∧ w = w' := by
  have ha : staleE τ a = 0 := by unfold staleE; rw [if_pos la]
  have hb : staleE τ b = 0 := by unfold staleE; rw [if_pos lb]
  have HA := hid (ha ▸ ordLabel_any H a a1 a2)
  have HB := hid (hb ▸ ordLabel_any H b b1 b2)
  generalize slotV τ a = x at *
  generalize slotV τ b = y at *
  clear H la lb ha hb
  go_enter Tryz.func12, Tryz.ntmps12
  go_wp2_with (first
    | (go_at_call 13; with_reducible refine HA.out.mono ?_; rintro e w1 ⟨rfl, rfl⟩)
    | (go_at_call 13; refine HB.out.mono ?_; rintro e w1 ⟨rfl, rfl⟩))
  go_ret2
  exact ⟨rfl, rfl⟩
theorem ordBefore_stale (H : OrdR w0 L bl p tf F σ h τ w) (a b : Int) (a1 : -9223372036854775808 ≤ a) (a2 : a ≤ 9223372036854775807) (b1 : -9223372036854775808 ≤ b) (b2 : b ≤ 9223372036854775807) (hl : liveB τ a = false ∨ liveB τ b = false) :
    Calls Tryz.prog 12 #[.pointer (some ⟨L, 0, none⟩), .int .i64 a, .int .i64 b] w fun e w' => e = .returned (.tuple #[.bool false, .int .i64 17]) ∧ w = w' := by
  cases la : liveB τ a with
  | false =>
    have ha : staleE τ a = 17 := by unfold staleE; rw [if_neg (by rw [la]; simp)]
    have HA := hid (ha ▸ ordLabel_any H a a1 a2)
    generalize slotV τ a = x at *
    clear H hl la ha
    go_enter Tryz.func12, Tryz.ntmps12
    go_wp2_with (go_at_call 13; refine HA.out.mono ?_; rintro e w1 ⟨rfl, rfl⟩)
    go_ret2
    exact ⟨rfl, rfl⟩
  | true =>
    have lb : liveB τ b = false := hl.elim (fun h => by rw [la] at h; cases h) id
    have ha : staleE τ a = 0 := by unfold staleE; rw [if_pos la]
    have hb : staleE τ b = 17 := by unfold staleE; rw [if_neg (by rw [lb]; simp)]
    have HA := hid (ha ▸ ordLabel_any H a a1 a2)
    have HB := hid (hb ▸ ordLabel_any H b b1 b2)
    have HNe := hid (show a ≠ b from fun e => by rw [e, lb] at la; cases la)
    generalize slotV τ a = x at *
    generalize slotV τ b = y at *
    clear H hl la lb ha hb
    go_enter Tryz.func12, Tryz.ntmps12
    go_wp2_with (first
      | (go_at_call 13; with_reducible refine HA.out.mono ?_; rintro e w1 ⟨rfl, rfl⟩)
      | (go_at_call 13; refine HB.out.mono ?_; rintro e w1 ⟨rfl, rfl⟩))
    go_ret2
    exact ⟨rfl, rfl⟩
/-- Labels rise with the list. -/
theorem OrdR.lt (H : OrdR w0 L bl p tf F σ h τ w) {a b : Int} {i j : Nat} (ha : (its σ)[i]? = some a) (hb : (its σ)[j]? = some b) : slotV τ a < slotV τ b ↔ i < j := by
  have la := (H.live a).2 (List.mem_of_getElem? ha)
  have lb := (H.live b).2 (List.mem_of_getElem? hb)
  obtain ⟨q, q1, q2, q3⟩ := H.rank la ha
  obtain ⟨r, r1, r2, r3⟩ := H.rank lb hb
  rw [q1, r1]
  constructor
  · intro hlt
    have := cntOn_on (onOf σ) q (onOf_some q2)
    have := cntOn_le_of (onOf σ) (show q + 1 ≤ r by omega)
    omega
  · intro hlt
    rcases Nat.lt_or_ge q r with g | g
    · omega
    · have := cntOn_le_of (onOf σ) g
      omega
end
/-- An act, as it lies. -/
structure AcO where
  d : Int
  raw : Bool
  hh : Int
/-- Of which handle. -/
def AcO.of (a : AcO) (l : List Int) : Int := if a.raw = true ∨ l.length = 0 then a.hh else l.getD (a.hh % l.length).toNat 0
theorem tmod_fix' (a m : Int) (hm : 0 < m) : (a.tmod m + m).tmod m = a % m ∧ -m < a.tmod m ∧ a.tmod m < m := by
  have h1 : -m < a.tmod m ∧ a.tmod m < m := by
    have := Int.tmod_lt_of_pos a hm
    refine ⟨?_, this⟩
    rcases Int.le_total 0 a with h | h
    · have := Int.tmod_nonneg m h
      omega
    · have h2 : a.tmod m = -((-a).tmod m) := by rw [Int.neg_tmod]; omega
      have := Int.tmod_lt_of_pos (-a) hm
      omega
  refine ⟨?_, h1⟩
  rw [Int.tmod_eq_emod_of_nonneg (by omega), Int.add_emod_right, Int.tmod_def, Int.sub_mul_emod_self_left]
set_option maxRecDepth 100000 in
set_option maxHeartbeats 1000000 in
theorem handleOf_any (a : AcO) (xs : List Int) (v : Value) (w : World) (hx : Rd w v (ints' xs)) (hl : xs.length ≤ 65536) (b1 : -9223372036854775808 ≤ a.hh) (b2 : a.hh ≤ 9223372036854775807) :
    Calls Tryz.prog 19 #[.agg #[.int .i64 a.d, .bool a.raw, .int .i64 a.hh], v] w fun e w' => e = .returned (.int .i64 (a.of xs)) ∧ Fr Nil1 w w' := by
  obtain ⟨A, c, rfl, hb, hA⟩ := hx
  rw [ints'_length] at hA ⊢
  obtain ⟨d, raw, z⟩ := a
  have HA := hid hA
  have F0 := hid (show Fr Nil1 w (w.alloc (.cells #[.int .i64 d, .bool raw, .int .i64 z] 44)) from (Fr.refl _ _).alloc _)
  have HP : Hid ((⟨d, raw, z⟩ : AcO).of xs = if raw = true ∨ xs.length = 0 then z else xs.getD (z % xs.length).toNat 0) := hid rfl
  show Calls Tryz.prog 19 #[.agg #[.int .i64 d, .bool raw, .int .i64 z], .slice A xs.length c] w _
  clear hA
  obtain ⟨PL, hPL⟩ : ∃ PL, (⟨d, raw, z⟩ : AcO).of xs = PL := ⟨_, rfl⟩
  rw [hPL] at HP ⊢
  clear hPL
  cases raw with
  | true =>
    have HQ := hid (HP.out.trans (if_pos (.inl rfl)))
    go_enter Tryz.func19, Tryz.ntmps19
    go_wp2_with fail
    go_ret
    rw [HQ.out]
    exact ⟨rfl, F0.out⟩
  | false =>
    by_cases h0 : xs.length = 0
    · have HQ := hid (HP.out.trans (if_pos (.inr h0)))
      have hI : (xs.length : Int) = 0 := by omega
      have hb0 : ((xs.length : Int) == 0) = true := by rw [beq_iff_eq]; exact hI
      clear h0 hI
      go_enter Tryz.func19, Tryz.ntmps19
      go_wp2_with fail
      go_ret
      rw [HQ.out]
      exact ⟨rfl, F0.out⟩
    · have HQ := hid (HP.out.trans (if_neg (by rintro (h | h); cases h; exact h0 h)))
      obtain ⟨t1, t2, t3⟩ := tmod_fix' z xs.length (by omega)
      have m0 := Int.emod_nonneg z (show (xs.length : Int) ≠ 0 by omega)
      have m1 := Int.emod_lt_of_pos z (show 0 < (xs.length : Int) by omega)
      obtain ⟨ad, rfl, hc⟩ := HA.out (by omega)
      have hcell := hc (z % (xs.length : Nat)).toNat _ (ints'_get xs _ (by omega))
      have hcc := (F0.out.cell hcell (fun h => h))
      generalize xs.getD (z % (xs.length : Nat)).toNat 0 = P0 at *
      obtain ⟨k, hk⟩ : ∃ k : Nat, z % (xs.length : Int) = k := ⟨(z % (xs.length : Int)).toNat, by omega⟩
      rw [hk] at t1 m0 m1 hcell hcc
      rw [Int.toNat_natCast] at hcell hcc
      have hb0 : ((xs.length : Int) == 0) = false := beq_eq_false_iff_ne.2 (by omega)
      have v1 : IntKind.i64.wrap (z.tmod xs.length + xs.length) = z.tmod xs.length + xs.length := IntWalk.i64_in _ (by omega)
      have hlt : k < xs.length := by omega
      go_enter Tryz.func19, Tryz.ntmps19
      go_wp2_with fail
      go_ret
      rw [HQ.out]
      exact ⟨rfl, F0.out⟩
end Go.Proofs.YtogjfaiidciedaaGreatDoor
