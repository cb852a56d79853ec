/- audit.Turned: which slots of two arrays differ. -/
import Derived.Test.YtonoaklajnfmiaaDoorB5
import Derived.Test.YtonoaklajnfmiaaDoorK2
set_option linter.unusedVariables false
set_option linter.unusedSimpArgs false
namespace Go.Proofs.YtonoaklajnfmiaaDoor
open Go.RowKit

def difB (σ τ : List (Option Int)) (i : Int) : Bool := (atB σ i != atB τ i) || (atV σ i != atV τ i)
theorem difB_eq (σ τ : List (Option Int)) (i : Nat) : difB σ τ i = decide (σ.getD i none ≠ τ.getD i none) := by
  unfold difB atB atV onOf
  rw [decide_eq_true (show (0 : Int) ≤ (i : Int) by omega), if_pos (by omega), if_pos (by omega), Int.toNat_natCast, Bool.true_and, Bool.true_and]
  cases h1 : σ.getD i none <;> cases h2 : τ.getD i none <;> simp [bne]
  rfl
def trnTo (σ τ : List (Option Int)) : Nat → List Int
  | 0 => []
  | i + 1 => trnTo σ τ i ++ if σ.getD i none ≠ τ.getD i none then [(i : Int)] else []
theorem trnTo_length (σ τ : List (Option Int)) : ∀ i, (trnTo σ τ i).length ≤ i
  | 0 => Nat.le_refl 0
  | i + 1 => by
    have := trnTo_length σ τ i
    unfold trnTo
    rw [List.length_append]
    split <;> simp <;> omega
def turnedL (σ τ : List (Option Int)) : List Int := trnTo σ τ σ.length

set_option maxHeartbeats 1000000 in
theorem turned1_any {f g : SF} {σ τ : List (Option Int)} {w : World} (h1 : SlotsR w f σ) (h2 : SlotsR w g τ) (x y : Nat) (hx : Has w x [.pointer (some ⟨f.s, 0, none⟩)] 26) (hy : Has w y [.pointer (some ⟨g.s, 0, none⟩)] 26) (i : Int) :
    Calls Tryd.prog 29 #[.int .i64 i, .pointer (some ⟨x, 0, none⟩), .pointer (some ⟨y, 0, none⟩)] w fun e w' => e = .returned (.bool (difB σ τ i)) ∧ w = w' := by
  have H1 := hid h1
  have H2 := hid h2
  obtain ⟨x0, xf⟩ := hx.one
  obtain ⟨y0, yf⟩ := hy.one
  have HD := hid (show difB σ τ i = ((atB σ i != atB τ i) || (atV σ i != atV τ i)) from rfl)
  clear h1 h2 hx hy
  have a1 := fun w (h : SlotsR w f σ) => gapsAt_any h i
  have a2 := fun w (h : SlotsR w g τ) => gapsAt_any h i
  have A1 := hid (a1 w H1.out)
  have A2 := hid (a2 w H2.out)
  clear a1 a2
  generalize atB σ i = b1 at *
  generalize atB τ i = b2 at *
  generalize atV σ i = v1 at *
  generalize atV τ i = v2 at *
  generalize difB σ τ i = d at *
  by_cases hv : v1 = v2
  · have hvb : (v1 != v2) = false := by rw [bne_eq_false_iff_eq]; exact hv
    clear hv
    cases b1 <;> cases b2
    all_goals
      have hd := HD.out
      rw [hvb] at hd
      simp at hd
      subst hd
      go_enter Tryd.func29, Tryd.ntmps29
      go_wp2_with fail
      refine A1.out.mono ?_
      rintro e w1 ⟨rfl, rfl⟩
      go_wp2_with fail
      refine A2.out.mono ?_
      rintro e w1 ⟨rfl, rfl⟩
      go_wp2_with fail
      go_ret
      exact ⟨rfl, rfl⟩
  · have hvb : (v1 != v2) = true := by rw [bne_iff_ne]; exact hv
    clear hv
    cases b1 <;> cases b2
    all_goals
      have hd := HD.out
      rw [hvb] at hd
      simp at hd
      subst hd
      go_enter Tryd.func29, Tryd.ntmps29
      go_wp2_with fail
      refine A1.out.mono ?_
      rintro e w1 ⟨rfl, rfl⟩
      go_wp2_with fail
      refine A2.out.mono ?_
      rintro e w1 ⟨rfl, rfl⟩
      go_wp2_with fail
      go_ret
      exact ⟨rfl, rfl⟩

set_option maxHeartbeats 400000 in
theorem turned_nil1 (q : Option Addr) (w : World) : Calls Tryd.prog 9 #[.pointer none, .pointer q] w fun e w' => e = .returned (.tuple #[.slice none 0 0, .int .i64 2]) ∧ Fr Nil1 w w' := by
  go_enter Tryd.func9, Tryd.ntmps9
  go_wp2_with fail
  go_ret2
  exact ⟨rfl, ((Fr.refl _ _).alloc _).alloc _⟩
set_option maxHeartbeats 400000 in
theorem turned_nil2 (b : Nat) (w : World) : Calls Tryd.prog 9 #[.pointer (some ⟨b, 0, none⟩), .pointer none] w fun e w' => e = .returned (.tuple #[.slice none 0 0, .int .i64 2]) ∧ Fr Nil1 w w' := by
  go_enter Tryd.func9, Tryd.ntmps9
  go_wp2_with fail
  go_ret2
  exact ⟨rfl, ((Fr.refl _ _).alloc _).alloc _⟩

set_option maxHeartbeats 2000000 in
theorem turned_any {f g : SF} {σ τ : List (Option Int)} {w : World} (h1 : SlotsR w f σ) (h2 : SlotsR w g τ) (hl : σ.length = τ.length) :
    Calls Tryd.prog 9 #[.pointer (some ⟨f.s, 0, none⟩), .pointer (some ⟨g.s, 0, none⟩)] w fun e w' => ∃ v, e = .returned (.tuple #[v, .int .i64 0]) ∧ RowI w' w.heap.size v (turnedL σ τ) ∧ Fr Nil1 w w' := by
  obtain ⟨i0, hi, hz0, hz1, hz2⟩ := info_parts info_int
  have hfr0 : Fr Nil1 w ((w.alloc (.cells #[.pointer (some ⟨f.s, 0, none⟩)] 26)).alloc (.cells #[.pointer (some ⟨g.s, 0, none⟩)] 26)) := ((Fr.refl _ _).alloc _).alloc _
  have H1 := hid (h1.new hfr0)
  have H2 := hid (h2.new hfr0)
  have HL := hid hl
  have hnl : ((σ.length : Int) != (τ.length : Int)) = false := by rw [bne_eq_false_iff_eq]; omega
  clear h1 h2 hl
  go_enter Tryd.func9, Tryd.ntmps9
  go_wp2_with fail
  go_quiet ((go_at_call 28; first | (with_reducible exact quiet_eq (gapsCap_any (H1.out.new ((Fr.refl Nil1 _).drewN _)))) | (with_reducible exact quiet_eq (gapsCap_any (H2.out.new ((Fr.refl Nil1 _).drewN _))))))
  go_wp2_with (first | (go_at_call 28; refine (gapsCap_any (H1.out.new ((Fr.refl Nil1 _).drewN _))).mono ?_; rintro e w1 ⟨rfl, rfl⟩))
  have hx0 := (Has.new w [.pointer (some ⟨f.s, 0, none⟩)] 26).alloc (.cells #[.pointer (some ⟨g.s, 0, none⟩)] 26)
  have hy0 := Has.new (w.alloc (.cells #[.pointer (some ⟨f.s, 0, none⟩)] 26)) [.pointer (some ⟨g.s, 0, none⟩)] 26
  rw [World.size_alloc] at hy0
  obtain ⟨W0, hW0⟩ : ∃ W0, ((w.alloc (.cells #[.pointer (some ⟨f.s, 0, none⟩)] 26)).alloc (.cells #[.pointer (some ⟨g.s, 0, none⟩)] 26)).drewN nq = W0 := ⟨_, rfl⟩
  have HX := hid (show Has W0 w.heap.size [.pointer (some ⟨f.s, 0, none⟩)] 26 by rw [← hW0]; exact hx0)
  have HY := hid (show Has W0 (w.heap.size + 1) [.pointer (some ⟨g.s, 0, none⟩)] 26 by rw [← hW0]; exact hy0)
  have HF := hid (show Fr Nil1 w W0 by rw [← hW0]; exact hfr0.drewN _)
  have HS1 := hid (show SlotsR W0 f σ by rw [← hW0]; exact H1.out.new ((Fr.refl Nil1 _).drewN _))
  have HS2 := hid (show SlotsR W0 g τ by rw [← hW0]; exact H2.out.new ((Fr.refl Nil1 _).drewN _))
  rw [hW0]
  have hws : w.heap.size ≤ W0.heap.size := HF.out.size
  have hn2 : σ.length ≤ 65536 := HS1.out.bits.n2
  have HG := hid HS1.out.g.size
  clear hW0 hx0 hy0 hfr0 H1 H2
  go_loopw [7, 8, 25] (fun v x i wr => ∃ k : Nat, k ≤ σ.length ∧ i = .int .i64 k ∧ Hid (RowI wr W0.heap.size v (trnTo σ τ k) ∧ Fr Nil1 W0 wr)) (fun _ _ i _ => σ.length - (intOf i).toNat)
  case atStart => exact ⟨0, by omega, rfl, hid ⟨RowI.nil _ _, Fr.refl _ _⟩⟩
  case round =>
    obtain ⟨k, hk, rfl, HR⟩ := hrel
    by_cases hlt : k < σ.length
    · have hlen := trnTo_length σ τ k
      have hdd := hid (difB_eq σ τ k)
      have HC := hid (fun (w' : World) (h : Fr Nil1 W0 w') => turned1_any (HS1.out.new h) (HS2.out.new h) w.heap.size (w.heap.size + 1) (HX.out.fr' h id) (HY.out.fr' h id) (k : Int))
      have hst : trnTo σ τ (k + 1) = trnTo σ τ k ++ if σ.getD k none ≠ τ.getD k none then [(k : Int)] else [] := rfl
      have HST := hid hst
      clear hst
      cases hb : difB σ τ k
      · have HB := hid hb
        rw [hb] at HC
        clear hb
        go_wp2_with (first | (go_at_call 29; refine (HC.out _ HR.out.2).mono ?_; rintro e w1 ⟨rfl, rfl⟩))
        refine ⟨⟨k + 1, by omega, by go_num, ?_⟩, by simp [intOf]; omega⟩
        have := hdd.out
        rw [HB.out] at this
        rw [HST.out, if_neg (of_decide_eq_false this.symm), List.append_nil]
        exact HR
      · have HB := hid hb
        rw [hb] at HC
        have hwr : W0.heap.size ≤ wr.heap.size := HR.out.2.size
        clear hb
        go_wp2_with (first | (go_at_call 29; refine (HC.out _ HR.out.2).mono ?_; rintro e w1 ⟨rfl, rfl⟩) | (at_builtin; refine wpList_append_own _ rfl _ _ 30 rfl W0.heap.size 3 i0 (.int .i64 0) 1 8 Tryd.underlying30 hi hz0 hz1 hz2 rfl (by decide) _ _ _ rfl (HR.out.1.alloc _) ⟨wr.heap.size, 0, none⟩ 1 1 [.int .i64 (k : Int)] rfl rfl (cell_one_new _ _ _) (by simp [Value.oneCell']) (by unfold maxLen; omega) (by omega) (by simp; omega) ?_; intro v' w1 hown' hgrow _; have HO := hid hown'; have HGr := hid hgrow; clear hown' hgrow))
        refine ⟨⟨k + 1, by omega, by go_num, ?_⟩, by simp [intOf]; omega⟩
        have := hdd.out
        rw [HB.out] at this
        rw [HST.out, if_pos (of_decide_eq_true this.symm)]
        refine hid ⟨?_, ?_⟩
        · have := HO.out
          unfold RowI
          rw [List.length_append, List.map_append]
          exact this
        · exact (HR.out.2.alloc _).grown HGr.out (fun j e => by have := own_block HR.out.1 j e; have := HG.out; omega) (fun j e h => by have := own_block HR.out.1 j e; omega)
    · have hkk := hid (show k = σ.length by omega)
      go_wp2_with fail
      go_ret2
      have h := HR.out
      rw [hkk.out] at h
      exact ⟨_, rfl, h.1.mono hws, HF.out.trans h.2⟩
end Go.Proofs.YtonoaklajnfmiaaDoor
