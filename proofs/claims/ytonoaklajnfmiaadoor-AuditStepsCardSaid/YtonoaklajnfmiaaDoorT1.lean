/- audit.kind, audit.in, the closure of audit.Inside, slices.IndexFunc and ContainsFunc of it. -/
import Derived.Test.YtonoaklajnfmiaaDoorB4
import Derived.Test.YtonoaklajnfmiaaDoorC1
set_option linter.unusedVariables false
set_option linter.unusedSimpArgs false
namespace Go.Proofs.YtonoaklajnfmiaaDoor
open Go.RowKit

def kindB (k : Int) : Bool := decide (0 ≤ k) && decide (k ≤ 3)
/-- Is a segment in a step's window? -/
def inB (k f s seg : Int) : Bool := decide (k = 1) && decide (0 < s) && decide (f ≤ seg) && decide (seg - f < s)

theorem auditKind_any (k f s c : Int) (w : World) : Calls Tryd.prog 39 #[.agg #[.int .i64 k, .int .i64 f, .int .i64 s, .int .i64 c]] w fun e w' => e = .returned (.bool (kindB k)) ∧ Fr Nil1 w w' := by
  have HF := hid (show Fr Nil1 w (w.alloc (.cells #[.int .i64 k, .int .i64 f, .int .i64 s, .int .i64 c] 45)) from (Fr.refl _ _).alloc _)
  by_cases h1 : 0 ≤ k
  · have HK := hid (show kindB k = decide (k ≤ 3) by unfold kindB; rw [decide_eq_true h1]; rfl)
    go_enter Tryd.func39, Tryd.ntmps39
    go_wp2_with fail
    go_ret
    rw [HK.out]
    exact ⟨rfl, HF.out⟩
  · have HK := hid (show kindB k = false by unfold kindB; rw [decide_eq_false h1]; rfl)
    go_enter Tryd.func39, Tryd.ntmps39
    go_wp2_with fail
    go_ret
    rw [HK.out]
    exact ⟨rfl, HF.out⟩

theorem u64_sub (a f : Int) (ha : 0 ≤ a) (h : f ≤ a) (ha2 : a ≤ 9223372036854775807) (hf : -9223372036854775808 ≤ f) : IntKind.u64.wrap (a - IntKind.u64.wrap f) = a - f := by
  simp [IntKind.wrap, IntKind.bits, IntKind.signed]
  omega

set_option maxHeartbeats 1000000 in
theorem auditIn_any (seg k f s c : Int) (h0 : 0 ≤ seg) (h1 : seg ≤ 9223372036854775807) (hf : -9223372036854775808 ≤ f) (hs : s ≤ 9223372036854775807) (w : World) :
    Calls Tryd.prog 42 #[.int .i64 seg, .agg #[.int .i64 k, .int .i64 f, .int .i64 s, .int .i64 c]] w fun e w' => e = .returned (.bool (inB k f s seg)) ∧ Fr Nil1 w w' := by
  have HF := hid (show Fr Nil1 w (w.alloc (.cells #[.int .i64 k, .int .i64 f, .int .i64 s, .int .i64 c] 45)) from (Fr.refl _ _).alloc _)
  have q0 : IntKind.u64.wrap seg = seg := IntWalk.u64_in _ (by omega)
  by_cases e1 : k = 1
  · by_cases e2 : 0 < s
    · by_cases e3 : f ≤ seg
      · have HK := hid (show inB k f s seg = decide (seg - f < s) by unfold inB; rw [decide_eq_true e1, decide_eq_true e2, decide_eq_true e3]; simp)
        subst e1
        have q1 := u64_sub seg f h0 e3 h1 hf
        have q2 : IntKind.u64.wrap s = s := IntWalk.u64_in _ (by omega)
        have Q1 := hid q1
        clear q1
        go_enter Tryd.func42, Tryd.ntmps42
        go_wp2_with fail
        go_ret
        rw [HK.out, ← Q1.out]
        exact ⟨rfl, HF.out⟩
      · have HK := hid (show inB k f s seg = false by unfold inB; rw [decide_eq_false e3]; simp)
        subst e1
        go_enter Tryd.func42, Tryd.ntmps42
        go_wp2_with fail
        go_ret
        rw [HK.out]
        exact ⟨rfl, HF.out⟩
    · have HK := hid (show inB k f s seg = false by unfold inB; rw [decide_eq_false e2]; simp)
      subst e1
      go_enter Tryd.func42, Tryd.ntmps42
      go_wp2_with fail
      go_ret
      rw [HK.out]
      exact ⟨rfl, HF.out⟩
  · have HK := hid (show inB k f s seg = false by unfold inB; rw [decide_eq_false e1]; simp)
    have hk : (k == 1) = false := by rw [beq_eq_false_iff_ne]; exact e1
    clear e1
    go_enter Tryd.func42, Tryd.ntmps42
    go_wp2_with fail
    go_ret
    rw [HK.out]
    exact ⟨rfl, HF.out⟩

theorem auditInside1_any (i k f s c : Int) (h0 : 0 ≤ i) (h1 : i ≤ 9223372036854775807) (hf : -9223372036854775808 ≤ f) (hs : s ≤ 9223372036854775807) (b : Nat) (w : World) (hb : Has w b [.int .i64 k, .int .i64 f, .int .i64 s, .int .i64 c] 45) :
    Calls Tryd.prog 41 #[.int .i64 i, .pointer (some ⟨b, 0, none⟩)] w fun e w' => e = .returned (.bool (!inB k f s (i / 8))) ∧ Fr Nil1 w w' := by
  have a0 : w.cell? ⟨b, 0, none⟩ = some (.int .i64 k) := hb.cell 0
  have a1 : w.cell? ⟨b, 1, none⟩ = some (.int .i64 f) := hb.cell 1
  have a2 : w.cell? ⟨b, 2, none⟩ = some (.int .i64 s) := hb.cell 2
  have a3 : w.cell? ⟨b, 3, none⟩ = some (.int .i64 c) := hb.cell 3
  have HI := hid (auditIn_any (i / 8) k f s c (by omega) (by omega) hf hs w)
  generalize inB k f s (i / 8) = bb at *
  clear hb
  go_enter Tryd.func41, Tryd.ntmps41
  go_wp2_with (first | (go_at_call 42; refine HI.out.mono ?_; rintro e w1 ⟨rfl, hF⟩; have HF := hid hF; clear hF))
  go_ret
  exact ⟨rfl, HF.out⟩

/-- Are all of the slots in a step's window? -/
def allIn (k f s : Int) (xs : List Int) : Bool := xs.all fun i => inB k f s (i / 8)
theorem allIn_false {k f s : Int} {xs : List Int} (j : Nat) (hj : j < xs.length) (h : inB k f s (xs.getD j 0 / 8) = false) : allIn k f s xs = false := by
  unfold allIn
  rw [List.all_eq_false]
  refine ⟨xs[j], List.getElem_mem hj, ?_⟩
  rw [List.getD_eq_getElem?_getD, List.getElem?_eq_getElem hj] at h
  simpa using h
theorem allIn_true {k f s : Int} {xs : List Int} (h : ∀ j, j < xs.length → inB k f s (xs.getD j 0 / 8) = true) : allIn k f s xs = true := by
  unfold allIn
  rw [List.all_eq_true]
  intro x hx
  obtain ⟨j, hj, rfl⟩ := List.getElem_of_mem hx
  have := h j hj
  rwa [List.getD_eq_getElem?_getD, List.getElem?_eq_getElem hj] at this

set_option maxHeartbeats 1000000 in
theorem indexFunc_any (k f s c : Int) (hf : -9223372036854775808 ≤ f) (hs : s ≤ 9223372036854775807) (b : Nat) (xs : List Int) (hx : ∀ j, j < xs.length → 0 ≤ xs.getD j 0 ∧ xs.getD j 0 ≤ 65536) (v : Value) (w : World) (hv : Rd w v (ints' xs))
    (hb : Has w b [.int .i64 k, .int .i64 f, .int .i64 s, .int .i64 c] 45) :
    Calls Tryd.prog 58 #[v, .func (.func 41) #[] #[.pointer (some ⟨b, 0, none⟩)]] w fun e w' => ∃ r : Int, e = .returned (.int .i64 r) ∧ (decide (0 ≤ r) = !allIn k f s xs) ∧ Fr Nil1 w w' := by
  obtain ⟨A, cc, rfl, hlen, hA⟩ := hv
  rw [ints'_length] at hlen hA ⊢
  have HA := hid hA
  have HB := hid hb
  clear hA hb
  go_enter Tryd.func58, Tryd.ntmps58
  go_wp2_with fail
  go_loopw [4, 5, 8] (fun _ _ i wr => ∃ j : Nat, j ≤ xs.length ∧ i = .int .i64 j ∧ Hid (Fr Nil1 w wr ∧ ∀ t, t < j → inB k f s (xs.getD t 0 / 8) = true)) (fun _ _ i _ => xs.length - (intOf i).toNat)
  case atStart => exact ⟨0, by omega, rfl, hid ⟨Fr.refl _ _, fun t ht => by omega⟩⟩
  case round =>
    obtain ⟨j, hj, rfl, HR⟩ := hrel
    by_cases hlt : j < xs.length
    · have hltI : (j : Int) < xs.length := by omega
      obtain ⟨ad, rfl, hc⟩ := HA.out (by omega)
      have c1 := HR.out.1.cell (hc j _ (ints'_get xs j hlt)) (fun h => h)
      obtain ⟨x0, x1⟩ := hx j hlt
      have HI := hid (auditInside1_any (xs.getD j 0) k f s c x0 (by omega) hf hs b wr (HB.out.fr' HR.out.1 id))
      have HJ := hid (fun h => allIn_false (k := k) (f := f) (s := s) j hlt h)
      have HJT := hid (fun h : inB k f s (xs.getD j 0 / 8) = true => fun t (ht : t < j + 1) => show inB k f s (xs.getD t 0 / 8) = true from by
        rcases Nat.lt_or_ge t j with g | g
        · exact HR.out.2 t g
        · obtain rfl : t = j := by omega
          exact h)
      clear hc
      generalize xs.getD j 0 = x at *
      cases hin : inB k f s (x / 8)
      · rw [hin] at HI
        have HJ1 := hid (HJ.out hin)
        clear hin
        go_wp2_with (first | (go_at_call 41; refine HI.out.mono ?_; rintro e w1 ⟨rfl, hF⟩; have HF := hid hF; clear hF))
        go_ret
        refine ⟨_, rfl, ?_, HR.out.1.trans HF.out⟩
        rw [HJ1.out, decide_eq_true (by omega)]
        rfl
      · rw [hin] at HI
        have HJ1 := hid (HJT.out hin)
        clear hin
        go_wp2_with (first | (go_at_call 41; refine HI.out.mono ?_; rintro e w1 ⟨rfl, hF⟩; have HF := hid hF; clear hF))
        exact ⟨⟨j + 1, by omega, by go_num, hid ⟨HR.out.1.trans HF.out, HJ1.out⟩⟩, by simp [intOf]; omega⟩
    · have HJ1 := hid (allIn_true (k := k) (f := f) (s := s) (fun t ht => HR.out.2 t (by omega)))
      have hltI : ¬ (j : Int) < xs.length := by omega
      go_wp2_with fail
      go_ret
      refine ⟨_, rfl, ?_, HR.out.1⟩
      rw [HJ1.out]
      rfl

theorem containsFunc_any (k f s c : Int) (hf : -9223372036854775808 ≤ f) (hs : s ≤ 9223372036854775807) (b : Nat) (xs : List Int) (hx : ∀ j, j < xs.length → 0 ≤ xs.getD j 0 ∧ xs.getD j 0 ≤ 65536) (v : Value) (w : World) (hv : Rd w v (ints' xs))
    (hb : Has w b [.int .i64 k, .int .i64 f, .int .i64 s, .int .i64 c] 45) :
    Calls Tryd.prog 40 #[v, .func (.func 41) #[] #[.pointer (some ⟨b, 0, none⟩)]] w fun e w' => e = .returned (.bool (!allIn k f s xs)) ∧ Fr Nil1 w w' := by
  have HI := hid (indexFunc_any k f s c hf hs b xs hx v w hv hb)
  obtain ⟨A, cc, rfl, _, _⟩ := hv
  rw [ints'_length] at HI ⊢
  generalize allIn k f s xs = bb at *
  clear hb hx
  go_enter Tryd.func40, Tryd.ntmps40
  go_wp2_with (first | (go_at_call 58; refine HI.out.mono ?_; rintro e w1 ⟨r, rfl, hr, hF⟩; have HF := hid hF; have HR := hid hr; clear hF hr))
  go_ret
  rw [← HR.out]
  exact ⟨rfl, HF.out⟩
end Go.Proofs.YtonoaklajnfmiaaDoor
