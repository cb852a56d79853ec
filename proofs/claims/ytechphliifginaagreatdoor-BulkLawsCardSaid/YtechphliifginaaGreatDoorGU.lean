/- In one: SD, SE. -/
import Derived.Test.YtechphliifginaaGreatDoorGT
import Derived.Test.YtechphliifginaaGreatDoorSh
import Derived.ScopeJumps
import Derived.WalkMore
import Derived.Deep.Cut
import Derived.Deep.CutRange
import Derived.Deep.RegionHeld3
/- bits.Prev, gaps.Prev. -/
set_option linter.unusedVariables false
set_option linter.unusedSimpArgs false
namespace Go.Proofs.YtechphliifginaaGreatDoor
open Go.RowKit

theorem len64_any (x : Nat) (hx : x < 18446744073709551616) (w : World) :
    Calls Tryz.prog 192 #[.int .u64 (x : Int)] w fun e w' => e = .returned (.int .i64 (Lib.bitLen x)) ∧ w = w' := by
  refine (Tryz.bits_Len64 (x : Int) w (by omega) (by omega)).mono ?_
  rintro e w' ⟨rfl, rfl⟩
  exact ⟨by rw [Int.toNat_natCast], rfl⟩
set_option maxHeartbeats 400000 in
theorem bitsPrev_neg {b c n : Nat} {on : Nat → Bool} {w : World} (h : BitsR w b c n on) (i : Int) (hi : i < 0) :
    Calls Tryz.prog 163 #[.pointer (some ⟨b, 0, none⟩), .int .i64 i] w fun e w' => e = .returned (.int .i64 (-1)) ∧ w = w' := by
  have H := hid h
  have n1 := h.n1
  have n2 := h.n2
  have hm : ¬ (n : Int) - 1 < i := by omega
  clear h
  go_enter Tryz.func163, Tryz.ntmps163
  go_wp2_with (first | (go_at_call 162; refine (bitsLen_any H.out).mono ?_; rintro e w' ⟨rfl, rfl⟩))
  go_ret
  exact ⟨rfl, rfl⟩
set_option maxHeartbeats 2000000 in
theorem bitsPrev_in {b c n : Nat} {on : Nat → Bool} {w : World} (h : BitsR w b c n on) (i i' : Int) (h0 : 0 ≤ i) (hmin : min i ((n : Int) - 1) = i') :
    Calls Tryz.prog 163 #[.pointer (some ⟨b, 0, none⟩), .int .i64 i] w fun e w' => e = .returned (.int .i64 (prv on n i')) ∧ w = w' := by
  have H := hid h
  have n1 := h.n1
  have n2 := h.n2
  have hi0 : 0 ≤ i' := by omega
  have hin : i' < n := by omega
  obtain ⟨m, hm⟩ : ∃ m : Nat, m = i'.toNat := ⟨_, rfl⟩
  have HI : Hid ((i' : Int) = m) := hid (by omega)
  have hmn : m < n := by omega
  obtain ⟨ws, ex, h1, h2, h3⟩ := h.row
  obtain ⟨c0, c1, f0⟩ := h1.two
  have hl : m / 64 < ws.length := by rw [h3.len]; omega
  have hc := h2.cell (m / 64)
  rw [words_get ws ex _ hl] at hc
  have H3 := hid h3
  have HC := hid (fun k hk => (h2.cell k).trans (words_get ws ex k hk))
  have hlen : ws.length ≤ 1024 := by rw [h3.len]; omega
  have hl0 : i' / 64 < ws.length := by omega
  have HS := hid (prevRel_start h3 m hmn hl)
  rw [show m / 64 = (i' / 64).toNat by omega] at hc
  generalize hxx : ws.getD (i' / 64).toNat 0 = x at *
  have hxx' := hid hxx
  have v0 : (0 : Int) ≤ x := by omega
  have hr0 : 0 ≤ i' % 64 := by omega
  have hr1 : i' % 64 < 64 := by omega
  have hr2 : 0 ≤ 63 - i' % 64 := by omega
  clear h1 h2 h3 h f0 hxx hm
  go_enter Tryz.func163, Tryz.ntmps163
  go_wp2_with (first | (go_at_call 162; refine (bitsLen_any H.out).mono ?_; rintro e w' ⟨rfl, rfl⟩))
  go_loop [6, 7] (fun x k => PrevRel on ws.length m x k) (fun _ k => (intOf k).toNat + 1)
  case atStart =>
    have h := HS.out
    have e := HI.out
    rw [show m / 64 = (i' / 64).toNat by omega, hxx'.out, ← low_eq, show 63 - m % 64 = (63 - i' % 64).toNat by omega, show (((i' / 64).toNat : Nat) : Int) = i' / 64 by omega] at h
    exact h
  case round =>
    obtain ⟨v, k, rfl, rfl, hk, hk2, hv, hbit, hbelow⟩ := hrel
    have HB := hid hbit
    have HW := hid hbelow
    clear hbit hbelow HS
    by_cases hz : v = 0
    · subst hz
      have none_here : ∀ j, 64 * k ≤ j → j ≤ m → on j = false := by
        intro j h1 h2
        rcases Nat.lt_or_ge j (64 * (k + 1)) with g | g
        · have := HB.out (j - 64 * k) (by omega)
          rw [Nat.zero_testBit, show 64 * k + (j - 64 * k) = j by omega] at this
          rw [decide_eq_true (by omega), Bool.true_and] at this
          exact this.symm
        · exact HW.out j g h2
      have HN := hid none_here
      clear none_here
      cases k with
      | zero =>
        go_wp2
        go_ret
        refine ⟨?_, rfl⟩
        rw [prv_none (fun j h1 h2 => HN.out j (by omega) (by have := HI.out; omega))]
        rfl
      | succ K =>
        have hKl : K < ws.length := by omega
        have hcell := HC.out K hKl
        have hxs := hid (H3.out.lt K)
        have hbs := hid (fun j (hj : j < 64) => show (ws.getD K 0).testBit j = (decide (64 * K + j ≤ m) && on (64 * K + j)) by
          rw [H3.out.bit, bitAt, show (64 * K + j) / 64 = K by omega, show (64 * K + j) % 64 = j by omega, decide_eq_true (by omega), Bool.true_and])
        generalize ws.getD K 0 = y at *
        go_wp2
        go_round
        case rel => exact ⟨y, K, rfl, by go_num, hKl, by omega, hxs.out, hbs.out, fun j h1 h2 => HN.out j (by omega) h2⟩
        case measure => simp [intOf]
    · obtain ⟨z0, z1, z2, z3⟩ := bitLen_spec v hz hv
      have Z2 := hid z2
      have Z3 := hid z3
      have hz0 : ((v : Int) == 0) = false := by simp; omega
      have hz1 : ((v : Int) != 0) = true := by simp; omega
      have hlz := fun w' => len64_any v hv w'
      have HL := hid hlz
      clear z2 z3 hv hz hc hlz
      generalize Lib.bitLen v = q at *
      obtain ⟨r, rfl⟩ : ∃ r, q = r + 1 := ⟨q - 1, by omega⟩
      go_wp2_with (first | (go_at_call 192; refine (HL.out _).mono ?_; rintro e w' ⟨rfl, rfl⟩))
      go_ret
      refine ⟨?_, rfl⟩
      have hb1 := HB.out r (by omega)
      rw [show r + 1 - 1 = r by omega] at Z2
      rw [Z2.out] at hb1
      have hb4 := hb1.symm
      rw [Bool.and_eq_true] at hb4
      have hb2 := hb4.2
      have hb3 := of_decide_eq_true hb4.1
      have e := HI.out
      rw [prv_some (64 * k + r) (by omega) (by omega) hb2 (fun j h1 h2 _ => ?_)]
      · show Ending.returned (.int .i64 _) = _
        congr 2
        omega
      · rcases Nat.lt_or_ge j (64 * (k + 1)) with g | g
        · have h5 := HB.out (j - 64 * k) (by omega)
          rw [Z3.out _ (by omega), show 64 * k + (j - 64 * k) = j by omega, decide_eq_true (by omega), Bool.true_and] at h5
          exact h5.symm
        · exact HW.out j g (by omega)
theorem prv_min {on : Nat → Bool} {n : Nat} {i : Int} : prv on n (min i ((n : Int) - 1)) = prv on n i := by
  unfold prv
  congr 1
  omega
theorem bitsPrev_any {b c n : Nat} {on : Nat → Bool} {w : World} (h : BitsR w b c n on) (i : Int) :
    Calls Tryz.prog 163 #[.pointer (some ⟨b, 0, none⟩), .int .i64 i] w fun e w' => e = .returned (.int .i64 (prv on n i)) ∧ w = w' := by
  by_cases hi : i < 0
  · refine (bitsPrev_neg h i hi).mono ?_
    rintro e w' ⟨rfl, rfl⟩
    rw [prv_none (fun j h1 h2 => by omega)]
    exact ⟨rfl, rfl⟩
  · have := bitsPrev_in h i _ (by omega) rfl
    rwa [prv_min] at this
theorem gapsPrev_any {f : SF} {σ : List (Option Int)} {w : World} (h : SlotsR w f σ) (i : Int) :
    Calls Tryz.prog 108 #[.pointer (some ⟨f.s, 0, none⟩), .int .i64 i] w fun e w' => e = .returned (.int .i64 (prv (onOf σ) σ.length i)) ∧ w = w' := by
  have HB := hid (bitsPrev_any h.bits i)
  obtain ⟨ex, h1, h2⟩ := h.row
  obtain ⟨c0, c1, f0⟩ := h1.two
  generalize prv (onOf σ) σ.length i = q at *
  clear h2 h
  go_enter Tryz.func108, Tryz.ntmps108
  go_wp2_with (first | (go_at_call 163; refine HB.out.mono ?_; rintro e w' ⟨rfl, rfl⟩))
  go_ret
  exact ⟨rfl, rfl⟩
end Go.Proofs.YtechphliifginaaGreatDoor

/- find: Lower, Before, Exact, over a search by halves. -/
set_option linter.unusedVariables false
set_option linter.unusedSimpArgs false
namespace Go.Proofs.YtechphliifginaaGreatDoor
open Go.RowKit

theorem lower1_any (x key : Int) (b : Nat) (w : World) (hb : Has w b [.int .i64 key] 3) : Calls Tryz.prog 169 #[.int .i64 x, .pointer (some ⟨b, 0, none⟩)] w fun e w' => e = .returned (.bool (decide (x < key))) ∧ w = w' := by
  obtain ⟨b0, bf⟩ := hb.one
  clear hb
  go_enter Tryz.func169, Tryz.ntmps169
  go_wp2_with fail
  go_ret
  exact ⟨rfl, rfl⟩
/-- The search's state: ahead of lo the test holds; from hi on it does not at the first one, that was found. -/
structure SrchI (σ : List (Option Int)) (P : Int → Bool) (lo hi : Nat) (fd : Int) : Prop where
  le : lo ≤ hi
  len : hi ≤ σ.length
  lo : ∀ q x, q < lo → σ.getD q none = some x → P x = true
  fd : (fd = -1 ∧ ∀ q, hi ≤ q → onOf σ q = false) ∨ ∃ (p : Nat) (x : Int), fd = p ∧ hi ≤ p ∧ σ.getD p none = some x ∧ P x = false ∧ ∀ q, hi ≤ q → q < p → onOf σ q = false
theorem off_some {σ : List (Option Int)} {q : Nat} {x : Int} (h : onOf σ q = false) (hx : σ.getD q none = some x) : False := by
  rw [onOf_some hx] at h; cases h
theorem SrchI.start (σ : List (Option Int)) (P : Int → Bool) : SrchI σ P 0 σ.length (-1) :=
  ⟨Nat.zero_le _, Nat.le_refl _, fun q x h => by omega, .inl ⟨rfl, fun q h => onOf_out σ q h⟩⟩
theorem SrchI.done {σ : List (Option Int)} {P : Int → Bool} {lo hi : Nat} {fd : Int} (H : SrchI σ P lo hi fd) (h : hi ≤ lo) : FndR σ P fd := by
  have hl := H.le
  refine ⟨fun e q x hq => ?_, fun e => ?_⟩
  · rcases Nat.lt_or_ge q lo with g | g
    · exact H.lo q x g hq
    · rcases H.fd with ⟨_, h2⟩ | ⟨p, y, e2, _⟩
      · exact (off_some (h2 q (by omega)) hq).elim
      · omega
  · rcases H.fd with ⟨e2, _⟩ | ⟨p, y, e2, h1, h2, h3, h4⟩
    · exact absurd e2 e
    · refine ⟨p, y, e2, h2, h3, fun q z hq hz => ?_⟩
      rcases Nat.lt_or_ge q lo with g | g
      · exact H.lo q z g hz
      · exact (off_some (h4 q (by omega) hq) hz).elim
theorem SrchI.gap {σ : List (Option Int)} {P : Int → Bool} {lo hi m : Nat} {fd : Int} (H : SrchI σ P lo hi fd) (h1 : lo ≤ m) (h2 : m ≤ hi) (hg : ∀ q, m ≤ q → q < hi → onOf σ q = false) : SrchI σ P lo m fd := by
  have hl := H.len
  refine ⟨h1, by omega, H.lo, ?_⟩
  rcases H.fd with ⟨e, h3⟩ | ⟨p, y, e, h3, h4, h5, h6⟩
  · refine .inl ⟨e, fun q hq => ?_⟩
    rcases Nat.lt_or_ge q hi with g | g
    · exact hg q hq g
    · exact h3 q g
  · refine .inr ⟨p, y, e, by omega, h4, h5, fun q hq hp => ?_⟩
    rcases Nat.lt_or_ge q hi with g | g
    · exact hg q hq g
    · exact h6 q g hp
theorem SrchI.right {σ : List (Option Int)} {P : Int → Bool} (mono : ∀ p q x y, p < q → σ.getD p none = some x → σ.getD q none = some y → P y = true → P x = true) {lo hi p : Nat} {x fd : Int} (H : SrchI σ P lo hi fd) (h2 : p < hi) (hp : σ.getD p none = some x) (hx : P x = true) : SrchI σ P (p + 1) hi fd :=
  ⟨by omega, H.len, fun q y hq hy => by
    rcases Nat.lt_or_ge q p with g | g
    · exact mono q p y x g hy hp hx
    · obtain rfl : q = p := by omega
      rw [hp] at hy; cases hy; exact hx, H.fd⟩
theorem SrchI.left {σ : List (Option Int)} {P : Int → Bool} {lo hi m p : Nat} {x fd : Int} (H : SrchI σ P lo hi fd) (h1 : lo ≤ m) (h0 : m ≤ p) (h2 : p < hi) (hp : σ.getD p none = some x) (hx : P x = false) (hg : ∀ q, m ≤ q → q < p → onOf σ q = false) : SrchI σ P lo m p :=
  ⟨h1, by have := H.len; omega, H.lo, .inr ⟨p, x, rfl, h0, hp, hx, hg⟩⟩
/-- The frame at the label, and the search's state. -/
def SrchJ (f : SF) (σ : List (Option Int)) (P : Int → Bool) (g : FuncId) (b : Nat) (w : World) (a' : Act) (w' : World) : Prop :=
  w = w' ∧ ∃ (lo hi : Nat) (fd c : Int) (u10 u11 u12 u13 u14 u15 u16 u17 u18 u19 u20 u21 u22 u23 u24 u25 u26 u27 u28 u29 u30 u31 u32 u33 u34 u35 u36 u37 u38 u39 u40 u41 u42 u43 u44 u45 u46 u47 u48 u49 u50 u51 u52 : Value), a' = { tmps := #[.pointer (some ⟨f.s, 0, none⟩), .func (.func g) #[] #[.pointer (some ⟨b, 0, none⟩)], undef, undef, .int .i64 0, .int .i64 0, .int .i64 lo, .int .i64 hi, .int .i64 fd, .int .i64 c, u10, u11, u12, u13, u14, u15, u16, u17, u18, u19, u20, u21, u22, u23, u24, u25, u26, u27, u28, u29, u30, u31, u32, u33, u34, u35, u36, u37, u38, u39, u40, u41, u42, u43, u44, u45, u46, u47, u48, u49, u50, u51, u52], defers := [] } ∧ Hid (SrchI σ P lo hi fd)
theorem srchJ_mk {f : SF} {σ : List (Option Int)} {P : Int → Bool} {g : FuncId} {b : Nat} {w : World} {v6 v7 v8 v9 u10 u11 u12 u13 u14 u15 u16 u17 u18 u19 u20 u21 u22 u23 u24 u25 u26 u27 u28 u29 u30 u31 u32 u33 u34 u35 u36 u37 u38 u39 u40 u41 u42 u43 u44 u45 u46 u47 u48 u49 u50 u51 u52 : Value} (lo hi : Nat) (fd c : Int) (e6 : v6 = .int .i64 lo) (e7 : v7 = .int .i64 hi) (e8 : v8 = .int .i64 fd) (e9 : v9 = .int .i64 c) (h : Hid (SrchI σ P lo hi fd)) :
    SrchJ f σ P g b w { tmps := #[.pointer (some ⟨f.s, 0, none⟩), .func (.func g) #[] #[.pointer (some ⟨b, 0, none⟩)], undef, undef, .int .i64 0, .int .i64 0, v6, v7, v8, v9, u10, u11, u12, u13, u14, u15, u16, u17, u18, u19, u20, u21, u22, u23, u24, u25, u26, u27, u28, u29, u30, u31, u32, u33, u34, u35, u36, u37, u38, u39, u40, u41, u42, u43, u44, u45, u46, u47, u48, u49, u50, u51, u52], defers := [] } w := by
  subst e6 e7 e8 e9
  exact ⟨rfl, lo, hi, fd, c, u10, u11, u12, u13, u14, u15, u16, u17, u18, u19, u20, u21, u22, u23, u24, u25, u26, u27, u28, u29, u30, u31, u32, u33, u34, u35, u36, u37, u38, u39, u40, u41, u42, u43, u44, u45, u46, u47, u48, u49, u50, u51, u52, rfl, h⟩
set_option maxRecDepth 100000 in
set_option maxHeartbeats 4000000 in
theorem findSearch_any {f : SF} {σ : List (Option Int)} {w : World} (H : SlotsR w f σ) (P : Int → Bool) (g : FuncId) (b : Nat) (hent : Enters Tryz.prog g)
    (hcall : ∀ x : Int, Calls Tryz.prog g #[.int .i64 x, .pointer (some ⟨b, 0, none⟩)] w fun e w' => e = .returned (.bool (P x)) ∧ w = w') (mono : ∀ p q x y, p < q → σ.getD p none = some x → σ.getD q none = some y → P y = true → P x = true) :
    Calls Tryz.prog 168 #[.pointer (some ⟨f.s, 0, none⟩), .func (.func g) #[] #[.pointer (some ⟨b, 0, none⟩)]] w fun e w' => ∃ r c : Int, e = .returned (.tuple #[.int .i64 r, .int .i64 c]) ∧ Hid (FndR σ P r) ∧ w = w' := by
  have HC := hid (gapsCap_any H)
  have HN := hid (fun (i : Int) (h : 0 ≤ i) => gapsNext_any H i h)
  have HA := hid (fun (i : Int) => gapsAt_any H i)
  have HP := hid hcall
  have HM := hid mono
  have hen : ∀ (args : Array Value) (W : World), Sem.run Tryz.prog (callFunc g args) W = .ok (.enter g args) W := hent
  have hlen : σ.length ≤ 65536 := H.bits.n2
  have hpos : 0 < σ.length := H.bits.n1
  have HS := hid (SrchI.start σ P)
  obtain ⟨N, hN⟩ : ∃ N, σ.length = N := ⟨_, rfl⟩
  have HNn := hid hN
  rw [hN] at HC HN HS hlen hpos
  clear H hcall hent mono hN
  go_enter Tryz.func168, Tryz.ntmps168
  go_wp2_with fail
  refine wp_scope_jumps 0 (SrchJ f σ P g b w) (fun a' _ => (intOf (a'.tmps.getD 7 undef) - intOf (a'.tmps.getD 6 undef)).toNat) rfl ?_ ?_
  · have HI := HS
    go_wp2_with (go_at_call 38; refine HC.out.mono ?_; rintro e w1 ⟨rfl, rfl⟩)
    go_step3
    by_cases hlt : 0 < N
    · have hl2 : N ≤ N := by have := HI.out.len; have := HNn.out; omega
      obtain ⟨M, hM⟩ : ∃ M : Nat, (N : Int) / 2 = M := ⟨0 + (N - 0) / 2, by omega⟩
      have hM1 : 0 ≤ M := by omega
      have hM2 : M < N := by omega
      have hge : ¬ (N : Int) ≤ (0 : Int) := by omega
      rcases nxt_cases (onOf σ) N (M : Int) with ⟨e, hn⟩ | ⟨p, e, h1, h2, h3, h4⟩
      · have HNx := hid (HN.out (M : Int) (by omega))
        rw [e] at HNx
        have HG := hid (HI.out.gap hM1 (by omega) (fun q a b => hn q (by omega) (by omega)))
        clear e hn
        go_wp2_with (go_at_call 133; refine HNx.out.mono ?_; rintro e w1 ⟨rfl, rfl⟩)
        go_step3
        show 0 = 0 ∧ SrchJ f σ P g b w _ _
        exact ⟨rfl, srchJ_mk (0) (M) ((-1)) _ (by go_num) (by go_num) (by go_num) rfl (hid (HG.out))⟩
      · have HNx := hid (HN.out (M : Int) (by omega))
        rw [e] at HNx
        by_cases hp : p < N
        · obtain ⟨x, hx⟩ := onOf_true h3
          have HAx := hid (HA.out (p : Int))
          rw [show atV σ (p : Int) = x by unfold atV; rw [if_pos (by omega), Int.toNat_natCast, hx]; rfl, atB_nat, h3] at HAx
          have HPx := hid (HP.out x)
          have hpI : ¬ (N : Int) ≤ (p : Int) := by omega
          have HX := hid (And.intro hx (And.intro (show M ≤ p by omega) (fun (q : Nat) (a : M ≤ q) (b : q < p) => h4 q (by omega) b)))
          have hMp : M ≤ p := by omega
          clear e h1 h2 h3 h4 hx
          cases hPx : P x with
          | true =>
            rw [hPx] at HPx
            have HR := hid (HI.out.right HM.out hp HX.out.1 hPx)
            clear hPx
            go_wp2_with (first | (go_at_call 133; refine HNx.out.mono ?_; rintro e w1 ⟨rfl, rfl⟩) | (go_at_call 39; refine HAx.out.mono ?_; rintro e w1 ⟨rfl, rfl⟩) | (go_at_fn g; refine HPx.out.mono ?_; rintro e w1 ⟨rfl, rfl⟩))
            go_step3
            show 0 = 0 ∧ SrchJ f σ P g b w _ _
            exact ⟨rfl, srchJ_mk ((p + 1)) (N) ((-1)) _ (by go_num) (by go_num) (by go_num) rfl (hid (HR.out))⟩
          | false =>
            rw [hPx] at HPx
            have HR := hid (HI.out.left hM1 HX.out.2.1 hp HX.out.1 hPx HX.out.2.2)
            clear hPx
            go_wp2_with (first | (go_at_call 133; refine HNx.out.mono ?_; rintro e w1 ⟨rfl, rfl⟩) | (go_at_call 39; refine HAx.out.mono ?_; rintro e w1 ⟨rfl, rfl⟩) | (go_at_fn g; refine HPx.out.mono ?_; rintro e w1 ⟨rfl, rfl⟩))
            go_step3
            show 0 = 0 ∧ SrchJ f σ P g b w _ _
            exact ⟨rfl, srchJ_mk (0) (M) ((p : Int)) _ (by go_num) (by go_num) (by go_num) rfl (hid (HR.out))⟩
        · have hpI : (N : Int) ≤ (p : Int) := by omega
          have HG := hid (HI.out.gap hM1 (by omega) (fun q a b => h4 q (by omega) (by omega)))
          clear e h1 h2 h3 h4
          go_wp2_with (go_at_call 133; refine HNx.out.mono ?_; rintro e w1 ⟨rfl, rfl⟩)
          go_step3
          show 0 = 0 ∧ SrchJ f σ P g b w _ _
          exact ⟨rfl, srchJ_mk (0) (M) ((-1)) _ (by go_num) (by go_num) (by go_num) rfl (hid (HG.out))⟩
    · exact absurd hpos (by omega)
  · rintro a' w' ⟨rfl, lo, hi, fd, c, u10, u11, u12, u13, u14, u15, u16, u17, u18, u19, u20, u21, u22, u23, u24, u25, u26, u27, u28, u29, u30, u31, u32, u33, u34, u35, u36, u37, u38, u39, u40, u41, u42, u43, u44, u45, u46, u47, u48, u49, u50, u51, u52, rfl, HI⟩
    have hlo := HI.out.le
    have hhi : hi ≤ N := by have := HI.out.len; have := HNn.out; omega
    by_cases hlt : lo < hi
    · have hl2 : hi ≤ N := by have := HI.out.len; have := HNn.out; omega
      obtain ⟨M, hM⟩ : ∃ M : Nat, (lo : Int) + ((hi : Int) - lo) / 2 = M := ⟨lo + (hi - lo) / 2, by omega⟩
      have hM1 : lo ≤ M := by omega
      have hM2 : M < hi := by omega
      have hge : ¬ (hi : Int) ≤ (lo : Int) := by omega
      rcases nxt_cases (onOf σ) N (M : Int) with ⟨e, hn⟩ | ⟨p, e, h1, h2, h3, h4⟩
      · have HNx := hid (HN.out (M : Int) (by omega))
        rw [e] at HNx
        have HG := hid (HI.out.gap hM1 (by omega) (fun q a b => hn q (by omega) (by omega)))
        clear e hn
        go_wp2_with (go_at_call 133; refine HNx.out.mono ?_; rintro e w1 ⟨rfl, rfl⟩)
        go_step3
        show 0 = 0 ∧ SrchJ f σ P g b w _ _ ∧ _ < _
        refine ⟨rfl, srchJ_mk (lo) (M) (fd) _ (by go_num) (by go_num) (by go_num) rfl (hid (HG.out)), ?_⟩
        simp [intOf]
        omega
      · have HNx := hid (HN.out (M : Int) (by omega))
        rw [e] at HNx
        by_cases hp : p < hi
        · obtain ⟨x, hx⟩ := onOf_true h3
          have HAx := hid (HA.out (p : Int))
          rw [show atV σ (p : Int) = x by unfold atV; rw [if_pos (by omega), Int.toNat_natCast, hx]; rfl, atB_nat, h3] at HAx
          have HPx := hid (HP.out x)
          have hpI : ¬ (hi : Int) ≤ (p : Int) := by omega
          have HX := hid (And.intro hx (And.intro (show M ≤ p by omega) (fun (q : Nat) (a : M ≤ q) (b : q < p) => h4 q (by omega) b)))
          have hMp : M ≤ p := by omega
          clear e h1 h2 h3 h4 hx
          cases hPx : P x with
          | true =>
            rw [hPx] at HPx
            have HR := hid (HI.out.right HM.out hp HX.out.1 hPx)
            clear hPx
            go_wp2_with (first | (go_at_call 133; refine HNx.out.mono ?_; rintro e w1 ⟨rfl, rfl⟩) | (go_at_call 39; refine HAx.out.mono ?_; rintro e w1 ⟨rfl, rfl⟩) | (go_at_fn g; refine HPx.out.mono ?_; rintro e w1 ⟨rfl, rfl⟩))
            go_step3
            show 0 = 0 ∧ SrchJ f σ P g b w _ _ ∧ _ < _
            refine ⟨rfl, srchJ_mk ((p + 1)) (hi) (fd) _ (by go_num) (by go_num) (by go_num) rfl (hid (HR.out)), ?_⟩
            simp [intOf]
            omega
          | false =>
            rw [hPx] at HPx
            have HR := hid (HI.out.left hM1 HX.out.2.1 hp HX.out.1 hPx HX.out.2.2)
            clear hPx
            go_wp2_with (first | (go_at_call 133; refine HNx.out.mono ?_; rintro e w1 ⟨rfl, rfl⟩) | (go_at_call 39; refine HAx.out.mono ?_; rintro e w1 ⟨rfl, rfl⟩) | (go_at_fn g; refine HPx.out.mono ?_; rintro e w1 ⟨rfl, rfl⟩))
            go_step3
            show 0 = 0 ∧ SrchJ f σ P g b w _ _ ∧ _ < _
            refine ⟨rfl, srchJ_mk (lo) (M) ((p : Int)) _ (by go_num) (by go_num) (by go_num) rfl (hid (HR.out)), ?_⟩
            simp [intOf]
            omega
        · have hpI : (hi : Int) ≤ (p : Int) := by omega
          have HG := hid (HI.out.gap hM1 (by omega) (fun q a b => h4 q (by omega) (by omega)))
          clear e h1 h2 h3 h4
          go_wp2_with (go_at_call 133; refine HNx.out.mono ?_; rintro e w1 ⟨rfl, rfl⟩)
          go_step3
          show 0 = 0 ∧ SrchJ f σ P g b w _ _ ∧ _ < _
          refine ⟨rfl, srchJ_mk (lo) (M) (fd) _ (by go_num) (by go_num) (by go_num) rfl (hid (HG.out)), ?_⟩
          simp [intOf]
          omega
    · have hge : (hi : Int) ≤ (lo : Int) := by omega
      have HD := hid (HI.out.done (by omega))
      go_wp2_with fail
      simp only [Exit.jump]
      go_ret2
      exact ⟨_, _, rfl, HD, rfl⟩
section
variable {f : SF} {σ : List (Option Int)} {w : World}
theorem findLower_any (H : SlotsR w f σ) (Hu : Up (its σ)) (key : Int) :
    Calls Tryz.prog 118 #[.pointer (some ⟨f.s, 0, none⟩), .int .i64 key] w fun e w' => ∃ r c : Int, e = .returned (.tuple #[.int .i64 r, .int .i64 c]) ∧ Hid (LowO σ key r ∧ Fr Nil1 w w') := by
  have fa : Fr Nil1 w (w.alloc (.cells #[.int .i64 key] 3)) := (Fr.refl _ _).alloc _
  have hb := Has.new w [.int .i64 key] 3
  have HS := hid (findSearch_any (H.new fa) (fun k => decide (k < key)) 169 w.heap.size (enters_of Tryz.func169 (by kernel_rfl) rfl) (fun x => lower1_any x key _ _ hb) (fun p q x y hpq hp hq h => by
    have := (up_slots Hu hp hq).2 hpq
    have h' : y < key := by simpa using h
    have : x < key := by omega
    simpa using this))
  have HU := hid Hu
  have HF := hid fa
  clear H Hu hb fa
  go_enter Tryz.func118, Tryz.ntmps118
  go_wp2_with (go_at_call 168; refine HS.out.mono ?_; rintro e w1 ⟨r, c, rfl, H1, rfl⟩)
  go_ret2
  exact ⟨r, c, rfl, hid ⟨H1.out.low HU.out, HF.out⟩⟩
theorem findBefore_any (H : SlotsR w f σ) (Hu : Up (its σ)) (key : Int) :
    Calls Tryz.prog 105 #[.pointer (some ⟨f.s, 0, none⟩), .int .i64 key] w fun e w' => ∃ r c : Int, e = .returned (.tuple #[.int .i64 r, .int .i64 c]) ∧ Hid (BefO σ key r ∧ Fr Nil1 w w') := by
  have HS := hid (findLower_any H Hu key)
  have HH := hid H
  have hlen : σ.length ≤ 65536 := H.bits.n2
  clear H Hu
  go_enter Tryz.func105, Tryz.ntmps105
  go_upto_region 2 with (go_at_call 118; refine HS.out.mono ?_; rintro e w1 ⟨r, c, rfl, H1⟩)
  have HP := hid (fun (i : Int) => gapsPrev_any (HH.out.new H1.out.2) i)
  have HC := hid (gapsCap_any (HH.out.new H1.out.2))
  have HB := hid H1.out.1.bef
  by_cases hr : r < 0
  · have d1 : decide (r < 0) = true := decide_eq_true hr
    have HE := hid (show befS σ r = (σ.length : Int) by unfold befS; rw [if_pos hr])
    clear hr
    go_wp2_with (first
      | (go_at_call 38; refine HC.out.mono ?_; rintro e w2 ⟨rfl, rfl⟩)
      | (go_at_call 108; refine (HP.out _).mono ?_; rintro e w2 ⟨rfl, rfl⟩))
    go_ret2
    refine ⟨_, _, rfl, hid ⟨?_, H1.out.2⟩⟩
    have := HB.out
    rw [HE.out] at this
    exact this
  · have d1 : decide (r < 0) = false := decide_eq_false hr
    have HE := hid (show befS σ r = r by unfold befS; rw [if_neg hr])
    have HR : Hid (r ≤ 65536 ∧ 0 ≤ r) := by
      cases H1.out.1 with
      | none e _ => omega
      | some q x e hq _ _ => have := getD_lt hq; exact hid ⟨by omega, by omega⟩
    have hr1 := HR.out.1
    have hr2 := HR.out.2
    clear hr
    go_wp2_with (go_at_call 108; refine (HP.out _).mono ?_; rintro e w2 ⟨rfl, rfl⟩)
    go_ret2
    refine ⟨_, _, rfl, hid ⟨?_, H1.out.2⟩⟩
    have := HB.out
    rw [HE.out] at this
    exact this
theorem findExact_any (H : SlotsR w f σ) (Hu : Up (its σ)) (key : Int) :
    Calls Tryz.prog 112 #[.pointer (some ⟨f.s, 0, none⟩), .int .i64 key] w fun e w' => ∃ r c : Int, e = .returned (.tuple #[.int .i64 r, .int .i64 c]) ∧ Hid (ExO σ key r ∧ Fr Nil1 w w') := by
  have HS := hid (findLower_any H Hu key)
  have HH := hid H
  have HU := hid Hu
  clear H Hu
  go_enter Tryz.func112, Tryz.ntmps112
  go_upto_region 2 with (go_at_call 118; refine HS.out.mono ?_; rintro e w1 ⟨r, c, rfl, H1⟩)
  have HA := hid (fun (i : Int) => gapsAt_any (HH.out.new H1.out.2) i)
  cases H1.out.1 with
  | none e hl =>
    subst e
    have HN := hid (not_mem_of_less HU.out hl)
    clear hl
    go_wp2_with fail
    go_ret2
    exact ⟨_, _, rfl, hid ⟨.none rfl HN.out, H1.out.2⟩⟩
  | some q x e hq hx hc =>
    subst e
    have HM := hid (low_mem HU.out hq hc)
    have HAq := hid (HA.out q)
    have e1 : atB σ (q : Int) = true := by rw [atB_nat]; exact onOf_some hq
    have e2 : atV σ (q : Int) = x := by unfold atV; rw [if_pos (by omega), Int.toNat_natCast, hq]; rfl
    rw [e1, e2] at HAq
    have HQ := hid (And.intro hq hc)
    clear hq hc e1 e2 HA
    by_cases hk : x = key
    · subst hk
      go_wp2_with (go_at_call 39; refine HAq.out.mono ?_; rintro e w2 ⟨rfl, rfl⟩)
      go_ret2
      exact ⟨_, _, rfl, hid ⟨.some q rfl HQ.out.1 HQ.out.2, H1.out.2⟩⟩
    · have hb : (x != key) = true := by rw [bne_iff_ne]; exact hk
      have HK := hid hk
      clear hk
      go_wp2_with (go_at_call 39; refine HAq.out.mono ?_; rintro e w2 ⟨rfl, rfl⟩)
      go_ret2
      exact ⟨_, _, rfl, hid ⟨.none rfl (fun h => HK.out (HM.out.1 h)), H1.out.2⟩⟩
end
end Go.Proofs.YtechphliifginaaGreatDoor
