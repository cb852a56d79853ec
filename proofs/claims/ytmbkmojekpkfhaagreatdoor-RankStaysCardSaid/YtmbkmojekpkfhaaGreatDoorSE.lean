/- find: Lower, Before, Exact, over a search by halves. -/
import Derived.Test.YtmbkmojekpkfhaaGreatDoorSD
import Derived.Test.YtmbkmojekpkfhaaGreatDoorSC
import Derived.ScopeJumps
import Derived.WalkMore
import Derived.Deep.Cut
import Derived.Deep.CutRange
import Derived.Deep.RegionHeld3
set_option linter.unusedVariables false
set_option linter.unusedSimpArgs false
namespace Go.Proofs.YtmbkmojekpkfhaaGreatDoor
open Go.RowKit

theorem lower1_any (x key : Int) (b : Nat) (w : World) (hb : Has w b [.int .i64 key] 3) : Calls Tryz.prog 122 #[.int .i64 x, .pointer (some ⟨b, 0, none⟩)] w fun e w' => e = .returned (.bool (decide (x < key))) ∧ w = w' := by
  obtain ⟨b0, bf⟩ := hb.one
  clear hb
  go_enter Tryz.func122, Tryz.ntmps122
  go_wp2_with fail
  go_ret
  exact ⟨rfl, rfl⟩
/-- The search's state: ahead of lo the test holds; from hi on it does not at the first one, that was found. -/
structure SrchI (σ : List (Option Int)) (P : Int → Bool) (lo hi : Nat) (fd : Int) : Prop where
  le : lo ≤ hi
  len : hi ≤ σ.length
  lo : ∀ q x, q < lo → σ.getD q none = some x → P x = true
  fd : (fd = -1 ∧ ∀ q, hi ≤ q → onOf σ q = false) ∨ ∃ (p : Nat) (x : Int), fd = p ∧ hi ≤ p ∧ σ.getD p none = some x ∧ P x = false ∧ ∀ q, hi ≤ q → q < p → onOf σ q = false
theorem off_some {σ : List (Option Int)} {q : Nat} {x : Int} (h : onOf σ q = false) (hx : σ.getD q none = some x) : False := by
  rw [onOf_some hx] at h; cases h
theorem SrchI.start (σ : List (Option Int)) (P : Int → Bool) : SrchI σ P 0 σ.length (-1) :=
  ⟨Nat.zero_le _, Nat.le_refl _, fun q x h => by omega, .inl ⟨rfl, fun q h => onOf_out σ q h⟩⟩
theorem SrchI.done {σ : List (Option Int)} {P : Int → Bool} {lo hi : Nat} {fd : Int} (H : SrchI σ P lo hi fd) (h : hi ≤ lo) : FndR σ P fd := by
  have hl := H.le
  refine ⟨fun e q x hq => ?_, fun e => ?_⟩
  · rcases Nat.lt_or_ge q lo with g | g
    · exact H.lo q x g hq
    · rcases H.fd with ⟨_, h2⟩ | ⟨p, y, e2, _⟩
      · exact (off_some (h2 q (by omega)) hq).elim
      · omega
  · rcases H.fd with ⟨e2, _⟩ | ⟨p, y, e2, h1, h2, h3, h4⟩
    · exact absurd e2 e
    · refine ⟨p, y, e2, h2, h3, fun q z hq hz => ?_⟩
      rcases Nat.lt_or_ge q lo with g | g
      · exact H.lo q z g hz
      · exact (off_some (h4 q (by omega) hq) hz).elim
theorem SrchI.gap {σ : List (Option Int)} {P : Int → Bool} {lo hi m : Nat} {fd : Int} (H : SrchI σ P lo hi fd) (h1 : lo ≤ m) (h2 : m ≤ hi) (hg : ∀ q, m ≤ q → q < hi → onOf σ q = false) : SrchI σ P lo m fd := by
  have hl := H.len
  refine ⟨h1, by omega, H.lo, ?_⟩
  rcases H.fd with ⟨e, h3⟩ | ⟨p, y, e, h3, h4, h5, h6⟩
  · refine .inl ⟨e, fun q hq => ?_⟩
    rcases Nat.lt_or_ge q hi with g | g
    · exact hg q hq g
    · exact h3 q g
  · refine .inr ⟨p, y, e, by omega, h4, h5, fun q hq hp => ?_⟩
    rcases Nat.lt_or_ge q hi with g | g
    · exact hg q hq g
    · exact h6 q g hp
theorem SrchI.right {σ : List (Option Int)} {P : Int → Bool} (mono : ∀ p q x y, p < q → σ.getD p none = some x → σ.getD q none = some y → P y = true → P x = true) {lo hi p : Nat} {x fd : Int} (H : SrchI σ P lo hi fd) (h2 : p < hi) (hp : σ.getD p none = some x) (hx : P x = true) : SrchI σ P (p + 1) hi fd :=
  ⟨by omega, H.len, fun q y hq hy => by
    rcases Nat.lt_or_ge q p with g | g
    · exact mono q p y x g hy hp hx
    · obtain rfl : q = p := by omega
      rw [hp] at hy; cases hy; exact hx, H.fd⟩
theorem SrchI.left {σ : List (Option Int)} {P : Int → Bool} {lo hi m p : Nat} {x fd : Int} (H : SrchI σ P lo hi fd) (h1 : lo ≤ m) (h0 : m ≤ p) (h2 : p < hi) (hp : σ.getD p none = some x) (hx : P x = false) (hg : ∀ q, m ≤ q → q < p → onOf σ q = false) : SrchI σ P lo m p :=
  ⟨h1, by have := H.len; omega, H.lo, .inr ⟨p, x, rfl, h0, hp, hx, hg⟩⟩
/-- The frame at the label, and the search's state. -/
def SrchJ (f : SF) (σ : List (Option Int)) (P : Int → Bool) (g : FuncId) (b : Nat) (w : World) (a' : Act) (w' : World) : Prop :=
  w = w' ∧ ∃ (lo hi : Nat) (fd c : Int) (u10 u11 u12 u13 u14 u15 u16 u17 u18 u19 u20 u21 u22 u23 u24 u25 u26 u27 u28 u29 u30 u31 u32 u33 u34 u35 u36 u37 u38 u39 u40 u41 u42 u43 u44 u45 u46 u47 u48 u49 u50 u51 u52 : Value), a' = { tmps := #[.pointer (some ⟨f.s, 0, none⟩), .func (.func g) #[] #[.pointer (some ⟨b, 0, none⟩)], undef, undef, .int .i64 0, .int .i64 0, .int .i64 lo, .int .i64 hi, .int .i64 fd, .int .i64 c, u10, u11, u12, u13, u14, u15, u16, u17, u18, u19, u20, u21, u22, u23, u24, u25, u26, u27, u28, u29, u30, u31, u32, u33, u34, u35, u36, u37, u38, u39, u40, u41, u42, u43, u44, u45, u46, u47, u48, u49, u50, u51, u52], defers := [] } ∧ Hid (SrchI σ P lo hi fd)
theorem srchJ_mk {f : SF} {σ : List (Option Int)} {P : Int → Bool} {g : FuncId} {b : Nat} {w : World} {v6 v7 v8 v9 u10 u11 u12 u13 u14 u15 u16 u17 u18 u19 u20 u21 u22 u23 u24 u25 u26 u27 u28 u29 u30 u31 u32 u33 u34 u35 u36 u37 u38 u39 u40 u41 u42 u43 u44 u45 u46 u47 u48 u49 u50 u51 u52 : Value} (lo hi : Nat) (fd c : Int) (e6 : v6 = .int .i64 lo) (e7 : v7 = .int .i64 hi) (e8 : v8 = .int .i64 fd) (e9 : v9 = .int .i64 c) (h : Hid (SrchI σ P lo hi fd)) :
    SrchJ f σ P g b w { tmps := #[.pointer (some ⟨f.s, 0, none⟩), .func (.func g) #[] #[.pointer (some ⟨b, 0, none⟩)], undef, undef, .int .i64 0, .int .i64 0, v6, v7, v8, v9, u10, u11, u12, u13, u14, u15, u16, u17, u18, u19, u20, u21, u22, u23, u24, u25, u26, u27, u28, u29, u30, u31, u32, u33, u34, u35, u36, u37, u38, u39, u40, u41, u42, u43, u44, u45, u46, u47, u48, u49, u50, u51, u52], defers := [] } w := by
  subst e6 e7 e8 e9
  exact ⟨rfl, lo, hi, fd, c, u10, u11, u12, u13, u14, u15, u16, u17, u18, u19, u20, u21, u22, u23, u24, u25, u26, u27, u28, u29, u30, u31, u32, u33, u34, u35, u36, u37, u38, u39, u40, u41, u42, u43, u44, u45, u46, u47, u48, u49, u50, u51, u52, rfl, h⟩
set_option maxRecDepth 100000 in
set_option maxHeartbeats 4000000 in
theorem findSearch_any {f : SF} {σ : List (Option Int)} {w : World} (H : SlotsR w f σ) (P : Int → Bool) (g : FuncId) (b : Nat) (hent : Enters Tryz.prog g)
    (hcall : ∀ x : Int, Calls Tryz.prog g #[.int .i64 x, .pointer (some ⟨b, 0, none⟩)] w fun e w' => e = .returned (.bool (P x)) ∧ w = w') (mono : ∀ p q x y, p < q → σ.getD p none = some x → σ.getD q none = some y → P y = true → P x = true) :
    Calls Tryz.prog 121 #[.pointer (some ⟨f.s, 0, none⟩), .func (.func g) #[] #[.pointer (some ⟨b, 0, none⟩)]] w fun e w' => ∃ r c : Int, e = .returned (.tuple #[.int .i64 r, .int .i64 c]) ∧ Hid (FndR σ P r) ∧ w = w' := by
  have HC := hid (gapsCap_any H)
  have HN := hid (fun (i : Int) (h : 0 ≤ i) => gapsNext_any H i h)
  have HA := hid (fun (i : Int) => gapsAt_any H i)
  have HP := hid hcall
  have HM := hid mono
  have hen : ∀ (args : Array Value) (W : World), Sem.run Tryz.prog (callFunc g args) W = .ok (.enter g args) W := hent
  have hlen : σ.length ≤ 65536 := H.bits.n2
  have hpos : 0 < σ.length := H.bits.n1
  have HS := hid (SrchI.start σ P)
  obtain ⟨N, hN⟩ : ∃ N, σ.length = N := ⟨_, rfl⟩
  have HNn := hid hN
  rw [hN] at HC HN HS hlen hpos
  clear H hcall hent mono hN
  go_enter Tryz.func121, Tryz.ntmps121
  go_wp2_with fail
  refine wp_scope_jumps 0 (SrchJ f σ P g b w) (fun a' _ => (intOf (a'.tmps.getD 7 undef) - intOf (a'.tmps.getD 6 undef)).toNat) rfl ?_ ?_
  · have HI := HS
    go_wp2_with (go_at_call 66; refine HC.out.mono ?_; rintro e w1 ⟨rfl, rfl⟩)
    go_step3
    by_cases hlt : 0 < N
    · have hl2 : N ≤ N := by have := HI.out.len; have := HNn.out; omega
      obtain ⟨M, hM⟩ : ∃ M : Nat, (N : Int) / 2 = M := ⟨0 + (N - 0) / 2, by omega⟩
      have hM1 : 0 ≤ M := by omega
      have hM2 : M < N := by omega
      have hge : ¬ (N : Int) ≤ (0 : Int) := by omega
      rcases nxt_cases (onOf σ) N (M : Int) with ⟨e, hn⟩ | ⟨p, e, h1, h2, h3, h4⟩
      · have HNx := hid (HN.out (M : Int) (by omega))
        rw [e] at HNx
        have HG := hid (HI.out.gap hM1 (by omega) (fun q a b => hn q (by omega) (by omega)))
        clear e hn
        go_wp2_with (go_at_call 76; refine HNx.out.mono ?_; rintro e w1 ⟨rfl, rfl⟩)
        go_step3
        show 0 = 0 ∧ SrchJ f σ P g b w _ _
        exact ⟨rfl, srchJ_mk (0) (M) ((-1)) _ (by go_num) (by go_num) (by go_num) rfl (hid (HG.out))⟩
      · have HNx := hid (HN.out (M : Int) (by omega))
        rw [e] at HNx
        by_cases hp : p < N
        · obtain ⟨x, hx⟩ := onOf_true h3
          have HAx := hid (HA.out (p : Int))
          rw [show atV σ (p : Int) = x by unfold atV; rw [if_pos (by omega), Int.toNat_natCast, hx]; rfl, atB_nat, h3] at HAx
          have HPx := hid (HP.out x)
          have hpI : ¬ (N : Int) ≤ (p : Int) := by omega
          have HX := hid (And.intro hx (And.intro (show M ≤ p by omega) (fun (q : Nat) (a : M ≤ q) (b : q < p) => h4 q (by omega) b)))
          have hMp : M ≤ p := by omega
          clear e h1 h2 h3 h4 hx
          cases hPx : P x with
          | true =>
            rw [hPx] at HPx
            have HR := hid (HI.out.right HM.out hp HX.out.1 hPx)
            clear hPx
            go_wp2_with (first | (go_at_call 76; refine HNx.out.mono ?_; rintro e w1 ⟨rfl, rfl⟩) | (go_at_call 77; refine HAx.out.mono ?_; rintro e w1 ⟨rfl, rfl⟩) | (go_at_fn g; refine HPx.out.mono ?_; rintro e w1 ⟨rfl, rfl⟩))
            go_step3
            show 0 = 0 ∧ SrchJ f σ P g b w _ _
            exact ⟨rfl, srchJ_mk ((p + 1)) (N) ((-1)) _ (by go_num) (by go_num) (by go_num) rfl (hid (HR.out))⟩
          | false =>
            rw [hPx] at HPx
            have HR := hid (HI.out.left hM1 HX.out.2.1 hp HX.out.1 hPx HX.out.2.2)
            clear hPx
            go_wp2_with (first | (go_at_call 76; refine HNx.out.mono ?_; rintro e w1 ⟨rfl, rfl⟩) | (go_at_call 77; refine HAx.out.mono ?_; rintro e w1 ⟨rfl, rfl⟩) | (go_at_fn g; refine HPx.out.mono ?_; rintro e w1 ⟨rfl, rfl⟩))
            go_step3
            show 0 = 0 ∧ SrchJ f σ P g b w _ _
            exact ⟨rfl, srchJ_mk (0) (M) ((p : Int)) _ (by go_num) (by go_num) (by go_num) rfl (hid (HR.out))⟩
        · have hpI : (N : Int) ≤ (p : Int) := by omega
          have HG := hid (HI.out.gap hM1 (by omega) (fun q a b => h4 q (by omega) (by omega)))
          clear e h1 h2 h3 h4
          go_wp2_with (go_at_call 76; refine HNx.out.mono ?_; rintro e w1 ⟨rfl, rfl⟩)
          go_step3
          show 0 = 0 ∧ SrchJ f σ P g b w _ _
          exact ⟨rfl, srchJ_mk (0) (M) ((-1)) _ (by go_num) (by go_num) (by go_num) rfl (hid (HG.out))⟩
    · exact absurd hpos (by omega)
  · rintro a' w' ⟨rfl, lo, hi, fd, c, u10, u11, u12, u13, u14, u15, u16, u17, u18, u19, u20, u21, u22, u23, u24, u25, u26, u27, u28, u29, u30, u31, u32, u33, u34, u35, u36, u37, u38, u39, u40, u41, u42, u43, u44, u45, u46, u47, u48, u49, u50, u51, u52, rfl, HI⟩
    have hlo := HI.out.le
    have hhi : hi ≤ N := by have := HI.out.len; have := HNn.out; omega
    by_cases hlt : lo < hi
    · have hl2 : hi ≤ N := by have := HI.out.len; have := HNn.out; omega
      obtain ⟨M, hM⟩ : ∃ M : Nat, (lo : Int) + ((hi : Int) - lo) / 2 = M := ⟨lo + (hi - lo) / 2, by omega⟩
      have hM1 : lo ≤ M := by omega
      have hM2 : M < hi := by omega
      have hge : ¬ (hi : Int) ≤ (lo : Int) := by omega
      rcases nxt_cases (onOf σ) N (M : Int) with ⟨e, hn⟩ | ⟨p, e, h1, h2, h3, h4⟩
      · have HNx := hid (HN.out (M : Int) (by omega))
        rw [e] at HNx
        have HG := hid (HI.out.gap hM1 (by omega) (fun q a b => hn q (by omega) (by omega)))
        clear e hn
        go_wp2_with (go_at_call 76; refine HNx.out.mono ?_; rintro e w1 ⟨rfl, rfl⟩)
        go_step3
        show 0 = 0 ∧ SrchJ f σ P g b w _ _ ∧ _ < _
        refine ⟨rfl, srchJ_mk (lo) (M) (fd) _ (by go_num) (by go_num) (by go_num) rfl (hid (HG.out)), ?_⟩
        simp [intOf]
        omega
      · have HNx := hid (HN.out (M : Int) (by omega))
        rw [e] at HNx
        by_cases hp : p < hi
        · obtain ⟨x, hx⟩ := onOf_true h3
          have HAx := hid (HA.out (p : Int))
          rw [show atV σ (p : Int) = x by unfold atV; rw [if_pos (by omega), Int.toNat_natCast, hx]; rfl, atB_nat, h3] at HAx
          have HPx := hid (HP.out x)
          have hpI : ¬ (hi : Int) ≤ (p : Int) := by omega
          have HX := hid (And.intro hx (And.intro (show M ≤ p by omega) (fun (q : Nat) (a : M ≤ q) (b : q < p) => h4 q (by omega) b)))
          have hMp : M ≤ p := by omega
          clear e h1 h2 h3 h4 hx
          cases hPx : P x with
          | true =>
            rw [hPx] at HPx
            have HR := hid (HI.out.right HM.out hp HX.out.1 hPx)
            clear hPx
            go_wp2_with (first | (go_at_call 76; refine HNx.out.mono ?_; rintro e w1 ⟨rfl, rfl⟩) | (go_at_call 77; refine HAx.out.mono ?_; rintro e w1 ⟨rfl, rfl⟩) | (go_at_fn g; refine HPx.out.mono ?_; rintro e w1 ⟨rfl, rfl⟩))
            go_step3
            show 0 = 0 ∧ SrchJ f σ P g b w _ _ ∧ _ < _
            refine ⟨rfl, srchJ_mk ((p + 1)) (hi) (fd) _ (by go_num) (by go_num) (by go_num) rfl (hid (HR.out)), ?_⟩
            simp [intOf]
            omega
          | false =>
            rw [hPx] at HPx
            have HR := hid (HI.out.left hM1 HX.out.2.1 hp HX.out.1 hPx HX.out.2.2)
            clear hPx
            go_wp2_with (first | (go_at_call 76; refine HNx.out.mono ?_; rintro e w1 ⟨rfl, rfl⟩) | (go_at_call 77; refine HAx.out.mono ?_; rintro e w1 ⟨rfl, rfl⟩) | (go_at_fn g; refine HPx.out.mono ?_; rintro e w1 ⟨rfl, rfl⟩))
            go_step3
            show 0 = 0 ∧ SrchJ f σ P g b w _ _ ∧ _ < _
            refine ⟨rfl, srchJ_mk (lo) (M) ((p : Int)) _ (by go_num) (by go_num) (by go_num) rfl (hid (HR.out)), ?_⟩
            simp [intOf]
            omega
        · have hpI : (hi : Int) ≤ (p : Int) := by omega
          have HG := hid (HI.out.gap hM1 (by omega) (fun q a b => h4 q (by omega) (by omega)))
          clear e h1 h2 h3 h4
          go_wp2_with (go_at_call 76; refine HNx.out.mono ?_; rintro e w1 ⟨rfl, rfl⟩)
          go_step3
          show 0 = 0 ∧ SrchJ f σ P g b w _ _ ∧ _ < _
          refine ⟨rfl, srchJ_mk (lo) (M) (fd) _ (by go_num) (by go_num) (by go_num) rfl (hid (HG.out)), ?_⟩
          simp [intOf]
          omega
    · have hge : (hi : Int) ≤ (lo : Int) := by omega
      have HD := hid (HI.out.done (by omega))
      go_wp2_with fail
      simp only [Exit.jump]
      go_ret2
      exact ⟨_, _, rfl, HD, rfl⟩
section
variable {f : SF} {σ : List (Option Int)} {w : World}
theorem findLower_any (H : SlotsR w f σ) (Hu : Up (its σ)) (key : Int) :
    Calls Tryz.prog 78 #[.pointer (some ⟨f.s, 0, none⟩), .int .i64 key] w fun e w' => ∃ r c : Int, e = .returned (.tuple #[.int .i64 r, .int .i64 c]) ∧ Hid (LowO σ key r ∧ Fr Nil1 w w') := by
  have fa : Fr Nil1 w (w.alloc (.cells #[.int .i64 key] 3)) := (Fr.refl _ _).alloc _
  have hb := Has.new w [.int .i64 key] 3
  have HS := hid (findSearch_any (H.new fa) (fun k => decide (k < key)) 122 w.heap.size (enters_of Tryz.func122 (by kernel_rfl) rfl) (fun x => lower1_any x key _ _ hb) (fun p q x y hpq hp hq h => by
    have := (up_slots Hu hp hq).2 hpq
    have h' : y < key := by simpa using h
    have : x < key := by omega
    simpa using this))
  have HU := hid Hu
  have HF := hid fa
  clear H Hu hb fa
  go_enter Tryz.func78, Tryz.ntmps78
  go_wp2_with (go_at_call 121; refine HS.out.mono ?_; rintro e w1 ⟨r, c, rfl, H1, rfl⟩)
  go_ret2
  exact ⟨r, c, rfl, hid ⟨H1.out.low HU.out, HF.out⟩⟩
theorem findBefore_any (H : SlotsR w f σ) (Hu : Up (its σ)) (key : Int) :
    Calls Tryz.prog 84 #[.pointer (some ⟨f.s, 0, none⟩), .int .i64 key] w fun e w' => ∃ r c : Int, e = .returned (.tuple #[.int .i64 r, .int .i64 c]) ∧ Hid (BefO σ key r ∧ Fr Nil1 w w') := by
  have HS := hid (findLower_any H Hu key)
  have HH := hid H
  have hlen : σ.length ≤ 65536 := H.bits.n2
  clear H Hu
  go_enter Tryz.func84, Tryz.ntmps84
  go_upto_region 2 with (go_at_call 78; refine HS.out.mono ?_; rintro e w1 ⟨r, c, rfl, H1⟩)
  have HP := hid (fun (i : Int) => gapsPrev_any (HH.out.new H1.out.2) i)
  have HC := hid (gapsCap_any (HH.out.new H1.out.2))
  have HB := hid H1.out.1.bef
  by_cases hr : r < 0
  · have d1 : decide (r < 0) = true := decide_eq_true hr
    have HE := hid (show befS σ r = (σ.length : Int) by unfold befS; rw [if_pos hr])
    clear hr
    go_wp2_with (first
      | (go_at_call 66; refine HC.out.mono ?_; rintro e w2 ⟨rfl, rfl⟩)
      | (go_at_call 124; refine (HP.out _).mono ?_; rintro e w2 ⟨rfl, rfl⟩))
    go_ret2
    refine ⟨_, _, rfl, hid ⟨?_, H1.out.2⟩⟩
    have := HB.out
    rw [HE.out] at this
    exact this
  · have d1 : decide (r < 0) = false := decide_eq_false hr
    have HE := hid (show befS σ r = r by unfold befS; rw [if_neg hr])
    have HR : Hid (r ≤ 65536 ∧ 0 ≤ r) := by
      cases H1.out.1 with
      | none e _ => omega
      | some q x e hq _ _ => have := getD_lt hq; exact hid ⟨by omega, by omega⟩
    have hr1 := HR.out.1
    have hr2 := HR.out.2
    clear hr
    go_wp2_with (go_at_call 124; refine (HP.out _).mono ?_; rintro e w2 ⟨rfl, rfl⟩)
    go_ret2
    refine ⟨_, _, rfl, hid ⟨?_, H1.out.2⟩⟩
    have := HB.out
    rw [HE.out] at this
    exact this
theorem findExact_any (H : SlotsR w f σ) (Hu : Up (its σ)) (key : Int) :
    Calls Tryz.prog 83 #[.pointer (some ⟨f.s, 0, none⟩), .int .i64 key] w fun e w' => ∃ r c : Int, e = .returned (.tuple #[.int .i64 r, .int .i64 c]) ∧ Hid (ExO σ key r ∧ Fr Nil1 w w') := by
  have HS := hid (findLower_any H Hu key)
  have HH := hid H
  have HU := hid Hu
  clear H Hu
  go_enter Tryz.func83, Tryz.ntmps83
  go_upto_region 2 with (go_at_call 78; refine HS.out.mono ?_; rintro e w1 ⟨r, c, rfl, H1⟩)
  have HA := hid (fun (i : Int) => gapsAt_any (HH.out.new H1.out.2) i)
  cases H1.out.1 with
  | none e hl =>
    subst e
    have HN := hid (not_mem_of_less HU.out hl)
    clear hl
    go_wp2_with fail
    go_ret2
    exact ⟨_, _, rfl, hid ⟨.none rfl HN.out, H1.out.2⟩⟩
  | some q x e hq hx hc =>
    subst e
    have HM := hid (low_mem HU.out hq hc)
    have HAq := hid (HA.out q)
    have e1 : atB σ (q : Int) = true := by rw [atB_nat]; exact onOf_some hq
    have e2 : atV σ (q : Int) = x := by unfold atV; rw [if_pos (by omega), Int.toNat_natCast, hq]; rfl
    rw [e1, e2] at HAq
    have HQ := hid (And.intro hq hc)
    clear hq hc e1 e2 HA
    by_cases hk : x = key
    · subst hk
      go_wp2_with (go_at_call 77; refine HAq.out.mono ?_; rintro e w2 ⟨rfl, rfl⟩)
      go_ret2
      exact ⟨_, _, rfl, hid ⟨.some q rfl HQ.out.1 HQ.out.2, H1.out.2⟩⟩
    · have hb : (x != key) = true := by rw [bne_iff_ne]; exact hk
      have HK := hid hk
      clear hk
      go_wp2_with (go_at_call 77; refine HAq.out.mono ?_; rintro e w2 ⟨rfl, rfl⟩)
      go_ret2
      exact ⟨_, _, rfl, hid ⟨.none rfl (fun h => HK.out (HM.out.1 h)), H1.out.2⟩⟩
end
end Go.Proofs.YtmbkmojekpkfhaaGreatDoor
