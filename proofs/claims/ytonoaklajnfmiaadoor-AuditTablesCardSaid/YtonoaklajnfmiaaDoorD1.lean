/- Law 22's own function 'made': an array, and the document's answer's slots. -/
import Derived.Test.YtonoaklajnfmiaaDoorB5
import Derived.Test.YtonoaklajnfmiaaDoorC1
import Derived.Test.YtonoaklajnfmiaaDoorC2
import Derived.Test.YtonoaklajnfmiaaDoorK3
set_option linter.unusedVariables false
set_option linter.unusedSimpArgs false
namespace Go.Proofs.YtonoaklajnfmiaaDoor
open Go.RowKit

/-- Numbers at slots: each slot modulo n; the first one that comes to a slot stays. -/
def mkSt (n : Nat) (σ : List (Option Int)) (p : Int × Int) : List (Option Int) := if onOf σ (p.1 % n).toNat then σ else σ.set (p.1 % n).toNat (some p.2)
def mkS (n : Nat) (l : List (Int × Int)) : List (Option Int) := l.foldl (mkSt n) (List.replicate n none)
theorem mkSt_length (n : Nat) (σ : List (Option Int)) (p : Int × Int) : (mkSt n σ p).length = σ.length := by unfold mkSt; split <;> simp
theorem mkS_length (n : Nat) (l : List (Int × Int)) : (mkS n l).length = n := by
  have : ∀ (l : List (Int × Int)) (σ : List (Option Int)), (l.foldl (mkSt n) σ).length = σ.length := by
    intro l
    induction l with
    | nil => intro σ; rfl
    | cons p r ih => intro σ; rw [List.foldl_cons, ih, mkSt_length]
  rw [mkS, this, List.length_replicate]
theorem mkS_snoc (n : Nat) (l : List (Int × Int)) (k : Nat) (p : Int × Int) (h : l[k]? = some p) : mkS n (l.take (k + 1)) = mkSt n (mkS n (l.take k)) p := by
  obtain ⟨hk, he⟩ := List.getElem?_eq_some_iff.1 h
  unfold mkS
  rw [List.take_succ_eq_append_getElem hk, List.foldl_append, he]
  rfl
/-- A slice of slots and numbers. -/
def RdAt (w : World) (v : Value) (l : List (Int × Int)) : Prop :=
  ∃ (A : Option Addr) (c : Nat), v = .slice A l.length c ∧ (0 < l.length → ∃ b o, A = some ⟨b, o, none⟩ ∧ ∀ j p, l[j]? = some p → w.cell? ⟨b, o + j * 2, none⟩ = some (.int .i64 p.1) ∧ w.cell? ⟨b, o + j * 2 + 1, none⟩ = some (.int .i64 p.2))
theorem RdAt.new {w w' : World} {v : Value} {xs : List (Int × Int)} (h : RdAt w v xs) (hf : Fr Nil1 w w') : RdAt w' v xs := by
  obtain ⟨A, c, rfl, hA⟩ := h
  refine ⟨A, c, rfl, fun hp => ?_⟩
  obtain ⟨b, o, rfl, hc⟩ := hA hp
  exact ⟨b, o, rfl, fun j p hp => ⟨hf.cell (hc j p hp).1 (fun s => s), hf.cell (hc j p hp).2 (fun s => s)⟩⟩

def nSlots (s : Int) : Nat := (s % 300 + 1).toNat
theorem info_slot : (Tryd.prog.info? 38).map (fun i => (i.zero, i.size, i.bytes)) = some (some (.agg #[.bool false, .int .i64 0]), 2, 16) := by kernel_rfl

set_option maxRecDepth 100000 in
set_option maxHeartbeats 2000000 in
theorem made_any (s : Int) (v : Value) (l : List (Int × Int)) (w : World) (hs1 : -9223372036854775808 ≤ s) (hs2 : s ≤ 9223372036854775807) (hl : l.length ≤ 300) (hv : RdAt w v l) (hg : GW w) :
    Calls Tryd.prog 8 #[.agg #[.int .i64 s, v]] w fun e w' => ∃ (f : SF) (g : Nat), e = .returned (.tuple #[.pointer (some ⟨f.s, 0, none⟩), .slice (some ⟨g, 0, none⟩) (nSlots s) (nSlots s)]) ∧
      SlotsR w' f (mkS (nSlots s) l) ∧ Has w' g (slotCells (mkS (nSlots s) l)) 38 ∧ Fr Nil1 w w' ∧ (∀ k, f.mem k → w.heap.size ≤ k) ∧ w.heap.size ≤ g := by
  obtain ⟨m1, m2, m3⟩ := wrapMod s 300 (by omega)
  obtain ⟨A, c, rfl, hA⟩ := hv
  have hn0 : 0 ≤ s % 300 := by omega
  have hn1 : s % 300 < 300 := by omega
  have HG := hid hg
  have HA := hid hA
  have hmk := mk_slots (P := Tryd.prog) 27 38 16 Tryd.underlying27 info_slot (by decide) (s % 300 + 1) (by omega) (by omega)
  clear hg hA
  go_enter Tryd.func8, Tryd.ntmps8
  go_wp2_with (first | (go_at_call 26; refine (gapsNew_ok (s % 300 + 1) _ (by omega) (by omega) (HG.out.fr ((Fr.refl Nil1 _).alloc _))).mono ?_; rintro e w1 ⟨f, rfl, hS, hF, hfr⟩; have HS := hid hS; have HF := hid hF; have HFR := hid hfr; clear hS hF hfr))
  have hb0 : Has (w.alloc (.cells #[.int .i64 s, .slice A l.length c] 24)) w.heap.size [.int .i64 s, .slice A l.length c] 24 := Has.new w _ _
  have hfr0 : Fr Nil1 w (w.alloc (.cells #[.int .i64 s, .slice A l.length c] 24)) := (Fr.refl _ _).alloc _
  have hb1 := (hb0.fr' HF.out id).alloc (.cells (madeCells #[.bool false, .int .i64 0] ((s % 300 + 1).toNat * 2)) 38)
  have hfr1 := (hfr0.trans HF.out).alloc (.cells (madeCells #[.bool false, .int .i64 0] ((s % 300 + 1).toNat * 2)) 38)
  have hS1 := HS.out.new ((Fr.refl Nil1 _).alloc (.cells (madeCells #[.bool false, .int .i64 0] ((s % 300 + 1).toNat * 2)) 38))
  have hg1 := Has.made2 w1 (s % 300 + 1).toNat 38
  have hgs := HF.out.size
  rw [World.size_alloc] at hgs
  obtain ⟨W0, hW0⟩ : ∃ W0, w1.alloc (.cells (madeCells #[.bool false, .int .i64 0] ((s % 300 + 1).toNat * 2)) 38) = W0 := ⟨_, rfl⟩
  rw [hW0] at hb1 hfr1 hS1 hg1 ⊢
  clear hb0 hfr0 hW0 hmk
  obtain ⟨g, hgg⟩ : ∃ g, w1.heap.size = g := ⟨_, rfl⟩
  rw [hgg] at hg1 hgs ⊢
  have HFG := hid (fun k h => show k ≠ g by have := HS.out.lt k h; omega)
  clear hgg
  have hFS : ∀ k, f.mem k → w.heap.size < k := fun k h => by have := HFR.out k h; rw [World.size_alloc] at this; omega
  have HFS := hid hFS
  clear hFS
  obtain ⟨n, hn⟩ : ∃ n, n = s % 300 + 1 := ⟨_, rfl⟩
  have hN : nSlots s = n.toNat := by unfold nSlots; omega
  have HN := hid hN
  have hnn1 : 1 ≤ n := by omega
  have hnn2 : n ≤ 300 := by omega
  rw [← hn] at hS1 hg1 ⊢
  have H1 := hid (show SlotsR W0 f (mkS n.toNat (l.take 0)) ∧ Has W0 g (slotCells (mkS n.toNat (l.take 0))) 38 ∧ Has W0 w.heap.size [.int .i64 s, .slice A l.length c] 24 ∧ Fr Nil1 w W0 from ⟨hS1, hg1, hb1, hfr1⟩)
  clear hn hN hS1 hg1 hb1 hfr1 m1 m2 m3 hn0 hn1 HS HF HFR
  go_loopw [8, 9] (fun i x wr => ∃ j : Nat, j ≤ l.length ∧ i = .int .i64 j ∧ Hid (SlotsR wr f (mkS n.toNat (l.take j)) ∧ Has wr g (slotCells (mkS n.toNat (l.take j))) 38 ∧ Has wr w.heap.size [.int .i64 s, .slice A l.length c] 24 ∧ Fr Nil1 w wr)) (fun i _ _ => l.length - (intOf i).toNat)
  case atStart => exact ⟨0, by omega, rfl, H1⟩
  case round =>
    clear H1
    obtain ⟨j, hj, rfl, HR⟩ := hrel
    have hbx := HR.out.2.2.1.two
    obtain ⟨b0, b1, bf⟩ := hbx
    by_cases hlt : j < l.length
    · obtain ⟨ab, ao, rfl, hc⟩ := HA.out (by omega)
      obtain ⟨p, hp⟩ : ∃ p, l[j]? = some p := ⟨_, List.getElem?_eq_getElem hlt⟩
      obtain ⟨c0, c1⟩ := hc j p hp
      have hab : ab < w.heap.size := World.block_lt_of_cell? w _ c0
      have hgn : NG ≤ g := by have := HG.out.size; omega
      replace c0 := HR.out.2.2.2.cell c0 (fun h => h)
      replace c1 := HR.out.2.2.2.cell c1 (fun h => h)
      obtain ⟨q1, q2, q3⟩ := wrapMod p.1 n (by omega)
      have k0 : 0 ≤ p.1 % n := Int.emod_nonneg _ (by omega)
      have k1 : p.1 % n < n := Int.emod_lt_of_pos _ (by omega)
      have hlen : (mkS n.toNat (l.take j)).length = n.toNat := mkS_length _ _
      have e0 := HR.out.2.1.cell ((p.1 % n).toNat * 2)
      have e1 := HR.out.2.1.cell ((p.1 % n).toNat * 2 + 1)
      rw [slotCells_get0 _ _ (by rw [hlen]; omega)] at e0
      rw [slotCells_get1 _ _ (by rw [hlen]; omega)] at e1
      have gf := HR.out.2.1.frozen
      have HSn := hid (mkS_snoc n.toNat l j p hp)
      have HP := hid hp
      have HL := hid hlen
      clear hp hc hlen
      cases hon : onOf (mkS n.toNat (l.take j)) (p.1 % n).toNat
      · have hv0 : (mkS n.toNat (l.take j)).getD (p.1 % n).toNat none = none := by
          unfold onOf at hon
          cases e : (mkS n.toNat (l.take j)).getD (p.1 % n).toNat none with
          | none => rfl
          | some x => rw [e] at hon; cases hon
        rw [hv0] at e0 e1
        replace e0 : wr.cell? ⟨g, (p.1 % n).toNat * 2, none⟩ = some (.bool false) := e0
        replace e1 : wr.cell? ⟨g, (p.1 % n).toNat * 2 + 1, none⟩ = some (.int .i64 0) := e1
        have HO := hid hon
        clear hon hv0
        have HGN := hid hgn
        clear hgn
        go_wp2_with (first | (go_at_call 27; refine (gapsPut_ok (HR.out.1.fr (((Fr.refl (fun k => k = g) wr).setCell _ _ HGN.out (fun _ => rfl)).setCell _ _ HGN.out (fun _ => rfl)) (fun k h e => HFG.out k h e)) _ _ k0 (by rw [HL.out]; omega) HO.out).mono ?_; rintro e w2 ⟨rfl, hS2, hF2⟩; have HS2 := hid hS2; have HF2 := hid hF2; clear hS2 hF2))
        refine ⟨⟨j + 1, by omega, by go_num, ?_⟩, by simp [intOf]; omega⟩
        have e : mkS n.toNat (l.take (j + 1)) = (mkS n.toNat (l.take j)).set (p.1 % n).toNat (some p.2) := by
          rw [HSn.out]
          unfold mkSt
          rw [Int.toNat_of_nonneg (by omega), if_neg (by rw [HO.out]; simp)]
        rw [e]
        have hfr := ((Fr.refl (fun k => k = g) wr).setCell ⟨g, (p.1 % n).toNat * 2, none⟩ (.bool true) HGN.out (fun _ => rfl)).setCell ⟨g, (p.1 % n).toNat * 2 + 1, none⟩ (.int .i64 p.2) HGN.out (fun _ => rfl)
        have hne : ∀ k, f.chg k → k ≠ g := fun k h => HFG.out k (SF.chg_mem h)
        refine hid ⟨HS2.out, ?_, ?_, ?_⟩
        · have := (HR.out.2.1.set ((p.1 % n).toNat * 2) (.bool true)).set ((p.1 % n).toNat * 2 + 1) (.int .i64 p.2)
          rw [show (slotCells (mkS n.toNat (l.take j))).set ((p.1 % n).toNat * 2) (.bool true) = (slotCells (mkS n.toNat (l.take j))).set ((p.1 % n).toNat * 2) (.bool (some p.2).isSome) from rfl, show (Value.int .i64 p.2) = (.int .i64 ((some p.2).getD 0)) from rfl, slotCells_set] at this
          exact this.fr' HF2.out (fun h => hne _ h rfl)
        · exact (HR.out.2.2.1.fr' hfr (by omega)).fr' HF2.out (fun h => by have := HFS.out _ (SF.chg_mem h); omega)
        · exact (HR.out.2.2.2.trans' hfr (fun k _ hk e => by omega)).trans' HF2.out (fun k _ hk h => by have := HFS.out _ (SF.chg_mem h); omega)
      · replace e0 : wr.cell? ⟨g, (p.1 % n).toNat * 2, none⟩ = some (.bool true) := by rw [e0]; unfold onOf at hon; rw [hon]
        have HO := hid hon
        clear hon e1
        go_wp2_with fail
        refine ⟨⟨j + 1, by omega, by go_num, ?_⟩, by simp [intOf]; omega⟩
        have e : mkS n.toNat (l.take (j + 1)) = mkS n.toNat (l.take j) := by
          rw [HSn.out]
          unfold mkSt
          rw [if_pos (by rw [Int.toNat_of_nonneg (by omega)]; exact HO.out)]
        rw [e]
        exact HR
    · have hjl : j = l.length := by omega
      have e := hid (show l.take j = l by rw [hjl, List.take_length])
      clear hjl
      go_wp2_with fail
      go_ret2
      have hr := HR.out
      rw [e.out, ← HN.out] at hr
      rw [HN.out]
      refine ⟨f, g, rfl, ?_, ?_, hr.2.2.2, fun k h => by have := HFS.out k h; omega, by omega⟩
      · rw [← HN.out]; exact hr.1
      · rw [← HN.out]; exact hr.2.1
end Go.Proofs.YtonoaklajnfmiaaDoor
