/- set.Set: its state, at, and what is asked of it. -/
import Derived.Test.YtmbkmojekpkfhaaGreatDoorSE
import Derived.Deep.RegionHeld3
import Derived.Deep.Cut
import Derived.Deep.CutRange
set_option linter.unusedVariables false
set_option linter.unusedSimpArgs false
namespace Go.Proofs.YtmbkmojekpkfhaaGreatDoor
open Go.RowKit

theorem RowG.frT {w0 wr w' : World} {p : Nat} {tv : Value} {B : Nat → Prop} {J : List Ev → World → Prop} {F : PF} {σ : List (Option Int)} {h : Nat} {evs : List Ev} (H : RowG w0 p tv B J F σ h evs wr) (T : Hear tv B J) {S : Nat → Prop} (hf : Fr S wr w') (hS : ∀ k, S k → ¬ F.mem k ∧ ¬ B k ∧ w0.heap.size ≤ k) : RowG w0 p tv B J F σ h evs w' :=
  ⟨H.p, H.r.fr hf (fun k hk hs => (hS k hs).1 hk), H.d, T.keep _ _ _ _ H.jj hf (fun k hk => (hS k hk).2.1), H.fr.trans' hf (fun j _ hj hs => by have := (hS j hs).2.2; omega), H.mem, fun k hk => ⟨(H.bb k hk).1, by have := (H.bb k hk).2.1; have := hf.size; omega, (H.bb k hk).2.2⟩⟩
/-- A set: the keys of its row rise. -/
structure SetS (w0 : World) (s p : Nat) (F : PF) (σ : List (Option Int)) (h : Nat) (evs : List Ev) (w : World) : Prop where
  row : RowN w0 p F σ h evs w
  c : Has w s [.pointer (some ⟨p, 0, none⟩)] 119
  ns : ¬ F.mem s
  ge : w0.heap.size ≤ s
  gs : NG ≤ s
  up : Up (its σ)
/-- Its blocks. -/
def SetB (F : PF) (s : Nat) (k : Nat) : Prop := F.mem k ∨ k = s
section
variable {w0 w w' : World} {s p : Nat} {F : PF} {σ : List (Option Int)} {h : Nat} {evs : List Ev}
theorem SetS.new (H : SetS w0 s p F σ h evs w) (hf : Fr Nil1 w w') : SetS w0 s p F σ h evs w' := ⟨H.row.new hearN hf, H.c.fr' hf id, H.ns, H.ge, H.gs, H.up⟩
theorem SetS.frS (H : SetS w0 s p F σ h evs w) {S : Nat → Prop} (hf : Fr S w w') (hS : ∀ k, S k → ¬ SetB F s k ∧ w0.heap.size ≤ k) : SetS w0 s p F σ h evs w' :=
  ⟨H.row.frT hearN hf (fun k hk => ⟨fun g => (hS k hk).1 (.inl g), id, (hS k hk).2⟩), H.c.fr' hf (fun g => (hS s g).1 (.inr rfl)), H.ns, H.ge, H.gs, H.up⟩
theorem SetS.lt (H : SetS w0 s p F σ h evs w) : ∀ k, SetB F s k → k < w.heap.size := by
  rintro k (hk | rfl)
  · exact H.row.r.lt k hk
  · exact H.c.lt
theorem SetS.geB (H : SetS w0 s p F σ h evs w) : ∀ k, SetB F s k → w0.heap.size ≤ k := by
  rintro k (hk | rfl)
  · exact H.row.mem k hk
  · exact H.ge
theorem SetS.size (H : SetS w0 s p F σ h evs w) : NG ≤ w.heap.size := H.row.r.sl.g.size
theorem setView_any (H : SetS w0 s p F σ h evs w) :
    Calls Tryz.prog 123 #[.agg #[.pointer (some ⟨p, 0, none⟩)]] w fun e w' => ∃ f' : SF, e = .returned (.pointer (some ⟨f'.s, 0, none⟩)) ∧ Hid (SlotsR w' f' σ ∧ Fr Nil1 w w') := by
  have fa : Fr Nil1 w (w.alloc (.cells #[.pointer (some ⟨p, 0, none⟩)] 117)) := (Fr.refl _ _).alloc _
  have HS := hid (RowG.slots (H.row.new hearN fa) hearN)
  have HF := hid fa
  clear H fa
  go_enter Tryz.func123, Tryz.ntmps123
  go_wp2_with (go_at_call 14; refine HS.out.mono ?_; rintro e w1 ⟨f', rfl, H1⟩)
  go_ret
  exact ⟨f', rfl, hid ⟨H1.out.1, HF.out.trans H1.out.2.2⟩⟩
/-- The slot of a key, as one looks for it. -/
theorem setAt_any (H : SetS w0 s p F σ h evs w) (key : Int) (g : FuncId) (hent : Enters Tryz.prog g) (Post : Int → Prop)
    (hcall : ∀ (f' : SF) (w1 : World), SlotsR w1 f' σ → Calls Tryz.prog g #[.pointer (some ⟨f'.s, 0, none⟩), .int .i64 key] w1 fun e w2 => ∃ r c : Int, e = .returned (.tuple #[.int .i64 r, .int .i64 c]) ∧ Hid (Post r ∧ Fr Nil1 w1 w2)) :
    Calls Tryz.prog 82 #[.pointer (some ⟨s, 0, none⟩), .func (.func g) #[] #[], .int .i64 key] w fun e w' => ∃ r : Int, e = .returned (.int .i64 r) ∧ Hid (Post r ∧ Fr Nil1 w w') := by
  obtain ⟨c0, cf⟩ := H.c.one
  have HV := hid (setView_any H)
  have HC := hid hcall
  have hen : ∀ (args : Array Value) (W : World), Sem.run Tryz.prog (callFunc g args) W = .ok (.enter g args) W := hent
  clear H hcall hent
  go_enter Tryz.func82, Tryz.ntmps82
  go_wp2_with (first
    | (go_at_call 123; refine HV.out.mono ?_; rintro e w1 ⟨f', rfl, H1⟩; have HC1 := hid (HC.out f' w1 H1.out.1))
    | (go_at_fn g; refine HC1.out.mono ?_; rintro e w2 ⟨r, c, rfl, H2⟩))
  go_ret
  exact ⟨r, rfl, hid ⟨H2.out.1, H1.out.2.trans H2.out.2⟩⟩
theorem setExact_any (H : SetS w0 s p F σ h evs w) (key : Int) :
    Calls Tryz.prog 82 #[.pointer (some ⟨s, 0, none⟩), .func (.func 83) #[] #[], .int .i64 key] w fun e w' => ∃ r : Int, e = .returned (.int .i64 r) ∧ Hid (ExO σ key r ∧ Fr Nil1 w w') :=
  setAt_any H key 83 (enters_of Tryz.func83 (by kernel_rfl) rfl) (ExO σ key) (fun f' w1 hs => findExact_any hs H.up key)
theorem setBefore_any (H : SetS w0 s p F σ h evs w) (key : Int) :
    Calls Tryz.prog 82 #[.pointer (some ⟨s, 0, none⟩), .func (.func 84) #[] #[], .int .i64 key] w fun e w' => ∃ r : Int, e = .returned (.int .i64 r) ∧ Hid (BefO σ key r ∧ Fr Nil1 w w') :=
  setAt_any H key 84 (enters_of Tryz.func84 (by kernel_rfl) rfl) (BefO σ key) (fun f' w1 hs => findBefore_any hs H.up key)
theorem setLower_any (H : SetS w0 s p F σ h evs w) (key : Int) :
    Calls Tryz.prog 82 #[.pointer (some ⟨s, 0, none⟩), .func (.func 78) #[] #[], .int .i64 key] w fun e w' => ∃ r : Int, e = .returned (.int .i64 r) ∧ Hid (LowO σ key r ∧ Fr Nil1 w w') :=
  setAt_any H key 78 (enters_of Tryz.func78 (by kernel_rfl) rfl) (LowO σ key) (fun f' w1 hs => findLower_any hs H.up key)
theorem setLen_any (H : SetS w0 s p F σ h evs w) : Calls Tryz.prog 40 #[.pointer (some ⟨s, 0, none⟩)] w fun e w' => e = .returned (.int .i64 (its σ).length) ∧ w = w' := by
  obtain ⟨c0, cf⟩ := H.c.one
  have HL := hid (RowG.len H.row)
  generalize (its σ).length = z at *
  clear H
  go_enter Tryz.func40, Tryz.ntmps40
  go_wp2_with (go_at_call 85; refine HL.out.mono ?_; rintro e w1 ⟨rfl, rfl⟩)
  go_ret
  exact ⟨rfl, rfl⟩
theorem setKeys_any (H : SetS w0 s p F σ h evs w) : Calls Tryz.prog 37 #[.pointer (some ⟨s, 0, none⟩)] w fun e w' => ∃ v, e = .returned v ∧ Hid (RowI w' w.heap.size v (its σ) ∧ Fr Nil1 w w') := by
  obtain ⟨c0, cf⟩ := H.c.one
  have HL := hid (RowG.items H.row hearN)
  clear H
  go_enter Tryz.func37, Tryz.ntmps37
  go_wp2_with (go_at_call 42; refine HL.out.mono ?_; rintro e w1 ⟨v, rfl, H1⟩)
  go_ret
  exact ⟨v, rfl, hid ⟨H1.out.1, H1.out.2.2⟩⟩
theorem setHas_any (H : SetS w0 s p F σ h evs w) (key : Int) : Calls Tryz.prog 41 #[.pointer (some ⟨s, 0, none⟩), .int .i64 key] w fun e w' => e = .returned (.bool (decide (key ∈ its σ))) ∧ Fr Nil1 w w' := by
  have HL := hid (setExact_any H key)
  clear H
  go_enter Tryz.func41, Tryz.ntmps41
  go_wp2_with (go_at_call 82; refine HL.out.mono ?_; rintro e w1 ⟨r, rfl, H1⟩)
  go_ret
  refine ⟨?_, H1.out.2⟩
  have : decide (0 ≤ r) = decide (key ∈ its σ) := by
    rw [decide_eq_decide]
    cases H1.out.1 with
    | none hr hl => exact ⟨fun h => by omega, fun h => absurd h hl⟩
    | some q hr hq hc => exact ⟨fun _ => mem_its.2 ⟨q, hq⟩, fun _ => by omega⟩
  rw [← this]
  rfl
end
end Go.Proofs.YtmbkmojekpkfhaaGreatDoor
