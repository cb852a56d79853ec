/- handle.Table: Taken, Clone. -/
import Derived.Test.YtogjfaiidciedaaGreatDoorH2
import Derived.Shelf.SlMaps.Clone
import Derived.Deep.RegionHeld3
set_option linter.unusedVariables false
set_option linter.unusedSimpArgs false
namespace Go.Proofs.YtogjfaiidciedaaGreatDoor
open Go.RowKit Go.Maps

set_option maxRecDepth 100000 in
set_option maxHeartbeats 1000000 in
theorem mapsClone_any {R : Value → Option (DataW Unit × List MemPlace)} {b n : Nat} {D : DataW Unit} {w : World} (hown : w.ownsMap Tryz.prog 3 R b n D) :
    Calls Tryz.prog 66 #[.map (some b)] w fun e w' => e = .returned (.map (some w.heap.size)) ∧ w'.ownsMap Tryz.prog 3 R w.heap.size n D ∧ w'.ownsMap Tryz.prog 3 R b n D ∧ Below w.heap.size w w' := by
  have hlt := hid hown.lt
  obtain ⟨es, clock, hb, F, hs, hD⟩ := hown
  have HO := hid (And.intro hb (And.intro F (And.intro hs hD)))
  have hq := fun w => run_eql_map_nil_sl (P := Tryz.prog) w 66 _ _ (some b) Tryz.underlying66
  clear hb F hs hD
  go_enter Tryz.func66, Tryz.ntmps66
  go_wp2
  rw [run_callFunc_extern (P := Tryz.prog) (f := 92) (fn := Tryz.f92) (by kernel_rfl) (by kernel_rfl) (by kernel_rfl) (by kernel_rfl) (e := Extern.MapsClone.clone) (by kernel_rfl), run_maps_clone_sl w 66 HO.out.1]
  simp only [Result.andThen]
  rw [Oper.upon_value]
  go_wp2
  rw [run_typeAssert_map_sl _ 66 20 _ _ _ Tryz.underlying66]
  simp only [Result.andThen]
  rw [Oper.upon_value]
  go_wp2
  go_ret
  have hB : Below w.heap.size w (w.alloc (.map es clock)) := (Below.refl _ w).alloc (Nat.le_refl _) _
  exact ⟨rfl, ⟨es, clock, (MapKept.heap_alloc w _).1, HO.out.2⟩, ⟨es, clock, (Below.heap_alloc _ _ b hlt.out).trans HO.out.1, HO.out.2⟩, hB⟩
theorem tabTaken_any {f : TF} {τ : List (Option Int)} {w : World} (h : TabR w f τ) :
    Calls Tryz.prog 26 #[.pointer (some ⟨f.t, 0, none⟩)] w fun e w' => e = .returned (.int .i64 τ.length) ∧ w = w' := by
  obtain ⟨c0, c1, _⟩ := h.row.two
  clear h
  go_enter Tryz.func26, Tryz.ntmps26
  go_wp2_with fail
  go_ret
  exact ⟨rfl, rfl⟩
set_option maxRecDepth 100000 in
set_option maxHeartbeats 1000000 in
theorem tabClone_any {f : TF} {τ : List (Option Int)} {w : World} (h : TabR w f τ) (hG : NG ≤ w.heap.size) :
    Calls Tryz.prog 44 #[.pointer (some ⟨f.t, 0, none⟩)] w fun e w' => ∃ f' : TF, e = .returned (.pointer (some ⟨f'.t, 0, none⟩)) ∧ TabR w' f' τ ∧ Fr Nil1 w w' ∧ ∀ k, f'.mem k → w.heap.size ≤ k := by
  obtain ⟨c0, c1, _⟩ := h.row.two
  obtain ⟨D, hown, hD⟩ := h.map
  have HO := hid (show w.drew.ownsMap Tryz.prog 3 (plainElem Tryz.prog 3) f.m τ.length D from ownsMap_blk hown rfl)
  have HD := hid hD
  have HW := hid h.wf
  have HR := hid (show Has w.drew f.t [.map (some f.m), .int .i64 τ.length] 68 from h.row.drew)
  have HL := hid h.row.lt
  have HG := hid hG
  clear h hown hD
  go_enter Tryz.func44, Tryz.ntmps44
  go_wp2_with fail
  go_region_held3 (fun w' => w'.cell? ⟨f.t, 0, none⟩ = some (.map (some f.m)) ∧ w'.cell? ⟨f.t, 1, none⟩ = some (.int .i64 τ.length)) (first | exact ⟨k0, k1⟩ | exact ⟨c0, c1⟩ | go_keep) (first
    | (go_at_call 66; refine (mapsClone_any HO.out).mono ?_; rintro e w1 ⟨rfl, h1, _, h3⟩; have hr := HR.out.below h3 HL.out; have k0 := hr.cell 0; have k1 := hr.cell 1; have H1 := hid (And.intro h1 h3); clear h1 h3 hr))
  go_wp2_with fail
  go_ret
  have hf : Fr Nil1 w w1 := (Fr.refl Nil1 w).drew.trans (Fr.of_below H1.out.2)
  have hs := hf.size
  have hg := HG.out
  refine ⟨⟨w1.heap.size, w.heap.size⟩, rfl, ⟨by show NG ≤ w1.heap.size; omega, hg, Has.new w1 _ _, ⟨D, H1.out.1.alloc _, HD.out⟩, HW.out⟩, hf.alloc _, ?_⟩
  rintro k (rfl | rfl)
  · exact hs
  · exact Nat.le_refl _
end Go.Proofs.YtogjfaiidciedaaGreatDoor
