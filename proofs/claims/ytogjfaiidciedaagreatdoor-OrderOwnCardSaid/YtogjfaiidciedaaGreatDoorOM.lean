/- order.New, Before; the laws' handleOf. -/
import Derived.Test.YtogjfaiidciedaaGreatDoorOL
import Derived.Test.YtogjfaiidciedaaGreatDoorC1
import Derived.Laws.EntriesVeiled
set_option linter.unusedVariables false
set_option linter.unusedSimpArgs false
namespace Go.Proofs.YtogjfaiidciedaaGreatDoor
open Go.RowKit Go.Maps

theorem PmaR.tell {w : World} {F : PF} {σ : List (Option Int)} {h : Nat} {tv : Value} (H : PmaR w F σ h tv) (fv : Value) : PmaR (w.setCell ⟨F.p, 2, none⟩ fv) F σ h fv := by
  have ha := H.apart
  have hf : Fr (fun k => k = F.p) w (w.setCell ⟨F.p, 2, none⟩ fv) := (Fr.refl _ _).setCell _ _ H.gp (fun _ => rfl)
  exact ⟨H.gp, H.h2, H.h9, H.len, H.row.set 2 fv, H.sl.fr hf (fun k hk e => ha.1 (e ▸ hk)), H.tr.fr hf (fun e => ha.2.1 e.symm) (fun e => ha.2.2.1 e.symm), H.ne⟩
theorem pmaTellM_any {w : World} {F : PF} {σ : List (Option Int)} {h : Nat} (H : PmaR w F σ h Value.nilFunc) (g : FuncId) (cps : Array Value) :
    Calls Tryz.prog 61 #[.pointer (some ⟨F.p, 0, none⟩), .func (.func g) #[] cps] w fun e w' => (∃ v, e = .returned v) ∧ w.setCell ⟨F.p, 2, none⟩ (.func (.func g) #[] cps) = w' := by
  obtain ⟨r0, r1, r2, rf⟩ := H.row.three
  clear H
  go_enter Tryz.func61, Tryz.ntmps61
  go_wp2_with fail
  first | refine bodyPost_end (results_none rfl _ _ _) rfl ?_ | refine bodyPost_ret (results_none rfl _ _ _) rfl ?_
  exact ⟨⟨_, rfl⟩, rfl⟩
/-- What order.New makes. -/
structure NewW (w0 : World) (w : World) (L : Nat) (w' : World) : Prop where
  ex : ∃ (bl p : Nat) (tf : TF) (F : PF), OrdR w0 L bl p tf F (List.replicate 32 none) 2 [] w'
  fr : Fr Nil1 w w'
theorem ordFollow_any {w0 w : World} {F : PF} {tf : TF} {L : Nat} (H : PmaR w F (List.replicate 32 none) 2 Value.nilFunc) (ht : TabR w tf []) (hL : Has w L [.pointer (some ⟨F.p, 0, none⟩), .pointer (some ⟨tf.t, 0, none⟩)] 62) (hf0 : Fr Nil1 w0 w) (gL : NG ≤ L)
    (hm : ∀ k, F.mem k → w0.heap.size ≤ k) (hmt : ∀ k, tf.mem k → w0.heap.size ≤ k ∧ ¬ F.mem k) (hmL : w0.heap.size ≤ L ∧ ¬ F.mem L) :
    Calls Tryz.prog 42 #[.pointer (some ⟨L, 0, none⟩)] w fun e w' => e = .returned (.pointer (some ⟨L, 0, none⟩)) ∧ Hid (NewW w0 w0 L w') := by
  have fa : Fr Nil1 w (w.alloc (.cells #[.pointer (some ⟨L, 0, none⟩)] 24)) := (Fr.refl _ _).alloc _
  have HTl := hid (pmaTellM_any (H.new fa) 62 #[.pointer (some ⟨w.heap.size, 0, none⟩)])
  have hLa := hL.alloc (.cells #[.pointer (some ⟨L, 0, none⟩)] 24)
  obtain ⟨l0, l1, lf⟩ := hLa.two
  have hb := Has.new w [.pointer (some ⟨L, 0, none⟩)] 24
  obtain ⟨b0, bf⟩ := hb.one
  have hpL : F.p ≠ L := fun e => hmL.2 (e ▸ .inl rfl)
  have hpb : F.p ≠ w.heap.size := fun e => by have := H.row.lt; omega
  have hb' := hb.other (p := ⟨F.p, 2, none⟩) (folO w.heap.size) (fun e => hpb e.symm)
  obtain ⟨k0, kf⟩ := hb'.one
  unfold folO at k0 kf
  have hgp := H.gp
  have fz : Fr (fun k => k = F.p) (w.alloc (.cells #[.pointer (some ⟨L, 0, none⟩)] 24)) ((w.alloc (.cells #[.pointer (some ⟨L, 0, none⟩)] 24)).setCell ⟨F.p, 2, none⟩ (folO w.heap.size)) := (Fr.refl (fun k => k = F.p) _).setCell ⟨F.p, 2, none⟩ _ hgp (fun _ => rfl)
  have HX := hid (show OrdR w0 L w.heap.size F.p tf F (List.replicate 32 none) 2 [] ((w.alloc (.cells #[.pointer (some ⟨L, 0, none⟩)] 24)).setCell ⟨F.p, 2, none⟩ (folO w.heap.size)) from by
    refine ⟨⟨rfl, (H.new fa).tell _, dn_new, ⟨hb', hLa.fr' fz (fun e => hpL e.symm), (ht.new fa).fr fz (fun k hk e => (hmt k hk).2 (e ▸ .inl rfl)), by decide⟩, (hf0.trans fa).trans' fz (fun j _ hj e => by have e' : j = F.p := e; have := hm F.p (.inl rfl); omega), hm, ?_⟩, fun x => ⟨fun i hi => ?_, fun _ => ?_⟩⟩
    · have hs : ((w.alloc (.cells #[.pointer (some ⟨L, 0, none⟩)] 24)).setCell ⟨F.p, 2, none⟩ (folO w.heap.size)).heap.size = w.heap.size + 1 := by simp
      have hw0 := hf0.size
      have hGw := H.sl.g.size
      rintro k (rfl | rfl | hk)
      · exact ⟨fun hk => by have := H.lt _ hk; omega, by omega, hGw, hw0⟩
      · exact ⟨hmL.2, by have := hL.lt; omega, gL, hmL.1⟩
      · exact ⟨(hmt k hk).2, by have := ht.lt k hk; omega, ht.ge k hk, (hmt k hk).1⟩
    · exfalso
      rw [List.getD_eq_getElem?_getD, List.getElem?_replicate] at hi
      split at hi <;> cases hi
    · unfold posOf
      rw [slotAt_out [] x (by simp; omega)]
      rfl)
  have HF := hid (show Fr Nil1 w0 ((w.alloc (.cells #[.pointer (some ⟨L, 0, none⟩)] 24)).setCell ⟨F.p, 2, none⟩ (folO w.heap.size)) from (hf0.trans fa).trans' fz (fun j _ hj e => by have e' : j = F.p := e; have := hm F.p (.inl rfl); omega))
  unfold folO at HX HF
  clear H ht hL fa hLa hb hb' fz hpL hpb hgp
  go_enter Tryz.func42, Tryz.ntmps42
  go_wp2_with (go_at_call 61; refine HTl.out.mono ?_; rintro e w1 ⟨⟨v, rfl⟩, rfl⟩)
  go_ret
  exact ⟨rfl, hid ⟨⟨_, _, _, _, HX.out⟩, HF.out⟩⟩
end Go.Proofs.YtogjfaiidciedaaGreatDoor
