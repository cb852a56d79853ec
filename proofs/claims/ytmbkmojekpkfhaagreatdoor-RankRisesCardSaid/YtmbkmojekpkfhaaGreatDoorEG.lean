/- Law 14's Set: the set that is made of keys that rise, and acts behind; its keys by the document's answer. -/
import Derived.Test.YtmbkmojekpkfhaaGreatDoorEF
import Derived.Test.YtmbkmojekpkfhaaGreatDoorAC
import Derived.Test.YtmbkmojekpkfhaaGreatDoorMS
set_option linter.unusedVariables false
set_option linter.unusedSimpArgs false
namespace Go.Proofs.YtmbkmojekpkfhaaGreatDoor
open Go.RowKit

/-- A slice of acts: a key, whether it goes. -/
def RdAm (w : World) (v : Value) (l : List AcS) : Prop :=
  ∃ (A : Option Addr) (c : Nat), v = .slice A l.length c ∧ (∀ a ∈ l, -9223372036854775808 ≤ a.key ∧ a.key ≤ 9223372036854775807) ∧ (0 < l.length → ∃ b o, A = some ⟨b, o, none⟩ ∧ ∀ j a, l[j]? = some a → w.cell? ⟨b, o + j * 2, none⟩ = some (.int .i64 a.key) ∧ w.cell? ⟨b, o + j * 2 + 1, none⟩ = some (.bool a.goes))
theorem RdAm.new {w w' : World} {v : Value} {l : List AcS} (h : RdAm w v l) (hf : Fr Nil1 w w') : RdAm w' v l := by
  obtain ⟨A, c, rfl, hb, hA⟩ := h
  refine ⟨A, c, rfl, hb, fun hp => ?_⟩
  obtain ⟨b, o, rfl, hc⟩ := hA hp
  exact ⟨b, o, rfl, fun j a hj => ⟨hf.cell (hc j a hj).1 (fun s => s), hf.cell (hc j a hj).2 (fun s => s)⟩⟩
/-- A set that was made, and its keys beside it. -/
structure MdS (w0 : World) (Q s : Nat) (u v : Value) (n : Nat) (ks : List Int) (vk : Value) (w : World) : Prop where
  set : SSP w0 s ks (fun b => b = Q ∨ vk.ownBlock = some b) w
  row : RowI w w0.heap.size vk ks
  box : Has w Q [u, v] 52
  len : ks.length ≤ n
  rng : ∀ x ∈ ks, -9223372036854775808 ≤ x ∧ x ≤ 9223372036854775807
section
variable {w0 w w1 w2 : World} {Q s n : Nat} {u v vk vk' : Value} {ks ks' : List Int}
/-- Behind an act. -/
theorem MdS.next (H : MdS w0 Q s u v n ks vk w) (h1 : SSP w0 s ks' (fun b => b = Q ∨ vk.ownBlock = some b) w1) (hb : ∀ b, (b = Q ∨ vk.ownBlock = some b) → w1.heap[b]? = w.heap[b]?) (h2 : ApJ w1 ks' vk' w2) (hs : w0.heap.size ≤ w1.heap.size) (hl : ks'.length ≤ n + 1) (hr : ∀ x ∈ ks', -9223372036854775808 ≤ x ∧ x ≤ 9223372036854775807) : MdS w0 Q s u v (n + 1) ks' vk' w2 :=
  ⟨h1.fresh h2.fr (fun b hb => by
    rcases hb with g | g
    · exact .inl (.inl g)
    · have := h2.row.own_lt b g; exact .inr ⟨this.2, this.1⟩), h2.row.mono hs, (show Has w1 Q [u, v] 52 from (hb Q (.inl rfl)).trans H.box).fr' h2.fr id, hl, hr⟩
theorem MdS.rd1 (H : MdS w0 Q s u v n ks vk w) (hn : n ≤ 5000) (hb : ∀ b, (b = Q ∨ vk.ownBlock = some b) → w1.heap[b]? = w.heap[b]?) : Rd w1 vk (ints' ks) :=
  (H.row.same (fun g hg => hb g (.inr hg))).rd (by have := H.len; omega)
end
set_option maxRecDepth 100000 in
theorem set14_many (u : Value) (acts : List AcS) {v : Value} {w : World} {l : List Int} (hu : Rd w u (ints' l)) (hv : RdAm w v acts) (hN : 100 < acts.length) :
    Calls Tryz.prog 26 #[.agg #[u, v]] w fun e w' => e = .returned (.tuple #[.pointer none, .slice none 0 0]) ∧ Fr Nil1 w w' := by
  obtain ⟨A, c, rfl, _, _⟩ := hu
  obtain ⟨B, d, rfl, _, _⟩ := hv
  rw [ints'_length]
  have hI : (100 : Int) < (acts.length : Int) := by omega
  have hb := Has.new w [.slice A l.length c, .slice B acts.length d] 52
  have c0 := hb.cell 0
  have c1 := hb.cell 1
  have HF := hid (show Fr Nil1 w (w.alloc (.cells #[.slice A l.length c, .slice B acts.length d] 52)) from (Fr.refl _ _).alloc _)
  clear hb
  go_enter Tryz.func26, Tryz.ntmps26
  go_wp2_with fail
  go_ret2
  exact ⟨rfl, HF.out⟩
set_option maxRecDepth 100000 in
set_option maxHeartbeats 8000000 in
theorem set14_any (u : Value) (acts : List AcS) {v : Value} {w : World} {l : List Int} (hu : Rd w u (ints' l)) (hv : RdAm w v acts) (hN : acts.length ≤ 100) (hg : GW w) :
    Calls Tryz.prog 26 #[.agg #[u, v]] w fun e w' => ∃ (s : Nat) (vk : Value), e = .returned (.tuple #[.pointer (some ⟨s, 0, none⟩), vk]) ∧ ∃ ks, Hid (MdS w w.heap.size s u v 300 ks vk w') := by
  have hu0 := hu
  have hv0 := hv
  obtain ⟨A, c, rfl, _, _⟩ := hu
  obtain ⟨B, d, rfl, hrg, hB⟩ := hv
  rw [ints'_length] at hu0 ⊢
  have hI : ¬ (100 : Int) < (acts.length : Int) := by omega
  have hb := Has.new w [.slice A l.length c, .slice B acts.length d] 52
  have HBx := hid hb
  have c0 := hb.cell 0
  have c1 := hb.cell 1
  have HF := hid (show Fr Nil1 w (w.alloc (.cells #[.slice A l.length c, .slice B acts.length d] 52)) from (Fr.refl _ _).alloc _)
  have HRs := hid (risen_any l (hu0.new HF.out) (hg.fr HF.out))
  have HOf := hid (fun (ks : List Int) (hU : Up ks) (hn : ks.length ≤ 2560) (vk : Value) (wz : World) (hr : Rd wz vk (ints' ks)) (hf : Fr Nil1 w wz) => setOf_any ks hU hn hr (hg.fr hf))
  have HG := hid hg
  have HRg := hid hrg
  have HB := hid hB
  clear hb hu0 hv0 hrg hB hg
  go_enter Tryz.func26, Tryz.ntmps26
  go_wp2_with (first
    | (go_at_call 68; refine (HOf.out ks H1.out.2.1 (by have := H1.out.2.2.1; omega) vk w1 (H1.out.1.rd (by have := H1.out.2.2.1; omega)) (HF.out.trans H1.out.1.fr)).mono ?_; rintro e w2 ⟨s, p, F, τ, rfl, H2⟩)
    | (go_at_call 67; refine HRs.out.mono ?_; rintro e w1 ⟨vk, rfl, ks, H1⟩))
  have hs1 := H1.out.1.fr.size
  rw [World.size_alloc] at hs1
  have hM : MdS w w.heap.size s (.slice A l.length c) (.slice B acts.length d) 200 ks vk w2 := by
    have hS := H2.out.1.base (HF.out.trans H1.out.1.fr)
    have hlt : ∀ b, (b = w.heap.size ∨ vk.ownBlock = some b) → b < w1.heap.size := by
      rintro b (g | g)
      · omega
      · exact (H1.out.1.row.own_lt b g).1
    exact ⟨⟨⟨p, F, τ, _, [], hS, H2.out.2.2.items, fun b hb hk => by have := hlt b hb; have := H2.out.1.geB b hk; omega⟩, fun b hb => by have := hlt b hb; have := H2.out.2.1.size; omega⟩,
      (H1.out.1.row.new H2.out.2.1).mono (by rw [World.size_alloc]; omega), (HBx.out.fr' H1.out.1.fr id).fr' H2.out.2.1 id, H1.out.2.2.1, fun x hx => by have := H1.out.2.2.2 x hx; omega⟩
  have HM := hid hM
  obtain ⟨Q, hQ⟩ : ∃ Q, w.heap.size = Q := ⟨_, rfl⟩
  have HQe := hid hQ
  rw [hQ] at HM ⊢
  clear hM hs1 HOf HRs hQ c0 c1
  go_loopw [4, 7] (fun vz i wr => ∃ (k : Nat) (kz : List Int), k ≤ acts.length ∧ i = .int .i64 k ∧ Hid (MdS w Q s (.slice A l.length c) (.slice B acts.length d) (200 + k) kz vz wr)) (fun _ i _ => (acts.length - intOf i).toNat)
  case atStart => exact ⟨0, ks, by omega, rfl, HM⟩
  case round =>
    obtain ⟨k, kz, hk, rfl, HW⟩ := hrel
    by_cases hlt : k < acts.length
    · have hltI : (k : Int) < acts.length := by omega
      obtain ⟨b0, o, rfl, hc⟩ := HB.out (by omega)
      obtain ⟨a, ha⟩ : ∃ a, acts[k]? = some a := ⟨_, List.getElem?_eq_getElem hlt⟩
      obtain ⟨q0, q1⟩ := hc k a ha
      have hrk := HRg.out a (List.mem_of_getElem? ha)
      obtain ⟨goes, key⟩ := a
      have HCe := hid (fun (wz : World) (hf : Fr Nil1 w wz) => show wz.cell? ⟨b0, o + k * 2, none⟩ = some (.int .i64 key) ∧ wz.cell? ⟨b0, o + k * 2 + 1, none⟩ = some (.bool goes) from ⟨hf.cell q0 id, hf.cell q1 id⟩)
      obtain ⟨e0, e1⟩ := HCe.out wr HW.out.set.ss.fr
      have c0 := HW.out.box.cell 0
      have c1 := HW.out.box.cell 1
      have HRk := hid hrk
      have HKk := hid (And.intro hlt hN)
      have hkb : (k : Int) < 100 := by omega
      have HLe := hid HW.out.len
      clear q0 q1 hc ha hrk hlt
      cases goes with
      | true =>
        have HD := hid (HW.out.set.delete (by have := HLe.out; have := HKk.out; omega) key)
        go_wp2_with (first
          | (go_at_call 69; (with_reducible refine (refDrop_any kz (by have := HLe.out; have := HKk.out; omega) key (HW.out.rd1 (by have := HKk.out; omega) H3.out.2.2) (HG.out.fr H3.out.1.ss.fr)).mono ?_); rintro e w4 ⟨v4, rfl, H4⟩)
          | (go_at_call 38; (with_reducible refine HD.out.mono ?_); rintro e w3 ⟨S, er, kx, rfl, H3⟩; obtain ⟨e2, e3⟩ := HCe.out w3 H3.out.1.ss.fr; have hbx := show Has w3 Q [.slice A l.length c, .slice (some ⟨b0, o, none⟩) acts.length d] 52 from (H3.out.2.2 Q (.inl rfl)).trans HW.out.box; have d0 := hbx.cell 0; have d1 := hbx.cell 1; clear hbx))
        obtain ⟨_, q⟩ := H3.out.2.1.del
        have h4 := H4.out
        rw [filter_delA HW.out.set.ss.up, ← q] at h4
        refine ⟨⟨k + 1, kx, by have := HKk.out; omega, by go_num, hid (HW.out.next H3.out.1 H3.out.2.2 h4 H3.out.1.ss.fr.size (by rw [q]; have := delA_length HW.out.set.ss.up key; have := HLe.out; omega) (fun x hx => ?_))⟩, by have := HKk.out; simp [intOf]; omega⟩
        rw [q] at hx
        exact HW.out.rng x ((mem_delA HW.out.set.ss.up).1 hx).1
      | false =>
        have HD := hid (HW.out.set.insert (by have := HLe.out; have := HKk.out; omega) key)
        go_wp2_with (first
          | (go_at_call 70; (with_reducible refine (refPut_any kz HW.out.set.ss.up (by have := HLe.out; have := HKk.out; omega) key (HW.out.rd1 (by have := HKk.out; omega) H3.out.2.2) (HG.out.fr H3.out.1.ss.fr)).mono ?_); rintro e w4 ⟨v4, rfl, H4⟩)
          | (go_at_call 39; (with_reducible refine HD.out.mono ?_); rintro e w3 ⟨S, er, kx, rfl, H3⟩; obtain ⟨e2, e3⟩ := HCe.out w3 H3.out.1.ss.fr; have hbx := show Has w3 Q [.slice A l.length c, .slice (some ⟨b0, o, none⟩) acts.length d] 52 from (H3.out.2.2 Q (.inl rfl)).trans HW.out.box; have d0 := hbx.cell 0; have d1 := hbx.cell 1; clear hbx))
        obtain ⟨_, q⟩ := H3.out.2.1.put (by have := HLe.out; have := HKk.out; omega)
        have h4 := H4.out
        rw [← q] at h4
        refine ⟨⟨k + 1, kx, by have := HKk.out; omega, by go_num, hid (HW.out.next H3.out.1 H3.out.2.2 h4 H3.out.1.ss.fr.size (by rw [q]; have := putA_length kz key; have := HLe.out; omega) (fun x hx => ?_))⟩, by have := HKk.out; simp [intOf]; omega⟩
        rw [q] at hx
        rcases mem_putA.1 hx with rfl | g
        · exact HRk.out
        · exact HW.out.rng x g
    · have HK := hid (And.intro hk hN)
      have hltI : ¬ (k : Int) < acts.length := by omega
      have c0 := HW.out.box.cell 0
      have c1 := HW.out.box.cell 1
      clear hk hlt
      go_wp2_with fail
      go_ret2
      have h := HW.out
      have hq := HQe.out
      subst hq
      exact ⟨s, _, rfl, kz, hid ⟨h.set, h.row, h.box, by have := h.len; have := HK.out; omega, h.rng⟩⟩
end Go.Proofs.YtmbkmojekpkfhaaGreatDoor
