/- The laws' own rows of keys: Risen, Put, Drop. -/
import Derived.Test.YtmbkmojekpkfhaaGreatDoorUT
import Derived.Test.YtmbkmojekpkfhaaGreatDoorAP
import Derived.Test.YtmbkmojekpkfhaaGreatDoorED
set_option linter.unusedVariables false
set_option linter.unusedSimpArgs false
namespace Go.Proofs.YtmbkmojekpkfhaaGreatDoor
open Go.RowKit

/-- A slice that is built by appends, from an empty one. -/
structure ApJ (W : World) (xs : List Int) (v : Value) (w : World) : Prop where
  row : RowI w W.heap.size v xs
  fr : Fr Nil1 W w
theorem ApJ.new {W w w' : World} {xs : List Int} {v : Value} (H : ApJ W xs v w) (hf : Fr Nil1 w w') : ApJ W xs v w' := ⟨H.row.new hf, H.fr.trans hf⟩
theorem ApJ.step {W w w' : World} {xs ys : List Int} {v v' : Value} (H : ApJ W xs v w) (hG : NG ≤ W.heap.size) (hr : RowI w' W.heap.size v' (xs ++ ys)) (hg : w.grownBy w' v.ownBlock) : ApJ W (xs ++ ys) v' w' :=
  ⟨hr, H.fr.grown hg (fun k e => by have := (own_lt H.row k e).1; omega) (fun k e hk => by have := (own_lt H.row k e).1; omega)⟩
theorem ApJ.start (w : World) : ApJ w [] (.slice (some ⟨w.heap.size, 0, none⟩) 0 0) (w.alloc (.cells #[] 3)) :=
  ⟨World.ownsRow_made (base := w.heap.size) (e := 3) (size := 1) w #[] 0 (Nat.le_refl _) (by unfold maxLen; omega) rfl, (Fr.refl _ _).alloc _⟩
theorem ApJ.rd {W w : World} {xs : List Int} {v : Value} (H : ApJ W xs v w) (h : xs.length ≤ 9223372036854775807) : Rd w v (ints' xs) := H.row.rd h
theorem tmod50 (x : Int) : -49 ≤ Int.tmod x 50 ∧ Int.tmod x 50 ≤ 49 := by
  have h1 := Int.tmod_lt_of_pos x (show (0 : Int) < 50 by omega)
  have h2 := Int.lt_tmod_of_pos x (show (0 : Int) < 50 by omega)
  omega
/-- What keys that are made to rise are. -/
structure RisW (w0 : World) (k : Nat) (ks : List Int) (last : Int) (v : Value) (w : World) : Prop where
  ap : ApJ w0 ks v w
  up : Up ks
  len : ks.length = k
  le : ∀ x ∈ ks, -500 < x ∧ x ≤ last
  lo : -500 ≤ last
  hi : last ≤ -500 + 50 * k
theorem RisW.next {w0 w w1 w' : World} {k : Nat} {ks : List Int} {last : Int} {v v' : Value} (H : RisW w0 k ks last v w) (hG : NG ≤ w0.heap.size) (hf : Fr Nil1 w w1) {x : Int} (h1 : last < x) (h2 : x ≤ last + 50) (hr : RowI w' w0.heap.size v' (ks ++ [x])) (hg : w1.grownBy w' v.ownBlock) : RisW w0 (k + 1) (ks ++ [x]) x v' w' :=
  ⟨(H.ap.new hf).step hG hr hg, List.pairwise_append.2 ⟨H.up, List.pairwise_singleton _ _, fun a ha b hb => by have := (H.le a ha).2; have := List.mem_singleton.1 hb; omega⟩, by rw [List.length_append, List.length_singleton, H.len],
    fun y hy => by
      have := H.lo
      rcases List.mem_append.1 hy with g | g
      · have := H.le y g; omega
      · have := List.mem_singleton.1 g; omega, by have := H.lo; omega, by have := H.hi; omega⟩
set_option maxRecDepth 100000 in
set_option maxHeartbeats 2000000 in
theorem risen_any (l : List Int) {u : Value} {w : World} (hu : Rd w u (ints' l)) (hg : GW w) :
    Calls Tryz.prog 67 #[u] w fun e w' => ∃ v : Value, e = .returned v ∧ ∃ ks : List Int, Hid (ApJ w ks v w' ∧ Up ks ∧ ks.length ≤ 200 ∧ ∀ x ∈ ks, -500 < x ∧ x ≤ 9500) := by
  obtain ⟨A, c, rfl, hb, hA⟩ := hu
  rw [ints'_length] at hb hA ⊢
  have HA := hid hA
  have HG := hid hg.size
  have HS := hid (ApJ.start w)
  have HB := hid hb
  clear hA hb hg
  go_enter Tryz.func67, Tryz.ntmps67
  go_wp2_with fail
  obtain ⟨W0, hW0⟩ : ∃ W0, w.alloc (.cells #[] 3) = W0 := ⟨_, rfl⟩
  have HS0 : Hid (ApJ w [] (.slice (some ⟨w.heap.size, 0, none⟩) 0 0) W0) := hW0 ▸ HS
  rw [hW0]
  clear hW0 HS
  go_loopw [3, 4, 5] (fun v la i wr => ∃ (k : Nat) (ks : List Int) (last : Int), k ≤ l.length ∧ k ≤ 200 ∧ la = .int .i64 last ∧ i = .int .i64 k ∧ Hid (RisW w k ks last v wr)) (fun _ _ i _ => (l.length - intOf i).toNat)
  case atStart => exact ⟨0, [], -500, by omega, by omega, rfl, rfl, hid ⟨HS0.out, List.Pairwise.nil, rfl, (fun x hx => by cases hx), by omega, by omega⟩⟩
  case round =>
    obtain ⟨k, ks, last, hk, hk2, rfl, rfl, HW⟩ := hrel
    by_cases hlt : k < l.length ∧ k < 200
    · have hltI : (k : Int) < l.length := by omega
      have hlt2 : (k : Int) < 200 := by omega
      obtain ⟨ad, rfl, hc⟩ := HA.out (by omega)
      have c1 : wr.cell? (ad.add k) = some (.int .i64 (l.getD k 0)) := HW.out.ap.fr.cell (hc k _ (ints'_get l k (by omega))) id
      have HK := hid hlt
      have hlo := HW.out.lo
      have hhi := HW.out.hi
      have HLn := hid HW.out.len
      clear hc hlt hk hk2
      generalize l.getD k 0 = x at *
      obtain ⟨q, hq⟩ : ∃ q, Int.tmod x 50 = q := ⟨_, rfl⟩
      have hq2 := tmod50 x
      rw [hq] at hq2
      have e1 : IntKind.i64.wrap (q + 50) = q + 50 := IntWalk.i64_in _ (by omega)
      obtain ⟨r, hr⟩ : ∃ r, Int.tmod (q + 50) 50 = r := ⟨_, rfl⟩
      have hr2 : 0 ≤ r ∧ r ≤ 49 := by
        have a := (tmod50 (q + 50)).2
        have b := Int.tmod_nonneg 50 (show 0 ≤ q + 50 by omega)
        rw [hr] at a b
        exact ⟨b, a⟩
      have e2 : IntKind.i64.wrap (last + r) = last + r := IntWalk.i64_in _ (by omega)
      have e3 : IntKind.i64.wrap (last + r + 1) = last + r + 1 := IntWalk.i64_in _ (by omega)
      have HR := hid hr2
      clear hq2 hr2 hlo hhi
      go_wp2_with (at_builtin; refine append_rd rfl (.tmp 27) (.tmp 29) rfl rfl (HW.out.ap.row.new ((Fr.refl _ _).alloc _)) rfl (rd_one wr _) (by rw [HLn.out, List.length_singleton]; have := HK.out; omega) (by have := HW.out.ap.fr.size; simp; omega) ?_; intro v' w' h1 h2 h3; have H2 := hid (And.intro h1 h2); clear h1 h2 h3)
      exact ⟨⟨k + 1, ks ++ [last + r + 1], last + r + 1, by have := HK.out; omega, by have := HK.out; omega, rfl, by go_num, hid (HW.out.next HG.out ((Fr.refl _ _).alloc _) (by have := HR.out; omega) (by have := HR.out; omega) H2.out.1 H2.out.2)⟩, by have := HK.out; simp [intOf]; omega⟩
    · have HK := hid (And.intro hk (And.intro hk2 hlt))
      have hdn : decide ((k : Int) < l.length) = false ∨ (decide ((k : Int) < l.length) = true ∧ decide ((k : Int) < 200) = false) := by
        by_cases h : k < l.length
        · exact .inr ⟨decide_eq_true (by omega), decide_eq_false (by omega)⟩
        · exact .inl (decide_eq_false (by omega))
      clear hk hk2 hlt
      rcases hdn with hd | ⟨hd, hd2⟩
      · have hltI : ¬ (k : Int) < l.length := of_decide_eq_false hd
        clear hd
        go_wp2_with fail
        go_ret
        exact ⟨_, rfl, ks, hid ⟨HW.out.ap, HW.out.up, by have := HW.out.len; have := HK.out; omega, fun x hx => by have := HW.out.le x hx; have := HW.out.hi; have := HK.out; omega⟩⟩
      · have hltI : (k : Int) < l.length := of_decide_eq_true hd
        have hltJ : ¬ (k : Int) < 200 := of_decide_eq_false hd2
        clear hd hd2
        go_wp2_with fail
        go_ret
        exact ⟨_, rfl, ks, hid ⟨HW.out.ap, HW.out.up, by have := HW.out.len; have := HK.out; omega, fun x hx => by have := HW.out.le x hx; have := HW.out.hi; have := HK.out; omega⟩⟩
end Go.Proofs.YtmbkmojekpkfhaaGreatDoor
