/- A set, and blocks that are none of its own (any number): what its acts leave as it was. A map of keys beside it. -/
import Derived.Test.YtgmnnafcflmjdaaGreatDoorMP
set_option linter.unusedVariables false
set_option linter.unusedSimpArgs false
namespace Go.Proofs.YtgmnnafcflmjdaaGreatDoor
open Go.RowKit Go.Maps

structure SSP (w0 : World) (s : Nat) (ks : List Int) (B : Nat → Prop) (w : World) : Prop where
  ex : ∃ (p : Nat) (F : PF) (σ : List (Option Int)) (h : Nat) (evs : List Ev), SetS w0 s p F σ h evs w ∧ its σ = ks ∧ ∀ b, B b → ¬ SetB F s b
  lt : ∀ b, B b → b < w.heap.size
section
variable {w0 w : World} {s : Nat} {ks : List Int} {B : Nat → Prop}
theorem SSP.ss (H : SSP w0 s ks B w) : SS w0 s ks w := by
  obtain ⟨p, F, σ, h, evs, a, rfl, _⟩ := H.ex
  exact ⟨⟨p, F, σ, h, evs, a, rfl⟩, a.up, a.row.fr⟩
theorem SSP.new {w' : World} (H : SSP w0 s ks B w) (hf : Fr Nil1 w w') : SSP w0 s ks B w' := by
  obtain ⟨p, F, σ, h, evs, a, e, n⟩ := H.ex
  exact ⟨⟨p, F, σ, h, evs, a.new hf, e, n⟩, fun b hb => by have := H.lt b hb; have := hf.size; omega⟩
theorem SS.beside (H : SS w0 s ks w) : SSP w0 s ks (fun _ => False) w := by
  obtain ⟨p, F, σ, h, evs, a, e⟩ := H.ex
  exact ⟨⟨p, F, σ, h, evs, a, e, fun _ hb => hb.elim⟩, fun _ hb => hb.elim⟩
/-- One block more. -/
theorem SSP.boxed (H : SSP w0 s ks B w) (o : Obj) : SSP w0 s ks (fun b => B b ∨ b = w.heap.size) (w.alloc o) := by
  obtain ⟨p, F, σ, h, evs, a, e, n⟩ := H.ex
  refine ⟨⟨p, F, σ, h, evs, a.new ((Fr.refl _ _).alloc _), e, fun b hb hk => ?_⟩, fun b hb => ?_⟩
  · rcases hb with g | rfl
    · exact n b g hk
    · have := a.lt _ hk; omega
  · rcases hb with g | rfl
    · have := H.lt b g; simp; omega
    · simp
theorem SSP.less {B' : Nat → Prop} (H : SSP w0 s ks B w) (hB : ∀ b, B' b → B b) : SSP w0 s ks B' w := by
  obtain ⟨p, F, σ, h, evs, a, e, n⟩ := H.ex
  exact ⟨⟨p, F, σ, h, evs, a, e, fun b hb => n b (hB b hb)⟩, fun b hb => H.lt b (hB b hb)⟩
/-- A block beside it turns. -/
theorem SSP.turn {w' : World} {S : Nat → Prop} (H : SSP w0 s ks B w) (hf : Fr S w w') (hS : ∀ k, S k → B k ∧ w0.heap.size ≤ k) : SSP w0 s ks B w' := by
  obtain ⟨p, F, σ, h, evs, a, e, n⟩ := H.ex
  exact ⟨⟨p, F, σ, h, evs, a.frS hf (fun k hk => ⟨n k (hS k hk).1, (hS k hk).2⟩), e, n⟩, fun b hb => by have := H.lt b hb; have := hf.size; omega⟩
theorem SSP.insert (H : SSP w0 s ks B w) (hT : ks.length ≤ 2560) (key : Int) :
    Calls Tryz.prog 14 #[.pointer (some ⟨s, 0, none⟩), .int .i64 key] w fun e w' => ∃ (S : St) (er : Int) (ks' : List Int), e = .returned (.tuple #[.agg #[.int .i64 S.k, .int .i64 S.f, .int .i64 S.s, .int .i64 S.c], .int .i64 er]) ∧ Hid (SSP w0 s ks' B w' ∧ InsK ks key S er ks' ∧ ∀ b, B b → w'.heap[b]? = w.heap[b]?) := by
  obtain ⟨p, F, σ, h, evs, a, rfl, nb⟩ := H.ex
  refine (setInsert_any a hT key).mono ?_
  rintro e w' ⟨S, er, rfl, H2⟩
  obtain ⟨F', σ', h', evs', hS, hQ, hm, hf⟩ := H2.out
  refine ⟨S, er, its σ', rfl, hid ⟨⟨⟨p, F', σ', h', evs', hS, rfl, fun b hb hk => ?_⟩, fun b hb => by have := H.lt b hb; have := hf.size; omega⟩, ?_, fun b hb => hf.block b (H.lt b hb) (fun g => absurd (.inl g) (nb b hb))⟩⟩
  · rcases hk with g | g
    · rcases hm b g with g | g
      · exact nb b hb (.inl g)
      · have := H.lt b hb; omega
    · exact nb b hb (.inr g)
  · cases hQ with
    | ok bh seg next v ev hm hl hb hs hc he k =>
      obtain ⟨_, _, _, _, _, hst, _⟩ := k.step
      exact .ok hm hl (stepO_kind hst) he (by rw [k.items]; exact putK_at hc)
    | there hm he hS hσ hh => exact .there hm hS he (by rw [hσ])
    | full hm hT he hS hσ hh => exact .full hm hT hS he (by rw [hσ])
theorem SSP.delete (H : SSP w0 s ks B w) (hT : ks.length ≤ 2560) (key : Int) :
    Calls Tryz.prog 13 #[.pointer (some ⟨s, 0, none⟩), .int .i64 key] w fun e w' => ∃ (S : St) (er : Int) (ks' : List Int), e = .returned (.tuple #[.agg #[.int .i64 S.k, .int .i64 S.f, .int .i64 S.s, .int .i64 S.c], .int .i64 er]) ∧ Hid (SSP w0 s ks' B w' ∧ DelK ks key S er ks' ∧ ∀ b, B b → w'.heap[b]? = w.heap[b]?) := by
  obtain ⟨p, F, σ, h, evs, a, rfl, nb⟩ := H.ex
  refine (setDelete_any a hT key).mono ?_
  rintro e w' ⟨S, er, rfl, H2⟩
  obtain ⟨F', σ', h', evs', hS, hQ, hm, hf⟩ := H2.out
  refine ⟨S, er, its σ', rfl, hid ⟨⟨⟨p, F', σ', h', evs', hS, rfl, fun b hb hk => ?_⟩, fun b hb => by have := H.lt b hb; have := hf.size; omega⟩, ?_, fun b hb => hf.block b (H.lt b hb) (fun g => absurd (.inl g) (nb b hb))⟩⟩
  · rcases hk with g | g
    · rcases hm b g with g | g
      · exact nb b hb (.inl g)
      · have := H.lt b hb; omega
    · exact nb b hb (.inr g)
  · cases hQ with
    | ok j ev hx hc he k =>
      obtain ⟨_, _, _, _, _, hst, _⟩ := k.step
      exact .ok (mem_its.2 ⟨j, hx⟩) (stepO_kind hst) he (by rw [k.items]; exact delK_at hc)
    | none hm he hS hσ hh => exact .none hm hS he (by rw [hσ])
end
section
variable {w w' : World} {b n : Nat} {ks : List Int}
theorem InM.same (H : InM w b n ks) (hb : w'.heap[b]? = w.heap[b]?) : InM w' b n ks := by
  obtain ⟨D, ⟨es, clock, h1, r⟩, hV⟩ := H.ex
  exact ⟨D, ⟨es, clock, hb.trans h1, r⟩, hV⟩
theorem InM.lt (H : InM w b n ks) : b < w.heap.size := by
  obtain ⟨D, h, _⟩ := H.ex
  exact h.lt
theorem InM.new (H : InM w b n ks) (hf : Fr Nil1 w w') : InM w' b n ks := H.same (hf.block b H.lt (fun g => g.elim))
theorem InM.made (w : World) : InM (w.alloc (.map #[] 0)) w.heap.size 0 [] := ⟨_, World.ownsMap_made w Tryz.prog 3 _, KView.empty⟩
theorem InM.mono (H : InM w b n ks) {m : Nat} (h : n ≤ m) : InM w b m ks := by
  obtain ⟨D, h1, h2⟩ := H.ex
  exact ⟨D, h1.mono h, h2⟩
end
theorem grown_fr {w w' : World} {b : Nat} (hg : w.grownBy w' (some b)) (hb : NG ≤ b) : Fr (fun k => k = b) w w' :=
  (Fr.refl _ w).grown hg (fun k e => by cases e; exact hb) (fun k e _ => by cases e; rfl)
/-- SetModel's loop: the set holds ks, the map at block b holds them too; no more than n of them. -/
structure MoS (w0 : World) (s b n : Nat) (ks : List Int) (w : World) : Prop where
  set : SSP w0 s ks (fun k => k = b) w
  inn : InM w b n ks
  len : ks.length ≤ n
  ge : w0.heap.size ≤ b
  ng : NG ≤ b
section
variable {w0 w w' : World} {s b n : Nat} {ks : List Int}
theorem MoS.new (H : MoS w0 s b n ks w) (hf : Fr Nil1 w w') : MoS w0 s b n ks w' := ⟨H.set.new hf, H.inn.new hf, H.len, H.ge, H.ng⟩
theorem MoS.fr (H : MoS w0 s b n ks w) : Fr Nil1 w0 w := H.set.ss.fr
theorem MoS.start (H : SS w0 s [] w) (hg : GW w0) : MoS w0 s w.heap.size 0 [] (w.alloc (.map #[] 0)) :=
  ⟨(H.beside.boxed (.map #[] 0)).less (fun k hk => .inr hk), InM.made w, by simp, H.fr.size, by have := H.fr.size; have := hg.size; omega⟩
end
/-- in[k], at the operation. -/
theorem wpList_in {ops : Array Oper} {rest : List Oper} {o : Oper} {a : Act} {Q : Exit → Act → World → Prop} {w : World} (hg : o.guard = none) (m x : Operand) (hop : o.op = Op.lookup 26 m x false)
    (b n : Nat) (ks : List Int) (hm : a.eval m = .map (some b)) (H : InM w b n ks) (k : Int) (hx : a.eval x = .int .i64 k) (hk : (Lit.int .i64 k).wf = true)
    (hK : wpList Tryz.prog ops Q rest (a.put o.dst (.bool (decide (k ∈ ks)))) w) : wpList Tryz.prog ops Q (o :: rest) a w := by
  refine wpList_plain hg fun K' hK' => ?_
  have hrun := run_in H k hk
  unfold Oper.wp
  simp [execOp, hop, hm, hx, hrun, Result.andThen]
  exact hK' _ _ hK
/-- in[k] = true, at the operation: a key that is not there. -/
theorem wpList_inPut {ops : Array Oper} {rest : List Oper} {o : Oper} {a : Act} {Q : Exit → Act → World → Prop} {w : World} (hg : o.guard = none) (m x v : Operand) (hop : o.op = Op.mapUpdate 26 m x v)
    (b n : Nat) (ks : List Int) (hm : a.eval m = .map (some b)) (H : InM w b n ks) (hn : n < maxLen) (k : Int) (hx : a.eval x = .int .i64 k) (hv : a.eval v = .bool true) (hk : (Lit.int .i64 k).wf = true) (hno : k ∉ ks)
    (hK : ∀ w', InM w' b (n + 1) (putK ks k) → w.grownBy w' (some b) → wpList Tryz.prog ops Q rest (a.put o.dst undef) w') : wpList Tryz.prog ops Q (o :: rest) a w := by
  obtain ⟨D, hown, hV⟩ := H.ex
  exact wpList_mapUpdate_own w hg m x v 26 hop 3 4 lawIntM Tryz.underlying26 _ b n D hm hown hn _ _ (.int .i64 k) hx hv (keyOf_int_mk Tryz.underlying3 hk) (.lit (.bool true)) [] (plainElem_bool Tryz.underlying4 true) fun w' h1 h2 => hK w' ⟨_, h1, hV.put (hown.tidy lawIntM) hno⟩ h2
/-- .. a key that is there. -/
theorem wpList_inAgain {ops : Array Oper} {rest : List Oper} {o : Oper} {a : Act} {Q : Exit → Act → World → Prop} {w : World} (hg : o.guard = none) (m x v : Operand) (hop : o.op = Op.mapUpdate 26 m x v)
    (b n : Nat) (ks : List Int) (hm : a.eval m = .map (some b)) (H : InM w b n ks) (hn : n < maxLen) (k : Int) (hx : a.eval x = .int .i64 k) (hv : a.eval v = .bool true) (hk : (Lit.int .i64 k).wf = true) (hin : k ∈ ks)
    (hK : ∀ w', InM w' b (n + 1) ks → w.grownBy w' (some b) → wpList Tryz.prog ops Q rest (a.put o.dst undef) w') : wpList Tryz.prog ops Q (o :: rest) a w := by
  obtain ⟨D, hown, hV⟩ := H.ex
  exact wpList_mapUpdate_own w hg m x v 26 hop 3 4 lawIntM Tryz.underlying26 _ b n D hm hown hn _ _ (.int .i64 k) hx hv (keyOf_int_mk Tryz.underlying3 hk) (.lit (.bool true)) [] (plainElem_bool Tryz.underlying4 true) fun w' h1 h2 => hK w' ⟨_, h1, hV.again (hown.tidy lawIntM) hin⟩ h2
/-- delete(in, k), at the operation. -/
theorem wpList_inDel {ops : Array Oper} {rest : List Oper} {o : Oper} {a : Act} {Q : Exit → Act → World → Prop} {w : World} (hg : o.guard = none) (m x : Operand) (hop : o.op = Op.call { callee := Callee.builtin Builtin.delete, args := #[m, x], argTypes := #[26, 3] })
    (b n : Nat) (ks : List Int) (hm : a.eval m = .map (some b)) (H : InM w b n ks) (hU : Up ks) (k : Int) (hx : a.eval x = .int .i64 k) (hk : (Lit.int .i64 k).wf = true)
    (hK : ∀ w', InM w' b n (if k ∈ ks then delK ks k else ks) → w.grownBy w' (some b) → wpList Tryz.prog ops Q rest (a.put o.dst (.tuple #[])) w') : wpList Tryz.prog ops Q (o :: rest) a w := by
  obtain ⟨D, hown, hV⟩ := H.ex
  refine wpList_delete_own w hg m x 26 3 hop 4 lawIntM Tryz.underlying26 _ b n D hm hown _ (.int .i64 k) hx (keyOf_int_mk Tryz.underlying3 hk) fun w' h1 h2 => hK w' ⟨_, h1, ?_⟩ h2.grown
  by_cases hi : k ∈ ks
  · rw [if_pos hi]; exact hV.del (hown.tidy lawIntM) hU hi
  · rw [if_neg hi]; exact hV.gone (hown.tidy lawIntM) hi
/-- len(in), at the operation. -/
theorem wpList_inLen {ops : Array Oper} {rest : List Oper} {o : Oper} {a : Act} {Q : Exit → Act → World → Prop} {w : World} (hg : o.guard = none) (m : Operand) (hop : o.op = Op.call { callee := Callee.builtin Builtin.len, args := #[m], argTypes := #[26] })
    (b n : Nat) (ks : List Int) (hm : a.eval m = .map (some b)) (H : InM w b n ks)
    (hK : wpList Tryz.prog ops Q rest (a.put o.dst (.int .i64 ks.length)) w) : wpList Tryz.prog ops Q (o :: rest) a w := by
  obtain ⟨D, hown, hV⟩ := H.ex
  refine wpList_len_own w hg m 26 hop 3 4 Tryz.underlying26 _ b n D hm hown ?_
  rw [hV.size]
  exact hK
theorem run_inLen {w : World} {b n : Nat} {ks : List Int} (H : InM w b n ks) (ty : TypeId) : (Builtin.len_ #[26] ty #[.map (some b)]).run Tryz.prog w = .ok (.int .i64 ks.length) w := by
  obtain ⟨D, hown, hV⟩ := H.ex
  rw [hown.len Tryz.underlying26 ty, hV.size]
end Go.Proofs.YtgmnnafcflmjdaaGreatDoor
