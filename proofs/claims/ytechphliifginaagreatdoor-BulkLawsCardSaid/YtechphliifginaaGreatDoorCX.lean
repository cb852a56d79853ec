/- In one: RX, AX, CA, CB, CC. -/
import Derived.Test.YtechphliifginaaGreatDoorGC
import Derived.Test.YtechphliifginaaGreatDoorGX
import Derived.Test.YtechphliifginaaGreatDoorHX
import Derived.Maps.AppendAt
import Derived.OwnWalkIn
import Derived.RangeFuncKeeps
/- A range over an iterator that lays blocks of its own, and ranges over another iterator: what a round must keep is what lay when the iterator had laid them (below X). No program's text. -/
set_option linter.unusedVariables false
set_option linter.unusedSimpArgs false
namespace Go.Proofs.YtechphliifginaaGreatDoor
open Go.RowKit

/-- What a round keeps: the variables of packages; what lies from B on, below X; whatever is no cells, from B on. -/
structure KeepX (T : Nat → Prop) (B X : Nat) (W W' : World) : Prop where
  size : W.heap.size ≤ W'.heap.size
  low : ∀ k, k < NG ∨ T k ∨ (B ≤ k ∧ k < X) → k < W.heap.size → W'.heap[k]? = W.heap[k]?
  other : ∀ (k : Nat) (o : Obj), B ≤ k → W.heap[k]? = some o → o.isCells = false → W'.heap[k]? = some o
namespace KeepX
variable {T : Nat → Prop} {B X : Nat} {U V W : World}
theorem refl (T : Nat → Prop) (B X : Nat) (W : World) : KeepX T B X W W := ⟨Nat.le_refl _, fun _ _ _ => rfl, fun _ _ _ h _ => h⟩
theorem trans (h : KeepX T B X U V) (k : KeepX T B X V W) : KeepX T B X U W :=
  ⟨Nat.le_trans h.size k.size, fun j hj hl => (k.low j hj (Nat.lt_of_lt_of_le hl h.size)).trans (h.low j hj hl), fun j o hB ho hc => k.other j o hB (h.other j o hB ho hc) hc⟩
/-- A step that turns blocks of S alone, each below B or from X on, none of them what is no cells. -/
theorem of_fr {S : Nat → Prop} (h : Fr S U V) (hT : ∀ k, T k → ¬ S k) (hS : ∀ k, S k → k < B ∨ X ≤ k) (hc : ∀ k o, S k → B ≤ k → U.heap[k]? = some o → o.isCells = true) : KeepX T B X U V := by
  refine ⟨h.size, fun k hk hl => h.block k hl (fun s => ?_), fun k o hB ho hn => ?_⟩
  · rcases hk with hk | hk | hk
    · exact hk
    · exact absurd s (hT k hk)
    · rcases hS k s with g | g <;> omega
  · have hl := (Array.getElem?_eq_some_iff.1 ho).1
    refine (h.block k hl (fun s => ?_)).trans ho
    have := hc k o s hB ho
    rw [hn] at this
    cases this
/-- .. a block below B that is none of the packages'. -/
theorem put (hG : NG ≤ B) (W : World) (l : Nat) (o : Obj) (hl : l < B) (hN : NG ≤ l) (hT : ¬ T l) : KeepX T B X W (W.putObj l o) :=
  ⟨by simp [World.putObj], fun k hk _ => World.putObj_heap_other (by rcases hk with hk | hk | hk; omega; exact fun e => hT (e ▸ hk); omega), fun k o' hB ho _ => (World.putObj_heap_other (by omega)).trans ho⟩
end KeepX
/-- The contract of such an iterator: J is told X. Cl: what the iterator asks of who ranges over it. -/
def SeqX {α : Type} (T : Nat → Prop) (n : Nat) (P : Program) (g : Nat) (lb : Array Value) (encs : α → Array Value) (Cl : List α → World → Prop) (S Sp : List α → Prop) (N : Nat) (w : World) : Prop :=
  ∀ (l : Nat) (J : Nat → List α → World → Prop) (Jx : List α → World → Prop) (W : World), Below w.heap.size w W → NG ≤ w.heap.size → l < W.heap.size → (∀ X pre W1, J X pre W1 → Cl pre W1) →
    (∀ X, OwnFrom W.heap.size (J X)) → OwnFrom W.heap.size Jx →
    (∀ X pre x W1, W.heap.size ≤ X → X ≤ W1.heap.size → J X pre W1 → pre.length < N → YieldAt Fence.wide (n - 1) P l (encs x) W1 fun e W' =>
      (e = .returned (.bool true) ∧ J X (pre ++ [x]) W' ∧ KeepX T W.heap.size X W1 W') ∨ (e = .returned (.bool false) ∧ Jx (pre ++ [x]) W' ∧ KeepsFrom W.heap.size W1 W')) →
    (∀ X, W.heap.size ≤ X → J X [] W) →
    CallsIn Fence.wide n P g (#[.func (.yield l) #[] #[]] ++ lb) W fun e W' => (∃ v, e = .returned v) ∧ ((∃ xs X, S xs ∧ J X xs W') ∨ (∃ pre, Sp pre ∧ Jx pre W'))
/-- How a round's body may be left. -/
def postX {α : Type} (T : Nat → Prop) (B X : Nat) (I : Nat → List α → World → Prop) (Ix : Code → List α → World → Prop) (xs : List α) (W : World) : Exit → Act → World → Prop
  | .normal, _, W' => KeepX T B X W W' ∧ I X xs W'
  | .ret, _, W' => KeepsFrom B W W' ∧ Ix .ret xs W'
  | .exit id, _, W' => KeepsFrom B W W' ∧ Ix (.exit id) xs W'
  | .goto t, _, W' => KeepsFrom B W W' ∧ Ix (.goto t) xs W'
  | .panic _, _, _ => False
  | .outgrown, _, _ => False
theorem KeepX.from {T : Nat → Prop} {B X : Nat} {W W' : World} (h : KeepX T B X W W') : KeepsFrom B W W' := ⟨h.size, fun k o hk ho hc => h.other k o hk ho hc⟩
/-- The caller's law. -/
theorem wpIn_rangeX {α : Type} {n : Nat} {P : Program} {g : Operand} {ps : Array Tmp} {assign body : Code} {Q : Exit → Act → World → Prop} {a : Act} {w : World}
    (h1 : 1 ≤ n) (hG : NG ≤ w.heap.size) {T : Nat → Prop} (hT : ∀ k, T k → k < w.heap.size) {gf : Nat} {lb : Array Value} (hg : a.eval g = .func (.func gf) #[] lb) (eg : ∀ args w, (callFunc gf args).run P w = .ok (.enter gf args) w)
    {encs : α → Array Value} {Cl : List α → World → Prop} {S Sp : List α → Prop} {N : Nat} (hseq : SeqX T (n - 1) P gf lb encs Cl S Sp N w) (hps : ∀ x, (encs x).size = ps.size)
    (I : Nat → List α → World → Prop) (Ix : Code → List α → World → Prop) (hCl : ∀ X pre W, I X pre W → Cl pre W) (hI : ∀ X, OwnFrom w.heap.size (I X)) (hIx : ∀ c, OwnFrom w.heap.size (Ix c)) (h0 : ∀ X, w.heap.size ≤ X → I X [] w) (a₁ : α → Act)
    (hassign : ∀ (l : Nat) (x : α) (W : World) (K : Act → World → Prop), K (a₁ x) W →
      assign.wpIn (Fence.wide.inRound l) (n - 1 - 1) P (Exit.then K (fun _ _ _ => False)) { tmps := (ps.zip (encs x)).foldl (fun t (p, v) => t.setIfInBounds p v) a.tmps, defers := [] } W)
    (hbody : ∀ (l X : Nat) (pre : List α) (x : α) (W : World), w.heap.size ≤ X → X ≤ W.heap.size → I X pre W → pre.length < N → body.wpIn (Fence.wide.inRound l) (n - 1 - 1) P (postX T w.heap.size X I Ix (pre ++ [x]) W) (a₁ x) W)
    (hdone : ∀ (D X : Nat) (xs : List α) (W : World), w.heap.size ≤ D → S xs → I X xs W → W.heap[D]? = some (.deferred (some [])) → Q .normal { a with defers := { target := .collected D, args := #[] } :: a.defers } W)
    (hstop : ∀ (D : Nat) (c : Code) (pre : List α) (W : World), w.heap.size ≤ D → Sp pre → Ix c pre W → W.heap[D]? = some (.deferred (some [])) → c.wpIn Fence.wide n P Q { a with defers := { target := .collected D, args := #[] } :: a.defers } W) :
    (Code.rangeFunc g ps assign body).wpIn Fence.wide n P Q a w := by
  refine wpIn_rangeFunc (fun fn hfn => ?_)
  -- the loop's own two blocks: the rounds' deferred calls (D), the record (D + 1)
  obtain ⟨D, hD⟩ : ∃ D, w.heap.size = D := ⟨_, rfl⟩
  obtain ⟨rec, hrec⟩ : ∃ rec : LoopState → Option Code → Loop, rec = fun st pe => { state := st, pending := pe, fn, tmps := a.tmps, params := ps, assign, body, defers := D } := ⟨_, rfl⟩
  obtain ⟨V, hV⟩ : ∃ V, (w.alloc (.deferred (some []))).alloc (.loop (rec .ready none)) = V := ⟨_, rfl⟩
  have hVs : V.heap.size = D + 2 := by rw [← hV]; simp [hD]
  have hrecV : V.heap[D + 1]? = some (.loop (rec .ready none)) := by
    rw [← hV, ← hD]; have := World.alloc_heap_new (w.alloc (.deferred (some []))) (.loop (rec .ready none)); rwa [World.size_alloc] at this
  have hdefV : V.heap[D]? = some (.deferred (some [])) := by
    rw [← hV, ← hD]; exact (Below.heap_alloc _ _ _ (by simp)).trans (World.alloc_heap_new w _)
  have hIV : ∀ X, V.heap.size ≤ X → I X [] V := fun X hX => by rw [← hV]; exact (hI X).alloc _ ((hI X).alloc _ (h0 X (by omega)))
  have hbV : Below w.heap.size w V := by rw [← hV]; exact ((Below.refl _ w).alloc (Nat.le_refl _) _).alloc (by simp) _
  refine ⟨D + 1, [{ target := .collected D, args := #[] }], V, { target := .fn (.func gf) lb, args := #[.func (.yield (D + 1)) #[] #[]] }, V, gf, #[.func (.yield (D + 1)) #[] #[]] ++ lb, V, ?_, ?_, fun f' hf' => ?_, ?_, fun _ => h1, ?_⟩
  · rw [← hV, hrec, ← hD]; exact run_enterLoop_outer _ _ _ _ _
  · simp only [resolve, hg]; simp [go_sem]
  · trivial
  · simp [invoke, go_sem, eg]
  have stay : ∀ {A B : World} {row : Option Nat} {k : Nat} {o : Obj}, A.grownBy B row → (∀ r, row = some r → V.heap.size ≤ r ∧ ∃ o : Obj, A.heap[r]? = some o ∧ o.isCells = false) → k < V.heap.size → A.heap[k]? = some o → B.heap[k]? = some o :=
    fun hg' hr hk ho => (hg'.block _ (Array.getElem?_eq_some_iff.1 ho).1 (fun e => by have := (hr _ e.symm).1; omega)).trans ho
  have up : ∀ {A : World} {row : Option Nat}, (∀ r, row = some r → V.heap.size ≤ r ∧ ∃ o : Obj, A.heap[r]? = some o ∧ o.isCells = false) → (∀ r, row = some r → w.heap.size ≤ r ∧ ∃ o : Obj, A.heap[r]? = some o ∧ o.isCells = false) :=
    fun hr r e => ⟨by have := (hr r e).1; omega, (hr r e).2⟩
  refine (hseq (D + 1) (fun X pre W => I X pre W ∧ W.heap[D + 1]? = some (.loop (rec .ready none)) ∧ W.heap[D]? = some (.deferred (some [])))
    (fun pre W => ∃ c, Ix c pre W ∧ W.heap[D + 1]? = some (.loop (rec .done (some c))) ∧ W.heap[D]? = some (.deferred (some []))) V hbV hG (by omega) (fun X pre W1 h => hCl X pre W1 h.1)
    (fun X s A B row hs hg' hr => ⟨hI X s A B row hs.1 hg' (up hr), stay hg' hr (by omega) hs.2.1, stay hg' hr (by omega) hs.2.2⟩)
    (fun s A B row hs hg' hr => by
      obtain ⟨c, hc, hl, hk⟩ := hs
      exact ⟨c, hIx c s A B row hc hg' (up hr), stay hg' hr (by omega) hl, stay hg' hr (by omega) hk⟩)
    (fun X pre x W hX hXW hj hlen => ?_) (fun X hX => ⟨hIV X hX, hrecV, hdefV⟩)).mono ?_
  · -- one round
    obtain ⟨hi, hl, hk⟩ := hj
    have hlt : D + 1 < W.heap.size := (Array.getElem?_eq_some_iff.1 hl).1
    have hy := run_yield (P := P) (args := encs x) hl (by rw [hrec]; exact hps x)
    rw [hrec] at hy
    refine ⟨fn, _, assign, body, hy, roundIn_of_wpIn hfn (hassign _ x W _ ?_)⟩
    refine ⟨_, run_beginRound hl (by rw [hrec]), ?_⟩
    obtain ⟨W2, hW2⟩ : ∃ W2, W.putObj (D + 1) (.loop { rec .ready none with state := .busy }) = W2 := ⟨_, rfl⟩
    have hl2 : W2.heap[D + 1]? = some (.loop { rec .ready none with state := .busy }) := by rw [← hW2]; exact World.putObj_heap_same hlt
    have hk2 : W2.heap[D]? = some (.deferred (some [])) := by rw [← hW2]; exact (World.putObj_heap_other (by omega)).trans hk
    have hi2 : I X pre W2 := by rw [← hW2]; exact (hI X).putObj _ hi (by omega) hl rfl
    have hTl : ¬ T (D + 1) := fun h => by have := hT _ h; omega
    have hkp2 : KeepX T V.heap.size X W W2 := by rw [← hW2]; exact KeepX.put (by omega) _ _ _ (by omega) (by omega) hTl
    show body.wpIn _ _ _ _ _ (W.putObj (D + 1) (.loop { rec .ready none with state := .busy }))
    rw [hW2]
    refine wpIn_mono (hbody _ X pre x W2 (by omega) (Nat.le_trans hXW hkp2.size) hi2 hlen) ?_
    have kf : ∀ (W3 : World) (o : Obj), KeepsFrom w.heap.size W2 W3 → KeepsFrom V.heap.size W (W3.putObj (D + 1) o) := fun W3 o h => ⟨by have := hkp2.size; have := h.size; simp [World.putObj]; omega, fun k o' hB ho hc => (World.putObj_heap_other (by omega)).trans (h.same k o' (by omega) (hkp2.other k o' hB ho hc) hc)⟩
    have fin : ∀ (jump : Option Code) (W3 : World), KeepsFrom w.heap.size W2 W3 →
        (Instr.endRound (D + 1) jump).run P W3 = .ok (.bool jump.isNone) (W3.putObj (D + 1) (.loop (rec (if jump.isNone then .ready else .done) jump))) ∧
        W3.heap[D + 1]? = some (.loop { rec .ready none with state := .busy }) ∧
        (W3.putObj (D + 1) (.loop (rec (if jump.isNone then .ready else .done) jump))).heap[D + 1]? = some (.loop (rec (if jump.isNone then .ready else .done) jump)) ∧
        (W3.putObj (D + 1) (.loop (rec (if jump.isNone then .ready else .done) jump))).heap[D]? = some (.deferred (some [])) := fun jump W3 hk3 => by
      have hl3 := hk3.same _ _ (by omega) hl2 rfl
      have := run_endRound (P := P) jump hl3
      rw [hrec] at this ⊢
      exact ⟨this, by rw [hrec] at hl3; exact hl3, World.putObj_heap_same (Array.getElem?_eq_some_iff.1 hl3).1, (World.putObj_heap_other (by omega)).trans (hk3.same _ _ (by omega) hk2 rfl)⟩
    rintro e a3 W3 hp
    cases e with
    | normal =>
      obtain ⟨hkx, hi3⟩ := hp
      obtain ⟨hr, hl3, hl4, hk4⟩ := fin none W3 hkx.from
      have hkx' : KeepX T V.heap.size X W2 W3 := ⟨hkx.size, fun k hk' hl' => hkx.low k (by rcases hk' with g' | g' | g'; exact .inl g'; exact .inr (.inl g'); exact .inr (.inr ⟨by omega, g'.2⟩)) hl', fun k o hB ho hc => hkx.other k o (by omega) ho hc⟩
      exact ⟨_, _, hr, .inl ⟨rfl, ⟨(hI X).putObj _ hi3 (by omega) hl3 rfl, hl4, hk4⟩, hkp2.trans (hkx'.trans (KeepX.put (by omega) _ _ _ (by omega) (by omega) hTl))⟩⟩
    | ret =>
      obtain ⟨hk3, hi3⟩ := hp
      obtain ⟨hr, hl3, hl4, hk4⟩ := fin (some .ret) W3 hk3
      exact ⟨_, _, hr, .inr ⟨rfl, ⟨.ret, (hIx _).putObj _ hi3 (by omega) hl3 rfl, hl4, hk4⟩, kf _ _ hk3⟩⟩
    | exit id =>
      obtain ⟨hk3, hi3⟩ := hp
      obtain ⟨hr, hl3, hl4, hk4⟩ := fin (some (.exit id)) W3 hk3
      exact ⟨_, _, hr, .inr ⟨rfl, ⟨.exit id, (hIx _).putObj _ hi3 (by omega) hl3 rfl, hl4, hk4⟩, kf _ _ hk3⟩⟩
    | goto t =>
      obtain ⟨hk3, hi3⟩ := hp
      obtain ⟨hr, hl3, hl4, hk4⟩ := fin (some (.goto t)) W3 hk3
      exact ⟨_, _, hr, .inr ⟨rfl, ⟨.goto t, (hIx _).putObj _ hi3 (by omega) hl3 rfl, hl4, hk4⟩, kf _ _ hk3⟩⟩
    | panic ch => exact hp.elim
    | outgrown => exact hp.elim
  · -- behind the iterator
    rintro e W2 ⟨⟨v, rfl⟩, (⟨xs, X, hS, hi, hl, hk⟩ | ⟨pre, hSp, c, hi, hl, hk⟩)⟩
    · exact ⟨none, _, by have := run_endLoop (P := P) hl (by rw [hrec]; simp); rw [hrec] at this; exact this, hdone _ X xs _ (by omega) hS ((hI X).putObj _ hi (by omega) hl rfl) ((World.putObj_heap_other (by omega)).trans hk)⟩
    · exact ⟨some c, _, by have := run_endLoop (P := P) hl (by rw [hrec]; simp); rw [hrec] at this; exact this, hstop _ c pre _ (by omega) hSp ((hIx c).putObj _ hi (by omega) hl rfl) ((World.putObj_heap_other (by omega)).trans hk)⟩
end Go.Proofs.YtechphliifginaaGreatDoor

/- An append in a fence: where the new slice lies. No program's text. -/
set_option linter.unusedVariables false
set_option linter.unusedSimpArgs false
namespace Go.Proofs.YtechphliifginaaGreatDoor
open Go.RowKit

theorem wpListIn_append_at {F : Fence} {n : Nat} {P : Program} (w : World) {ops : Array Oper} {rest : List Oper} {o : Oper} {a : Act} {Q : Exit → Act → World → Prop}
    (hg : o.guard = none) (s x : Operand) (t : TypeId) (hop : o.op = Op.call { callee := Callee.builtin Builtin.append, args := #[s, x], argTypes := #[t, t] })
    (base : Nat) (e : TypeId) (i : TypeInfo) (z : Value) (size bytes : Nat) (h1 : P.underlying t = some (.slice e)) (h2 : P.info? e = some i) (h3 : i.zero = some z) (h4 : i.size = size) (h5 : i.bytes = bytes) (h6 : z.cells.size = size) (h7 : 0 < size)
    (v : Value) (k : Nat) (xs : List Value) (hs : a.eval s = v) (hown : w.ownsRow base e size v k xs) (ad : Addr) (m c : Nat) (news : List Value) (hx : a.eval x = .slice (some ad) m c) (hn : news.length = m * size)
    (hc : ∀ j u, news[j]? = some u → w.cell? (ad.add j) = some u) (h1c : ∀ u ∈ news, u.oneCell' = true) (b1 : k + m ≤ maxLen) (b2 : (k + m) * bytes ≤ 140737488355328) (b3 : base ≤ w.heap.size)
    (hK : ∀ v' w', w'.ownsRow base e size v' (k + m) (xs ++ news) → w.grownBy w' v.ownBlock → (v'.ownBlock = v.ownBlock ∨ v'.ownBlock = some w.heap.size) → wpListIn F n P ops Q rest (a.put o.dst v') w') :
    wpListIn F n P ops Q (o :: rest) a w := by
  refine wpListIn_plain hg fun K hK' => ?_
  obtain ⟨v', w', hrun, r1, r2, _, r3⟩ := run_append_own_at (P := P) w base t o.type e i z size bytes h1 h2 h3 h4 h5 h6 h7 v k xs hown ad m c news hn hc h1c b1 b2 b3
  unfold Oper.wpIn
  refine ⟨?_, ?_⟩
  · simp [Oper.about, hop, resolve, Target.leads, Sem.run_pure]
  · rw [Oper.semAt_plain F _ _ (by rw [hop]; intro c hc'; cases hc')]
    simp [execOp, hop, resolve, invoke, builtin, hs, hx, hrun, Result.andThen]
    exact hK' _ _ (hK v' w' r1 r2 r3)
theorem KeepX.appended {T : Nat → Prop} {B X Bx : Nat} {W w1 : World} {v v' : Value} {tmp : Obj} (hk : KeepsOthers W (w1.setCell ⟨Bx, 0, none⟩ v')) (hgrow : (W.alloc tmp).grownBy w1 v.ownBlock)
    (h1 : ∀ k, k < NG ∨ T k ∨ (B ≤ k ∧ k < X) → k ≠ Bx ∧ some k ≠ v.ownBlock) : KeepX T B X W (w1.setCell ⟨Bx, 0, none⟩ v') :=
  ⟨hk.size, fun k hk' hl => by
    obtain ⟨a, b⟩ := h1 k hk'
    rw [Below.heap_setCell _ _ _ _ a, hgrow.block k (by simp; omega) b, Below.heap_alloc _ _ _ (by omega)], fun k o _ ho hc => (hk.same k o ho hc)⟩
end Go.Proofs.YtechphliifginaaGreatDoor

/- scan: who goes through keys from a slot on, rising. -/
set_option linter.unusedVariables false
set_option linter.unusedSimpArgs false
namespace Go.Proofs.YtechphliifginaaGreatDoor
open Go.RowKit Go.Shelf
attribute [local go_sem] Oper.semAt_some

theorem room_none {F : Fence} (hd : F.depth = none) (k : Nat) : F.room k := fun d h => by rw [hd] at h; cases h
/-- At the wide fence no depth is asked. -/
theorem YieldAt.deep {m : Nat} (m' : Nat) {P : Program} {l : Nat} {args : Array Value} {W : World} {R : Ending → World → Prop} (h : YieldAt Fence.wide m P l args W R) : YieldAt Fence.wide m' P l args W R := by
  obtain ⟨fn, tmps, assign, body, hy, hR⟩ := h
  exact ⟨fn, tmps, assign, body, hy, ⟨hR.1, fun c cs _ => hR.2 c cs (room_none rfl _)⟩⟩
theorem Fr.grownNil {w w' : World} (h : Fr Nil1 w w') : w.grownBy w' none := ⟨h.os, h.tape, h.output, h.size, fun k hk _ => h.block k hk (fun s => s.elim)⟩
/-- The keys between two, of a rising row. -/
def btwL (ks : List Int) (lo hi : Int) : List Int := (ks.take (lessC ks hi)).drop (lessC ks lo)
theorem mem_btwL {ks : List Int} (H : Up ks) {lo hi x : Int} : x ∈ btwL ks lo hi ↔ x ∈ ks ∧ lo ≤ x ∧ x < hi := by
  unfold btwL
  constructor
  · intro h
    obtain ⟨i, hi1, hi2⟩ := mem_drop_get h
    rw [List.getElem?_take] at hi2
    split at hi2
    · rename_i hlt
      exact ⟨List.mem_of_getElem? hi2, lessC_ge H hi2 hi1, lessC_lt hi2 hlt⟩
    · cases hi2
  · rintro ⟨h1, h2, h3⟩
    obtain ⟨i, hlt, e⟩ := List.getElem_of_mem h1
    have hg : ks[i]? = some x := List.getElem?_eq_some_iff.2 ⟨hlt, e⟩
    have a1 : lessC ks lo ≤ i := by
      rcases Nat.lt_or_ge i (lessC ks lo) with g | g
      · have := lessC_lt hg g; omega
      · exact g
    have a2 : i < lessC ks hi := (lessC_iff H hg).1 h3
    refine List.mem_of_getElem? (i := i - lessC ks lo) ?_
    rw [List.getElem?_drop, show lessC ks lo + (i - lessC ks lo) = i by omega, List.getElem?_take_of_lt a2]
    exact hg
/-- What has come, m keys being behind. -/
def gone (ks : List Int) (lo : Int) (m : Nat) (pre : List (Nat × Int)) : Prop := pre.map (·.2) = (ks.take m).drop (lessC ks lo)
theorem gone_step {ks : List Int} {lo : Int} {m : Nat} {pre : List (Nat × Int)} (h : gone ks lo m pre) (hm : lessC ks lo ≤ m) {r : Nat} {x : Int} (hx : ks[m]? = some x) : gone ks lo (m + 1) (pre ++ [(r, x)]) := by
  unfold gone at *
  have hlt := (List.getElem?_eq_some_iff.1 hx).1
  have e : ks.take (m + 1) = ks.take m ++ [x] := by rw [List.take_succ_eq_append_getElem hlt, (List.getElem?_eq_some_iff.1 hx).2]
  rw [List.map_append, h, e, List.drop_append_of_le_length (by rw [List.length_take]; omega)]
  rfl
theorem gone_end {ks : List Int} {lo hi : Int} {m : Nat} {pre : List (Nat × Int)} (h : gone ks lo m pre) (h1 : m = lessC ks lo ∨ m ≤ lessC ks hi) (h2 : lessC ks hi ≤ m) : pre.map (·.2) = btwL ks lo hi := by
  unfold gone at h
  unfold btwL
  rw [h]
  rcases h1 with e | e
  · subst e
    rw [List.drop_eq_nil_of_le (by rw [List.length_take]; omega), List.drop_eq_nil_of_le (by rw [List.length_take]; omega)]
  · rw [show m = lessC ks hi by omega]
theorem gone_len {ks : List Int} {lo : Int} {m : Nat} {pre : List (Nat × Int)} (h : gone ks lo m pre) (hm : m < ks.length) : pre.length < ks.length := by
  have := congrArg List.length h
  rw [List.length_map, List.length_drop, List.length_take] at this
  omega
section
variable {w : World} {f : SF} {σ : List (Option Int)}
theorem scanUpOn_any (H : SlotsR w f σ) {B1 : Nat} (hB : Has w B1 [.pointer (some ⟨f.s, 0, none⟩)] 31) (r : Nat) (hr : r < σ.length) :
    Calls Tryz.prog 161 #[.int .i64 r, .pointer (some ⟨B1, 0, none⟩)] w fun e w' => e = .returned (.int .i64 (nxt (onOf σ) σ.length ((r : Int) + 1))) ∧ w = w' := by
  have HN := hid (gapsNext_any H ((r : Int) + 1) (by omega))
  have c0 := hB.cell 0
  have hmx := H.bits.n2
  have hrb : (r : Int) < 65536 := by omega
  clear H hB hr
  go_enter Tryz.func161, Tryz.ntmps161
  go_wp2_with (go_at_call 133; refine HN.out.mono ?_; rintro e w1 ⟨rfl, rfl⟩)
  go_ret
  exact ⟨rfl, rfl⟩
theorem scanMayLess_any {Bh : Nat} {hi : Int} (hB : Has w Bh [.int .i64 hi] 3) (key : Int) :
    Calls Tryz.prog 103 #[.int .i64 key, .pointer (some ⟨Bh, 0, none⟩)] w fun e w' => e = .returned (.bool (decide (key < hi))) ∧ w = w' := by
  have c0 := hB.cell 0
  clear hB
  go_enter Tryz.func103, Tryz.ntmps103
  go_wp2_with fail
  go_ret
  exact ⟨rfl, rfl⟩
end
/-- The head of run's loop, rising. -/
structure RunU (f : SF) (B1 Bh : Nat) (σ : List (Option Int)) (lo hi : Int) (J : List (Nat × Int) → World → Prop) (i : Nat) (pre : List (Nat × Int)) (W : World) : Prop where
  le : i ≤ σ.length
  j : J pre W
  gone : gone (its σ) lo (cntOn (onOf σ) i) pre
  from' : lessC (its σ) lo ≤ cntOn (onOf σ) i
  may : cntOn (onOf σ) i = lessC (its σ) lo ∨ cntOn (onOf σ) i ≤ lessC (its σ) hi
  sl : SlotsR W f σ
  b1 : Has W B1 [.pointer (some ⟨f.s, 0, none⟩)] 31
  bh : Has W Bh [.int .i64 hi] 3
set_option maxRecDepth 100000 in
set_option maxHeartbeats 4000000 in
theorem scanRunUp_in (n : Nat) (l B1 Bh : Nat) (f : SF) (σ : List (Option Int)) (hU : Up (its σ)) (lo hi : Int) (J Jx : List (Nat × Int) → World → Prop)
    (hY : ∀ pre x W, J pre W → pre.length < (its σ).length → YieldAt Fence.wide 0 Tryz.prog l (encIx x) W fun e W' =>
      (e = .returned (.bool true) ∧ J (pre ++ [x]) W' ∧ KeepT (fun k => k = B1 ∨ k = Bh ∨ f.mem k) W W') ∨ (e = .returned (.bool false) ∧ Jx (pre ++ [x]) W'))
    (i : Nat) (W : World) (H : RunU f B1 Bh σ lo hi J i [] W) :
    CallsIn Fence.wide n Tryz.prog 106 #[.pointer (some ⟨f.s, 0, none⟩), .int .i64 (nxt (onOf σ) σ.length i), .func (.func 161) #[] #[.pointer (some ⟨B1, 0, none⟩)], .func (.func 103) #[] #[.pointer (some ⟨Bh, 0, none⟩)], .func (.yield l) #[] #[]] W fun e W' => (∃ v, e = .returned v) ∧
      ((∃ ys, ys.map (·.2) = btwL (its σ) lo hi ∧ J ys W') ∨ (∃ pre, Jx pre W')) := by
  refine callsIn_of_wp Tryz.func106 rfl trivial ?_ rfl
  simp only [Tryz.ntmps106, List.size_toArray, List.length_cons, List.length_nil, Nat.reduceAdd, Nat.reduceSub, Array.replicate_succ, Array.replicate_zero, List.push_toArray, List.append_toArray, List.nil_append, List.cons_append]
  have HY := hid hY
  have HH := hid H
  have HU := hid hU
  have hent1 : ∀ (args : Array Value) (W : World), Sem.run Tryz.prog (callFunc 161 args) W = .ok (.enter 161 args) W := enters_of Tryz.func161 (by kernel_rfl) rfl
  have hent2 : ∀ (args : Array Value) (W : World), Sem.run Tryz.prog (callFunc 103 args) W = .ok (.enter 103 args) W := enters_of Tryz.func103 (by kernel_rfl) rfl
  clear hY H hU
  gi_wp2_with fail
  gi_loopw [1, 10, 11] (fun v _ _ wr => ∃ (i : Nat) (pre : List (Nat × Int)), v = .int .i64 (nxt (onOf σ) σ.length i) ∧ Hid (RunU f B1 Bh σ lo hi J i pre wr)) (fun v _ _ _ => leftOf σ.length v)
  case atStart => exact ⟨i, [], rfl, HH⟩
  case round =>
    obtain ⟨i, pre, rfl, HW⟩ := hrel
    rcases nxt_cases (onOf σ) σ.length i with ⟨hn, hno⟩ | ⟨r, hn, h1, h2, h3, h4⟩
    · have Hno := hid hno
      rw [hn]
      clear hn hno
      gi_wp2_with fail
      go_end0
      have hc : cntOn (onOf σ) i = (its σ).length := by
        have := cntOn_gap (onOf σ) i (σ.length - i) (fun j a b => Hno.out j (by omega) (by omega))
        rw [show i + (σ.length - i) = σ.length by have := HW.out.le; omega] at this
        rw [its_length, this]
      exact ⟨⟨_, rfl⟩, .inl ⟨pre, gone_end HW.out.gone HW.out.may (by rw [hc]; exact lessC_le _ _), HW.out.j⟩⟩
    · obtain ⟨x, hx⟩ := onOf_true h3
      have hcr : cntOn (onOf σ) r = cntOn (onOf σ) i := by
        have := cntOn_gap (onOf σ) i (r - i) (fun j a b => h4 j (by omega) (by omega))
        rwa [show i + (r - i) = r by omega] at this
      have hkx : (its σ)[cntOn (onOf σ) i]? = some x := by rw [← hcr]; exact its_get σ r x hx
      have hat := gapsAt_any HW.out.sl (r : Int)
      rw [(at_some hx).1, (at_some hx).2] at hat
      have HAt := hid hat
      have HMay := hid (scanMayLess_any HW.out.bh x)
      have hmx : σ.length ≤ 65536 := HW.out.sl.bits.n2
      have hr0 : 0 ≤ (r : Int) := by omega
      have HF := hid (And.intro hx (And.intro hcr (And.intro hkx (And.intro h1 h2))))
      rw [hn]
      clear hn h1 h3 h4 hat hcr
      by_cases hlt : x < hi
      · have hd : decide (x < hi) = true := decide_eq_true hlt
        have HLt := hid hlt
        obtain ⟨fn, tmps, assign, body, hy, hR⟩ := YieldAt.deep (n - 1) (HY.out pre (r, x) wr HW.out.j (gone_len HW.out.gone ((List.getElem?_eq_some_iff.1 hkx).1)))
        unfold encIx at hy
        dsimp only at hy
        have HR := hid hR
        clear hx hkx hR hlt h2
        gi_wp2_with (first
          | ((first | refine ⟨trivial, wideNo, ?_⟩ | refine ⟨trivial, ?_⟩); gi_at_call 39; refine (callsIn_wide.2 HAt.out).mono ?_; rintro e w1 ⟨rfl, rfl⟩)
          | ((first | refine ⟨trivial, wideNo, ?_⟩ | refine ⟨trivial, ?_⟩); gi_at_call 103; refine (callsIn_wide.2 HMay.out).mono ?_; rintro e w1 ⟨rfl, rfl⟩))
        refine ⟨wideNo, HR.out.mono ?_⟩
        rintro e W3 (⟨rfl, hJ3, hk3⟩ | ⟨rfl, hJx3⟩)
        · have HS3 := hid (HW.out.sl.keep hk3 (fun k h => .inr (.inr h)))
          have HB3 := hid (HW.out.b1.keep hk3 (.inl rfl))
          have HH3 := hid (HW.out.bh.keep hk3 (.inr (.inl rfl)))
          have HJ3 := hid hJ3
          have HOn := hid (scanUpOn_any HS3.out HB3.out r HF.out.2.2.2.2)
          clear hJ3 hk3
          gi_wp2_with ((first | refine ⟨trivial, wideNo, ?_⟩ | refine ⟨trivial, ?_⟩); gi_at_call 161; refine (callsIn_wide.2 HOn.out).mono ?_; rintro e w1 ⟨rfl, rfl⟩)
          go_roundw
          case rel =>
            have hr := HF.out
            have hon := cntOn_on (onOf σ) r (onOf_some hr.1)
            refine ⟨r + 1, pre ++ [(r, x)], by go_num, hid ⟨by omega, HJ3.out, ?_, ?_, ?_, HS3.out, HB3.out, HH3.out⟩⟩
            · rw [hon, hr.2.1]
              exact gone_step HW.out.gone HW.out.from' hr.2.2.1
            · have := HW.out.from'; omega
            · right
              have := (lessC_iff HU.out hr.2.2.1).1 HLt.out
              omega
          case measure =>
            have hr := HF.out
            apply leftOf_lt _ _ _ hr.2.2.2.2
            rcases nxt_cases (onOf σ) σ.length ((r : Int) + 1) with ⟨hn, _⟩ | ⟨q, hn, g1, _⟩
            · exact .inl hn
            · exact .inr ⟨q, hn, by omega⟩
        · have HJx := hid hJx3
          clear hJx3
          gi_wp2_with fail
          refine bodyPost_ret (results_none rfl _ _ _) rfl ?_
          exact ⟨⟨_, rfl⟩, .inr ⟨_, HJx.out⟩⟩
      · have hd : decide (x < hi) = false := decide_eq_false hlt
        have HLt := hid hlt
        clear hx hkx hlt h2
        gi_wp2_with (first
          | ((first | refine ⟨trivial, wideNo, ?_⟩ | refine ⟨trivial, ?_⟩); gi_at_call 39; refine (callsIn_wide.2 HAt.out).mono ?_; rintro e w1 ⟨rfl, rfl⟩)
          | ((first | refine ⟨trivial, wideNo, ?_⟩ | refine ⟨trivial, ?_⟩); gi_at_call 103; refine (callsIn_wide.2 HMay.out).mono ?_; rintro e w1 ⟨rfl, rfl⟩))
        refine ⟨fun _ h => (by cases h), ?_⟩
        gi_wp2_with fail
        refine bodyPost_ret (results_none rfl _ _ _) rfl ?_
        exact ⟨⟨_, rfl⟩, .inl ⟨pre, gone_end HW.out.gone HW.out.may (by
          rcases Nat.lt_or_ge (cntOn (onOf σ) i) (lessC (its σ) hi) with g | g
          · exfalso; have := lessC_lt HF.out.2.2.1 g; have := HLt.out; omega
          · exact g), HW.out.j⟩⟩
end Go.Proofs.YtechphliifginaaGreatDoor

/- scan: up's iterator; Range's. -/
set_option linter.unusedVariables false
set_option linter.unusedSimpArgs false
namespace Go.Proofs.YtechphliifginaaGreatDoor
open Go.RowKit Go.Shelf
attribute [local go_sem] Oper.semAt_some

/-- What up's iterator has: its boxes, its array. -/
structure UpW (f : SF) (B1 B2 B3 Bh : Nat) (σ : List (Option Int)) (lo hi : Int) (W : World) : Prop where
  b1 : Has W B1 [.pointer (some ⟨f.s, 0, none⟩)] 31
  b2 : Has W B2 [.int .i64 lo] 3
  b3 : Has W B3 [.func (.func 103) #[] #[.pointer (some ⟨Bh, 0, none⟩)]] 57
  bh : Has W Bh [.int .i64 hi] 3
  sl : SlotsR W f σ
  up : Up (its σ)
def UpT (f : SF) (B1 B2 B3 Bh : Nat) (k : Nat) : Prop := k = B1 ∨ k = B2 ∨ k = B3 ∨ k = Bh ∨ f.mem k
section
variable {f : SF} {B1 B2 B3 Bh : Nat} {σ : List (Option Int)} {lo hi : Int} {w W : World}
theorem UpW.new (H : UpW f B1 B2 B3 Bh σ lo hi w) (hf : Fr Nil1 w W) : UpW f B1 B2 B3 Bh σ lo hi W := ⟨H.b1.fr' hf id, H.b2.fr' hf id, H.b3.fr' hf id, H.bh.fr' hf id, H.sl.new hf, H.up⟩
theorem UpW.lt (H : UpW f B1 B2 B3 Bh σ lo hi w) : ∀ k, UpT f B1 B2 B3 Bh k → k < w.heap.size := by
  rintro k (rfl | rfl | rfl | rfl | hk)
  · exact H.b1.lt
  · exact H.b2.lt
  · exact H.b3.lt
  · exact H.bh.lt
  · exact H.sl.lt k hk
end
set_option maxRecDepth 100000 in
set_option maxHeartbeats 4000000 in
theorem scanUp1_in (n l : Nat) {f : SF} {B1 B2 B3 Bh : Nat} {σ : List (Option Int)} {lo hi : Int} (J Jx : List (Nat × Int) → World → Prop) (W : World) (H : UpW f B1 B2 B3 Bh σ lo hi W)
    (hJ : ∀ pre W W', J pre W → Fr Nil1 W W' → J pre W')
    (hY : ∀ pre x W, J pre W → pre.length < (its σ).length → YieldAt Fence.wide (n - 1) Tryz.prog l (encIx x) W fun e W' =>
      (e = .returned (.bool true) ∧ J (pre ++ [x]) W' ∧ KeepT (UpT f B1 B2 B3 Bh) W W') ∨ (e = .returned (.bool false) ∧ Jx (pre ++ [x]) W'))
    (h0 : J [] W) :
    CallsIn Fence.wide n Tryz.prog 160 #[.func (.yield l) #[] #[], .pointer (some ⟨B1, 0, none⟩), .pointer (some ⟨B2, 0, none⟩), .pointer (some ⟨B3, 0, none⟩)] W fun e W' => (∃ v, e = .returned v) ∧
      ((∃ ys, ys.map (·.2) = btwL (its σ) lo hi ∧ J ys W') ∨ (∃ pre, Jx pre W')) := by
  refine callsIn_of_wp Tryz.func160 rfl trivial ?_ rfl
  simp only [Tryz.ntmps160, List.size_toArray, List.length_cons, List.length_nil, Nat.reduceAdd, Nat.reduceSub, Array.replicate_succ, Array.replicate_zero, List.push_toArray, List.append_toArray, List.nil_append, List.cons_append]
  have HL := hid (findLower_any H.sl H.up lo)
  obtain ⟨c1, f1⟩ := H.b1.one
  obtain ⟨c2, f2⟩ := H.b2.one
  obtain ⟨c3, f3⟩ := H.b3.one
  have HRun := hid (fun (i : Nat) (W1 : World) (hf : Fr Nil1 W W1) (hi1 : i ≤ σ.length) (hi2 : cntOn (onOf σ) i = lessC (its σ) lo) => scanRunUp_in (n - 1) l B1 Bh f σ H.up lo hi J Jx
    (fun pre x W hj hl => YieldAt.deep 0 ((hY pre x W hj hl).mono (fun e W' h => by
      rcases h with ⟨a, b, c⟩ | h
      · exact .inl ⟨a, b, ⟨c.size, fun k hk hl => c.block k (by
          rcases hk with hk | hk
          · exact .inl hk
          · exact .inr (by rcases hk with rfl | rfl | hk; exact .inl rfl; exact .inr (.inr (.inr (.inl rfl))); exact .inr (.inr (.inr (.inr hk))))) hl⟩⟩
      · exact .inr h))) i W1 ⟨hi1, hJ _ _ _ h0 hf, by unfold gone; rw [hi2]; simp, Nat.le_of_eq hi2.symm, .inl hi2, H.sl.new hf, H.b1.fr' hf id, H.bh.fr' hf id⟩)
  have HLen := hid (fun (h : lessC (its σ) lo = (its σ).length) => show cntOn (onOf σ) σ.length = lessC (its σ) lo from by rw [h, its_length])
  have HH := hid H
  clear H hJ hY h0
  by_cases hl : lessC (its σ) lo = (its σ).length
  · have HLs := hid hl
    clear hl
    gi_wp2_with (first
      | ((first | refine ⟨trivial, wideNo, ?_⟩ | refine ⟨trivial, ?_⟩); gi_at_call 118; refine (callsIn_wide.2 HL.out).mono ?_; rintro e w1 ⟨r, cc, rfl, H1⟩; obtain rfl := H1.out.1.neg HLs.out; have hrun := HRun.out σ.length w1 H1.out.2 (Nat.le_refl _) (HLen.out HLs.out); rw [nxt_end] at hrun; have HR := hid hrun; have hw := HH.out.new H1.out.2; have d1 := hw.b1.cell 0; have d2 := hw.b2.cell 0; have d3 := hw.b3.cell 0; clear hrun hw)
      | ((first | refine ⟨trivial, wideNo, ?_⟩ | refine ⟨trivial, ?_⟩); gi_at_call 106; refine HR.out.mono ?_; rintro e w2 ⟨⟨v, rfl⟩, h2⟩; have H2 := hid h2; clear h2))
    refine bodyPost_end (results_none rfl _ _ _) rfl ?_
    exact ⟨⟨_, rfl⟩, H2.out⟩
  · have HLs := hid hl
    clear hl
    gi_wp2_with (first
      | ((first | refine ⟨trivial, wideNo, ?_⟩ | refine ⟨trivial, ?_⟩); gi_at_call 118; refine (callsIn_wide.2 HL.out).mono ?_; rintro e w1 ⟨r, cc, rfl, H1⟩; obtain ⟨q, rfl, hq, hc, hon⟩ := H1.out.1.posOn HLs.out; have hrun := HRun.out q w1 H1.out.2 (Nat.le_of_lt hq) hc; rw [nxt_self hq hon] at hrun; have HR := hid hrun; have hw := HH.out.new H1.out.2; have d1 := hw.b1.cell 0; have d2 := hw.b2.cell 0; have d3 := hw.b3.cell 0; clear hrun hw hq hc hon)
      | ((first | refine ⟨trivial, wideNo, ?_⟩ | refine ⟨trivial, ?_⟩); gi_at_call 106; refine HR.out.mono ?_; rintro e w2 ⟨⟨v, rfl⟩, h2⟩; have H2 := hid h2; clear h2))
    refine bodyPost_end (results_none rfl _ _ _) rfl ?_
    exact ⟨⟨_, rfl⟩, H2.out⟩
/-- up's iterator, as a range over it wants its contract. -/
theorem scanUp_stops (n : Nat) {f : SF} {B1 B2 B3 Bh : Nat} {σ : List (Option Int)} {lo hi : Int} (w : World) (H : UpW f B1 B2 B3 Bh σ lo hi w) :
    SeqStopsK Fence.wide n Tryz.prog 160 #[.pointer (some ⟨B1, 0, none⟩), .pointer (some ⟨B2, 0, none⟩), .pointer (some ⟨B3, 0, none⟩)] encIx (KeepT (UpT f B1 B2 B3 Bh)) (fun ys => ys.map (·.2) = btwL (its σ) lo hi) (fun _ => True) (its σ).length w := fun l J Jx W hW hJ _ hY h0 => by
  refine (scanUp1_in n l J Jx W (H.new (Fr.of_below hW)) (fun pre W1 W2 h hf => hJ pre W1 W2 none h hf.grownNil (fun r e => by cases e)) hY h0).mono ?_
  rintro e W' ⟨h1, h2 | ⟨pre, h2⟩⟩
  · exact ⟨h1, .inl h2⟩
  · exact ⟨h1, .inr ⟨pre, trivial, h2⟩⟩
end Go.Proofs.YtechphliifginaaGreatDoor

/- scan: a set's array; Range, its iterator. -/
set_option linter.unusedVariables false
set_option linter.unusedSimpArgs false
namespace Go.Proofs.YtechphliifginaaGreatDoor
open Go.RowKit Go.Shelf
attribute [local go_sem] Oper.semAt_some

theorem scanSlots_any {w0 w : World} {s : Nat} {ks : List Int} (H : SS w0 s ks w) : Calls Tryz.prog 98 #[.pointer (some ⟨s, 0, none⟩)] w fun e w' => ∃ f : SF, e = .returned (.pointer (some ⟨f.s, 0, none⟩)) ∧ ∃ σ : List (Option Int), Hid (SlotsR w' f σ ∧ its σ = ks ∧ Fr Nil1 w w' ∧ ∀ k, f.mem k → w.heap.size ≤ k) := by
  obtain ⟨p, F, σ, h, evs, a, rfl⟩ := H.ex
  have HRow := hid (setRow_any a)
  clear H a
  go_enter Tryz.func98, Tryz.ntmps98
  go_wp2_with (first
    | (go_at_call 19; (with_reducible refine (pmaSlots_any H1.out.1.r).mono ?_); rintro e w2 ⟨f, rfl, g1, g2, g3⟩; have H2 := hid (And.intro g1 (And.intro g2 g3)); clear g1 g2 g3)
    | (go_at_call 37; (with_reducible refine HRow.out.mono ?_); rintro e w1 ⟨F', rfl, H1⟩))
  go_ret
  exact ⟨f, rfl, σ, hid ⟨H2.out.1, rfl, H1.out.2.trans H2.out.2.1, fun k hk => Nat.le_trans H1.out.2.size (H2.out.2.2 k hk)⟩⟩
theorem scanUp_any (fs : Nat) (lo : Int) (Bh : Nat) (w : World) : Calls Tryz.prog 97 #[.pointer (some ⟨fs, 0, none⟩), .int .i64 lo, .func (.func 103) #[] #[.pointer (some ⟨Bh, 0, none⟩)]] w fun e w' =>
    e = .returned (.func (.func 160) #[] #[.pointer (some ⟨w.heap.size, 0, none⟩), .pointer (some ⟨w.heap.size + 1, 0, none⟩), .pointer (some ⟨w.heap.size + 1 + 1, 0, none⟩)]) ∧
    ((w.alloc (.cells #[.pointer (some ⟨fs, 0, none⟩)] 31)).alloc (.cells #[.int .i64 lo] 3)).alloc (.cells #[.func (.func 103) #[] #[.pointer (some ⟨Bh, 0, none⟩)]] 57) = w' := by
  go_enter Tryz.func97, Tryz.ntmps97
  go_wp2_with fail
  go_ret
  exact ⟨rfl, rfl⟩
/-- The boxes of Range's iterator. -/
structure RngW (s Bs Bl Bh : Nat) (lo hi : Int) (W : World) : Prop where
  bs : Has W Bs [.pointer (some ⟨s, 0, none⟩)] 58
  bl : Has W Bl [.int .i64 lo] 3
  bh : Has W Bh [.int .i64 hi] 3
def RngT (Bs Bl Bh : Nat) (k : Nat) : Prop := k = Bs ∨ k = Bl ∨ k = Bh
theorem RngW.new {s Bs Bl Bh : Nat} {lo hi : Int} {w W : World} (H : RngW s Bs Bl Bh lo hi w) (hf : Fr Nil1 w W) : RngW s Bs Bl Bh lo hi W := ⟨H.bs.fr' hf id, H.bl.fr' hf id, H.bh.fr' hf id⟩
theorem RngW.lt {s Bs Bl Bh : Nat} {lo hi : Int} {w : World} (H : RngW s Bs Bl Bh lo hi w) : ∀ k, RngT Bs Bl Bh k → k < w.heap.size := by
  rintro k (rfl | rfl | rfl)
  · exact H.bs.lt
  · exact H.bl.lt
  · exact H.bh.lt
theorem scanRange_any (s : Nat) (lo hi : Int) (w : World) : Calls Tryz.prog 43 #[.pointer (some ⟨s, 0, none⟩), .int .i64 lo, .int .i64 hi] w fun e w' =>
    e = .returned (.func (.func 102) #[] #[.pointer (some ⟨w.heap.size, 0, none⟩), .pointer (some ⟨w.heap.size + 1, 0, none⟩), .pointer (some ⟨w.heap.size + 1 + 1, 0, none⟩)]) ∧
    RngW s w.heap.size (w.heap.size + 1) (w.heap.size + 1 + 1) lo hi w' ∧ Fr Nil1 w w' ∧ w'.heap.size = w.heap.size + 3 := by
  have b1 := ((Has.new w [.pointer (some ⟨s, 0, none⟩)] 58).alloc (.cells #[.int .i64 lo] 3)).alloc (.cells #[.int .i64 hi] 3)
  have b2 := (Has.new (w.alloc (.cells #[.pointer (some ⟨s, 0, none⟩)] 58)) [.int .i64 lo] 3).alloc (.cells #[.int .i64 hi] 3)
  have b3 := Has.new ((w.alloc (.cells #[.pointer (some ⟨s, 0, none⟩)] 58)).alloc (.cells #[.int .i64 lo] 3)) [.int .i64 hi] 3
  simp only [World.size_alloc] at b2 b3
  have HB := hid (And.intro b1 (And.intro b2 b3))
  clear b1 b2 b3
  go_enter Tryz.func43, Tryz.ntmps43
  go_wp2_with fail
  go_ret
  exact ⟨rfl, ⟨HB.out.1, HB.out.2.1, HB.out.2.2⟩, (((Fr.refl _ _).alloc _).alloc _).alloc _, by simp⟩
theorem RoundIn.inRound {F : Fence} {n : Nat} {P : Program} {l : Nat} {f : FuncId} {tmps : Array Value} {assign body : Code} {w : World} {R : Ending → World → Prop} (l' : Nat) (h : RoundIn F n P l f tmps assign body w R) : RoundIn (F.inRound l') n P l f tmps assign body w R := h
/-- The keys alone. -/
def snds (pre : List (Nat × Int)) : List Int := pre.map (·.2)
theorem snds_snoc (pre : List (Nat × Int)) (x : Nat × Int) : snds (pre ++ [x]) = snds pre ++ [x.2] := by unfold snds; simp
theorem snds_len (pre : List (Nat × Int)) : (snds pre).length = pre.length := by unfold snds; simp
set_option maxRecDepth 100000 in
set_option maxHeartbeats 8000000 in
theorem scanRange1_in (n l : Nat) (hn1 : 1 ≤ n) {w0 : World} {s Bs Bl Bh : Nat} {ks : List Int} {lo hi : Int} (J : Nat → List Int → World → Prop) (Jx : List Int → World → Prop) (W : World) (hS : SS w0 s ks W) (hR : RngW s Bs Bl Bh lo hi W) (hG : NG ≤ W.heap.size) (hl : l < W.heap.size)
    (hJ : ∀ X, OwnFrom W.heap.size (J X)) (hJx : OwnFrom W.heap.size Jx)
    (hY : ∀ X pre x W1, W.heap.size ≤ X → X ≤ W1.heap.size → J X pre W1 → pre.length < ks.length → YieldAt Fence.wide (n - 1) Tryz.prog l #[.int .i64 x] W1 fun e W' =>
      (e = .returned (.bool true) ∧ J X (pre ++ [x]) W' ∧ KeepX (RngT Bs Bl Bh) W.heap.size X W1 W') ∨ (e = .returned (.bool false) ∧ Jx (pre ++ [x]) W' ∧ KeepsFrom W.heap.size W1 W'))
    (h0 : ∀ X, W.heap.size ≤ X → J X [] W) :
    CallsIn Fence.wide n Tryz.prog 102 #[.func (.yield l) #[] #[], .pointer (some ⟨Bs, 0, none⟩), .pointer (some ⟨Bl, 0, none⟩), .pointer (some ⟨Bh, 0, none⟩)] W fun e W' => (∃ v, e = .returned v) ∧
      ((∃ ys X, ys = btwL ks lo hi ∧ J X ys W') ∨ (∃ pre, Jx pre W')) := by
  refine callsIn_of_wp_marks Tryz.func102 rfl trivial ?_ rfl
  simp only [Tryz.ntmps102, List.size_toArray, List.length_cons, List.length_nil, Nat.reduceAdd, Nat.reduceSub, Array.replicate_succ, Array.replicate_zero, List.push_toArray, List.append_toArray, List.nil_append, List.cons_append]
  have HSl := hid (fun wz (hf : Fr Nil1 W wz) => scanSlots_any (hS.new hf))
  have HRg := hid hR
  have HUp := hid hS.up
  have HGl := hid (And.intro hG hl)
  have HY := hid hY
  have H0 := hid h0
  have HJ := hid (And.intro hJ hJx)
  obtain ⟨Y, hYs⟩ : ∃ Y, W.heap.size = Y := ⟨_, rfl⟩
  have hF0 : Fr Nil1 W (W.alloc (.cells #[.func (.yield l) #[] #[]] 57)) := (Fr.refl _ _).alloc _
  have HF0 := hid hF0
  have HBy := hid (show Has (W.alloc (.cells #[.func (.yield l) #[] #[]] 57)) Y [.func (.yield l) #[] #[]] 57 from hYs ▸ Has.new W _ _)
  have hr := hR.new hF0
  have c1 := hr.bs.cell 0
  have c2 := hr.bl.cell 0
  have c3 := hr.bh.cell 0
  have HYs := hid hYs
  clear hS hR hG hl hY h0 hJ hJx hF0 hr
  gi_wp2_with fail
  obtain ⟨W0, hW0⟩ : ∃ W0, W.alloc (.cells #[.func (.yield l) #[] #[]] 57) = W0 := ⟨_, rfl⟩
  rw [hW0] at HF0 HBy c1 c2 c3 ⊢
  clear hW0
  gi_region_with (first
    | ((first | refine ⟨trivial, wideNo, ?_⟩ | refine ⟨trivial, ?_⟩); gi_at_call 97; refine (callsIn_wide.2 (scanUp_any f.s lo Bh w1)).mono ?_; rintro e w2 ⟨rfl, rfl⟩)
    | ((first | refine ⟨trivial, wideNo, ?_⟩ | refine ⟨trivial, ?_⟩); gi_at_call 98; refine (callsIn_wide.2 (HSl.out W0.drew HF0.out.drew)).mono ?_; rintro e w1 ⟨f, rfl, σ, H1⟩; have hr1 := HRg.out.new (HF0.out.drew.trans H1.out.2.2.1); have d1 := hr1.bs.cell 0; have d2 := hr1.bl.cell 0; have d3 := hr1.bh.cell 0; clear hr1))
  all_goals (
    have hf1 := HF0.out.drew.trans H1.out.2.2.1
    have hw1 := hf1.size
    have ha := ((Has.new w1 [.pointer (some ⟨f.s, 0, none⟩)] 31).alloc (.cells #[.int .i64 lo] 3)).alloc (.cells #[.func (.func 103) #[] #[.pointer (some ⟨Bh, 0, none⟩)]] 57)
    have hb := (Has.new (w1.alloc (.cells #[.pointer (some ⟨f.s, 0, none⟩)] 31)) [.int .i64 lo] 3).alloc (.cells #[.func (.func 103) #[] #[.pointer (some ⟨Bh, 0, none⟩)]] 57)
    have hc := Has.new ((w1.alloc (.cells #[.pointer (some ⟨f.s, 0, none⟩)] 31)).alloc (.cells #[.int .i64 lo] 3)) [.func (.func 103) #[] #[.pointer (some ⟨Bh, 0, none⟩)]] 57
    have hf2 : Fr Nil1 w1 (((w1.alloc (.cells #[.pointer (some ⟨f.s, 0, none⟩)] 31)).alloc (.cells #[.int .i64 lo] 3)).alloc (.cells #[.func (.func 103) #[] #[.pointer (some ⟨Bh, 0, none⟩)]] 57)) := (((Fr.refl _ _).alloc _).alloc _).alloc _
    have hs2 : (((w1.alloc (.cells #[.pointer (some ⟨f.s, 0, none⟩)] 31)).alloc (.cells #[.int .i64 lo] 3)).alloc (.cells #[.func (.func 103) #[] #[.pointer (some ⟨Bh, 0, none⟩)]] 57)).heap.size = w1.heap.size + 3 := by simp
    simp only [World.size_alloc] at hb hc
    obtain ⟨W2, hW2⟩ : ∃ W2, (((w1.alloc (.cells #[.pointer (some ⟨f.s, 0, none⟩)] 31)).alloc (.cells #[.int .i64 lo] 3)).alloc (.cells #[.func (.func 103) #[] #[.pointer (some ⟨Bh, 0, none⟩)]] 57)) = W2 := ⟨_, rfl⟩
    rw [hW2] at ha hb hc hf2 hs2 ⊢
    obtain ⟨R, hR⟩ : ∃ R, w1.heap.size = R := ⟨_, rfl⟩
    rw [hR] at ha hb hc hs2 hw1 ⊢
    have hrg := (HRg.out.new hf1).new hf2
    have HU := hid (show UpW f R (R + 1) (R + 1 + 1) Bh σ lo hi W2 from ⟨ha, hb, hc, hrg.bh, H1.out.1.new hf2, by rw [H1.out.2.1]; exact HUp.out⟩)
    have hfA : Fr Nil1 W W2 := hf1.trans hf2
    have HYb := hid ((HBy.out.fr' (Fr.refl Nil1 W0).drew id |>.fr' H1.out.2.2.1 id).fr' hf2 id)
    have hYW : Y < R := by have := HBy.out.lt; have : W0.heap.size ≤ w1.heap.size := H1.out.2.2.1.size; omega
    have hmemL : ∀ k, f.mem k → Y ≤ k ∧ k < R := fun k hk => ⟨by have : W0.heap.size ≤ k := H1.out.2.2.2 k hk; have := HF0.out.size; omega, hR ▸ H1.out.1.lt k hk⟩
    have HST := hid (show J W2.heap.size [] W2 from HJ.out.1 _ _ _ _ none (H0.out W2.heap.size (by omega)) hfA.grownNil (fun r e => by cases e))
    have hrl := HRg.out.bh.lt
    have heq := H1.out.2.1
    clear ha hb hc hf1 hf2 hW2 hrg c1 c2 c3 hR
    gi_wp2_with fail
    have hTl : ∀ k, k < NG ∨ UpT f R (R + 1) (R + 1 + 1) Bh k → k < W2.heap.size := by
      rintro k (hk | hk)
      · have := HGl.out.1; omega
      · exact HU.out.lt k hk
    refine wpIn_rangeFunc_ownG (α := Nat × Int) rfl hn1 (gf := 160) (lb := #[.pointer (some ⟨R, 0, none⟩), .pointer (some ⟨R + 1, 0, none⟩), .pointer (some ⟨R + 1 + 1, 0, none⟩)]) rfl trivial (enters_of Tryz.func160 (by kernel_rfl) rfl)
      (scanUp_stops _ W2 HU.out) (fun h k => h.trans k) (fun Wk l o o' hl ho hc hw => KeepT.putObj W2 hTl Wk l o o' hl ho hc hw) (Below.refl _ _) (fun _ => rfl)
      (fun (pre : List (Nat × Int)) (Wk : World) => J W2.heap.size (snds pre) Wk ∧ Has Wk Y [.func (.yield l) #[] #[]] 57 ∧ W2.heap.size ≤ Wk.heap.size)
      (fun (c : Code) (pre : List (Nat × Int)) (Wk : World) => c = .ret ∧ Jx (snds pre) Wk)
      (fun (s : List (Nat × Int)) A B row hs hg hrow => ⟨HJ.out.1 _ _ A B row hs.1 hg (fun r e => ⟨by have := (hrow r e).1; omega, (hrow r e).2⟩), hs.2.1.grownBy hg (fun r e => (hrow r e).2), Nat.le_trans hs.2.2 hg.size⟩)
      (fun (c : Code) (s : List (Nat × Int)) A B row hs hg hrow => ⟨hs.1, HJ.out.2 _ A B row hs.2 hg (fun r e => ⟨by have := (hrow r e).1; omega, (hrow r e).2⟩)⟩)
      ⟨HST.out, HYb.out, Nat.le_refl _⟩
      (fun x => { tmps := #[.func (.yield l) #[] #[], .pointer (some ⟨Bs, 0, none⟩), .pointer (some ⟨Bl, 0, none⟩), .pointer (some ⟨Bh, 0, none⟩), .pointer (some ⟨Y, 0, none⟩), undef, .int .i64 x.2, .pointer (some ⟨s, 0, none⟩), .pointer (some ⟨f.s, 0, none⟩), .int .i64 lo, .func (.func 103) #[] #[.pointer (some ⟨Bh, 0, none⟩)], .func (.func 160) #[] #[.pointer (some ⟨R, 0, none⟩), .pointer (some ⟨R + 1, 0, none⟩), .pointer (some ⟨R + 1 + 1, 0, none⟩)], .int .i64 (x.1 : Int), .int .i64 x.2, undef, undef, undef, undef], defers := [] }) ?assign ?body ?done ?stop
    case assign =>
      intro l x W K hK
      unfold encIx
      gi_wp2
      exact hK
    case body =>
      rintro l' pre x Wk ⟨hj, hy, hx⟩ hlt'
      obtain ⟨fn, tmps, assign, body, hyy, hR⟩ := YieldAt.deep (n - 1 - 1 - 1) (HY.out W2.heap.size (snds pre) x.2 Wk (by omega) hx hj (by rw [snds_len, ← heq]; exact hlt'))
      have HR := hid hR
      have HX := hid (And.intro hj hx)
      have HYk := hid hy
      have ey := hy.cell 0
      clear hj hx hy hR
      gi_wp2_with fail
      refine ⟨wideNo, (RoundIn.inRound l' HR.out).mono ?_⟩
      rintro e W3 (⟨rfl, hJ3, hk3⟩ | ⟨rfl, hJx3, hk3⟩)
      · have HJ3 := hid hJ3
        have HK3 := hid hk3
        clear hJ3 hk3
        gi_wp2_with fail
        have hkT : KeepT (fun k => UpT f R (R + 1) (R + 1 + 1) Bh k ∨ k = Y) Wk W3 := ⟨HK3.out.size, fun k hk hl => HK3.out.low k (by
          rcases hk with hk | (rfl | rfl | rfl | rfl | hk) | rfl
          · exact .inl hk
          · exact .inr (.inr (by omega))
          · exact .inr (.inr (by omega))
          · exact .inr (.inr (by omega))
          · exact .inr (.inl (.inr (.inr rfl)))
          · have := hmemL _ hk; exact .inr (.inr (by omega))
          · exact .inr (.inr (by omega))) hl⟩
        exact ⟨⟨HK3.out.size, fun k o hB ho hc => HK3.out.other k o (by omega) ho hc⟩, ⟨HK3.out.size, fun k hk hl => hkT.block k (hk.imp id .inl) hl⟩, by rw [snds_snoc]; exact HJ3.out, HYk.out.keep hkT (.inr rfl), Nat.le_trans HX.out.2 HK3.out.size⟩
      · have HJ3 := hid hJx3
        have HK3 := hid hk3
        clear hJx3 hk3
        gi_wp2_with fail
        exact ⟨⟨HK3.out.size, fun k o hB ho hc => HK3.out.same k o (by omega) ho hc⟩, rfl, by rw [snds_snoc]; exact HJ3.out⟩
    case done =>
      rintro D ys Wk hD hys ⟨hj, hy, hx⟩ hK
      gi_wp2_with fail
      refine ⟨by simp, .inl ⟨_, _, rfl, run_takeDeferred hK, ?_⟩⟩
      exact ⟨_, results_none rfl _ _ _, ⟨_, rfl⟩, .inl ⟨snds ys, W2.heap.size, heq ▸ hys, (HJ.out.1 _).putObj _ hj (by omega) hK rfl⟩⟩
    case stop =>
      rintro D c pre Wk hD _ ⟨rfl, hjx⟩ hK
      gi_wp2_with fail
      refine ⟨by simp, .inl ⟨_, _, rfl, run_takeDeferred hK, ?_⟩⟩
      exact ⟨_, results_none rfl _ _ _, ⟨_, rfl⟩, .inr ⟨snds pre, HJ.out.2.putObj _ hjx (by omega) hK rfl⟩⟩)
end Go.Proofs.YtechphliifginaaGreatDoor
