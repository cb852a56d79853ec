/- The same, where the loop's variables are boxes that each round makes anew. No program's text. -/
import Derived.Test.YtechphliifginaaGreatDoorRY
set_option linter.unusedVariables false
set_option linter.unusedSimpArgs false
namespace Go.Proofs.YtechphliifginaaGreatDoor
open Go.RowKit

/-- The caller's law. -/
theorem wpIn_rangeZ {α : Type} {n : Nat} {P : Program} {g : Operand} {ps : Array Tmp} {assign body : Code} {Q : Exit → Act → World → Prop} {a : Act} {w : World}
    (h1 : 1 ≤ n) (hG : NG ≤ w.heap.size) {T : Nat → Prop} (hT : ∀ k, T k → k < w.heap.size) {gf : Nat} {lb : Array Value} (hg : a.eval g = .func (.func gf) #[] lb) (eg : ∀ args w, (callFunc gf args).run P w = .ok (.enter gf args) w)
    {encs : α → Array Value} {Cl : List α → World → Prop} {So : Nat → Prop} (hSo : ∀ k, So k → k < w.heap.size) {S Sp : List α → Prop} {N : Nat} (hseq : SeqY T (n - 1) P gf lb encs Cl So S Sp N w) (hps : ∀ x, (encs x).size = ps.size)
    (I : Nat → List α → World → Prop) (Ix : Code → List α → World → Prop) (hCl : ∀ X pre W, I X pre W → Cl pre W) (hI : ∀ X, OwnFrom w.heap.size (I X)) (hIS : ∀ X pre W1 W2, I X pre W1 → Fr So W1 W2 → I X pre W2) (hIx : ∀ c, OwnFrom w.heap.size (Ix c)) (h0 : ∀ X, w.heap.size ≤ X → I X [] w) (a₁ : α → Nat → Act) (Bx : α → Nat → World → Prop) (hBx : ∀ x q W1 l o, l < q → Bx x q W1 → Bx x q (W1.putObj l o))
    (hassign : ∀ (l : Nat) (x : α) (W : World) (K : Act → World → Prop), (∀ q W1, Fr Nil1 W W1 → W.heap.size ≤ q → q < W1.heap.size → Bx x q W1 → K (a₁ x q) W1) →
      assign.wpIn (Fence.wide.inRound l) (n - 1 - 1) P (Exit.then K (fun _ _ _ => False)) { tmps := (ps.zip (encs x)).foldl (fun t (p, v) => t.setIfInBounds p v) a.tmps, defers := [] } W)
    (hbody : ∀ (l X : Nat) (pre : List α) (x : α) (q : Nat) (W : World), w.heap.size ≤ X → X ≤ W.heap.size → X ≤ q → q < W.heap.size → Bx x q W → I X pre W → pre.length < N → body.wpIn (Fence.wide.inRound l) (n - 1 - 1) P (postX T w.heap.size X I Ix (pre ++ [x]) W) (a₁ x q) W)
    (hdone : ∀ (D X : Nat) (xs : List α) (W : World), w.heap.size ≤ D → S xs → I X xs W → W.heap[D]? = some (.deferred (some [])) → Q .normal { a with defers := { target := .collected D, args := #[] } :: a.defers } W)
    (hstop : ∀ (D : Nat) (c : Code) (pre : List α) (W : World), w.heap.size ≤ D → Sp pre → Ix c pre W → W.heap[D]? = some (.deferred (some [])) → c.wpIn Fence.wide n P Q { a with defers := { target := .collected D, args := #[] } :: a.defers } W) :
    (Code.rangeFunc g ps assign body).wpIn Fence.wide n P Q a w := by
  refine wpIn_rangeFunc (fun fn hfn => ?_)
  -- the loop's own two blocks: the rounds' deferred calls (D), the record (D + 1)
  obtain ⟨D, hD⟩ : ∃ D, w.heap.size = D := ⟨_, rfl⟩
  obtain ⟨rec, hrec⟩ : ∃ rec : LoopState → Option Code → Loop, rec = fun st pe => { state := st, pending := pe, fn, tmps := a.tmps, params := ps, assign, body, defers := D } := ⟨_, rfl⟩
  obtain ⟨V, hV⟩ : ∃ V, (w.alloc (.deferred (some []))).alloc (.loop (rec .ready none)) = V := ⟨_, rfl⟩
  have hVs : V.heap.size = D + 2 := by rw [← hV]; simp [hD]
  have hrecV : V.heap[D + 1]? = some (.loop (rec .ready none)) := by
    rw [← hV, ← hD]; have := World.alloc_heap_new (w.alloc (.deferred (some []))) (.loop (rec .ready none)); rwa [World.size_alloc] at this
  have hdefV : V.heap[D]? = some (.deferred (some [])) := by
    rw [← hV, ← hD]; exact (Below.heap_alloc _ _ _ (by simp)).trans (World.alloc_heap_new w _)
  have hIV : ∀ X, V.heap.size ≤ X → I X [] V := fun X hX => by rw [← hV]; exact (hI X).alloc _ ((hI X).alloc _ (h0 X (by omega)))
  have hbV : Below w.heap.size w V := by rw [← hV]; exact ((Below.refl _ w).alloc (Nat.le_refl _) _).alloc (by simp) _
  refine ⟨D + 1, [{ target := .collected D, args := #[] }], V, { target := .fn (.func gf) lb, args := #[.func (.yield (D + 1)) #[] #[]] }, V, gf, #[.func (.yield (D + 1)) #[] #[]] ++ lb, V, ?_, ?_, fun f' hf' => ?_, ?_, fun _ => h1, ?_⟩
  · rw [← hV, hrec, ← hD]; exact run_enterLoop_outer _ _ _ _ _
  · simp only [resolve, hg]; simp [go_sem]
  · trivial
  · simp [invoke, go_sem, eg]
  have stay : ∀ {A B : World} {row : Option Nat} {k : Nat} {o : Obj}, A.grownBy B row → (∀ r, row = some r → V.heap.size ≤ r ∧ ∃ o : Obj, A.heap[r]? = some o ∧ o.isCells = false) → k < V.heap.size → A.heap[k]? = some o → B.heap[k]? = some o :=
    fun hg' hr hk ho => (hg'.block _ (Array.getElem?_eq_some_iff.1 ho).1 (fun e => by have := (hr _ e.symm).1; omega)).trans ho
  have up : ∀ {A : World} {row : Option Nat}, (∀ r, row = some r → V.heap.size ≤ r ∧ ∃ o : Obj, A.heap[r]? = some o ∧ o.isCells = false) → (∀ r, row = some r → w.heap.size ≤ r ∧ ∃ o : Obj, A.heap[r]? = some o ∧ o.isCells = false) :=
    fun hr r e => ⟨by have := (hr r e).1; omega, (hr r e).2⟩
  refine (hseq (D + 1) (fun X pre W => I X pre W ∧ W.heap[D + 1]? = some (.loop (rec .ready none)) ∧ W.heap[D]? = some (.deferred (some [])))
    (fun pre W => ∃ c, Ix c pre W ∧ W.heap[D + 1]? = some (.loop (rec .done (some c))) ∧ W.heap[D]? = some (.deferred (some []))) V hbV hG (by omega) (fun X pre W1 h => hCl X pre W1 h.1)
    (fun X s A B row hs hg' hr => ⟨hI X s A B row hs.1 hg' (up hr), stay hg' hr (by omega) hs.2.1, stay hg' hr (by omega) hs.2.2⟩)
    (fun s A B row hs hg' hr => by
      obtain ⟨c, hc, hl, hk⟩ := hs
      exact ⟨c, hIx c s A B row hc hg' (up hr), stay hg' hr (by omega) hl, stay hg' hr (by omega) hk⟩)
    (fun X pre W1 W2 h hf => ⟨hIS X pre W1 W2 h.1 hf, (hf.block _ (Array.getElem?_eq_some_iff.1 h.2.1).1 (fun s => by have := hSo _ s; omega)).trans h.2.1, (hf.block _ (Array.getElem?_eq_some_iff.1 h.2.2).1 (fun s => by have := hSo _ s; omega)).trans h.2.2⟩)
    (fun X pre x W hX hXW hj hlen => ?_) (fun X hX => ⟨hIV X hX, hrecV, hdefV⟩)).mono ?_
  · -- one round
    obtain ⟨hi, hl, hk⟩ := hj
    have hlt : D + 1 < W.heap.size := (Array.getElem?_eq_some_iff.1 hl).1
    have hy := run_yield (P := P) (args := encs x) hl (by rw [hrec]; exact hps x)
    rw [hrec] at hy
    refine ⟨fn, _, assign, body, hy, roundIn_of_wpIn hfn (hassign _ x W _ (fun q Wa hfa hq1 hq2 hbx => ?_))⟩
    have hla : Wa.heap[D + 1]? = some (.loop (rec .ready none)) := (hfa.block _ hlt (fun s => s.elim)).trans hl
    have hka : Wa.heap[D]? = some (.deferred (some [])) := (hfa.block _ (Array.getElem?_eq_some_iff.1 hk).1 (fun s => s.elim)).trans hk
    have hlta : D + 1 < Wa.heap.size := (Array.getElem?_eq_some_iff.1 hla).1
    have hia : I X pre Wa := hI X pre W Wa none hi hfa.grownNil (fun r e => by cases e)
    refine ⟨_, run_beginRound hla (by rw [hrec]), ?_⟩
    obtain ⟨W2, hW2⟩ : ∃ W2, Wa.putObj (D + 1) (.loop { rec .ready none with state := .busy }) = W2 := ⟨_, rfl⟩
    have hl2 : W2.heap[D + 1]? = some (.loop { rec .ready none with state := .busy }) := by rw [← hW2]; exact World.putObj_heap_same hlta
    have hk2 : W2.heap[D]? = some (.deferred (some [])) := by rw [← hW2]; exact (World.putObj_heap_other (by omega)).trans hka
    have hi2 : I X pre W2 := by rw [← hW2]; exact (hI X).putObj _ hia (by omega) hla rfl
    have hTl : ¬ T (D + 1) := fun h => by have := hT _ h; omega
    have hkp2 : KeepX T V.heap.size X W W2 := by
      rw [← hW2]
      exact (KeepX.of_fr hfa (fun _ _ h => h) (fun _ h => h.elim) (fun _ _ h => h.elim)).trans (KeepX.put (by omega) _ _ _ (by omega) (by omega) hTl)
    have hbx2 : Bx x q W2 := by rw [← hW2]; exact hBx _ _ _ _ _ (by omega) hbx
    have hqs : q < W2.heap.size := by rw [← hW2]; simpa [World.putObj] using hq2
    show body.wpIn _ _ _ _ _ (Wa.putObj (D + 1) (.loop { rec .ready none with state := .busy }))
    rw [hW2]
    refine wpIn_mono (hbody _ X pre x q W2 (by omega) (Nat.le_trans hXW hkp2.size) (by omega) hqs hbx2 hi2 hlen) ?_
    have kf : ∀ (W3 : World) (o : Obj), KeepsFrom w.heap.size W2 W3 → KeepsFrom V.heap.size W (W3.putObj (D + 1) o) := fun W3 o h => ⟨by have := hkp2.size; have := h.size; simp [World.putObj]; omega, fun k o' hB ho hc => (World.putObj_heap_other (by omega)).trans (h.same k o' (by omega) (hkp2.other k o' hB ho hc) hc)⟩
    have fin : ∀ (jump : Option Code) (W3 : World), KeepsFrom w.heap.size W2 W3 →
        (Instr.endRound (D + 1) jump).run P W3 = .ok (.bool jump.isNone) (W3.putObj (D + 1) (.loop (rec (if jump.isNone then .ready else .done) jump))) ∧
        W3.heap[D + 1]? = some (.loop { rec .ready none with state := .busy }) ∧
        (W3.putObj (D + 1) (.loop (rec (if jump.isNone then .ready else .done) jump))).heap[D + 1]? = some (.loop (rec (if jump.isNone then .ready else .done) jump)) ∧
        (W3.putObj (D + 1) (.loop (rec (if jump.isNone then .ready else .done) jump))).heap[D]? = some (.deferred (some [])) := fun jump W3 hk3 => by
      have hl3 := hk3.same _ _ (by omega) hl2 rfl
      have := run_endRound (P := P) jump hl3
      rw [hrec] at this ⊢
      exact ⟨this, by rw [hrec] at hl3; exact hl3, World.putObj_heap_same (Array.getElem?_eq_some_iff.1 hl3).1, (World.putObj_heap_other (by omega)).trans (hk3.same _ _ (by omega) hk2 rfl)⟩
    rintro e a3 W3 hp
    cases e with
    | normal =>
      obtain ⟨hkx, hi3⟩ := hp
      obtain ⟨hr, hl3, hl4, hk4⟩ := fin none W3 hkx.from
      have hkx' : KeepX T V.heap.size X W2 W3 := ⟨hkx.size, fun k hk' hl' => hkx.low k (by rcases hk' with g' | g' | g'; exact .inl g'; exact .inr (.inl g'); exact .inr (.inr ⟨by omega, g'.2⟩)) hl', fun k o hB ho hc => hkx.other k o (by omega) ho hc⟩
      exact ⟨_, _, hr, .inl ⟨rfl, ⟨(hI X).putObj _ hi3 (by omega) hl3 rfl, hl4, hk4⟩, hkp2.trans (hkx'.trans (KeepX.put (by omega) _ _ _ (by omega) (by omega) hTl))⟩⟩
    | ret =>
      obtain ⟨hk3, hi3⟩ := hp
      obtain ⟨hr, hl3, hl4, hk4⟩ := fin (some .ret) W3 hk3
      exact ⟨_, _, hr, .inr ⟨rfl, ⟨.ret, (hIx _).putObj _ hi3 (by omega) hl3 rfl, hl4, hk4⟩, kf _ _ hk3⟩⟩
    | exit id =>
      obtain ⟨hk3, hi3⟩ := hp
      obtain ⟨hr, hl3, hl4, hk4⟩ := fin (some (.exit id)) W3 hk3
      exact ⟨_, _, hr, .inr ⟨rfl, ⟨.exit id, (hIx _).putObj _ hi3 (by omega) hl3 rfl, hl4, hk4⟩, kf _ _ hk3⟩⟩
    | goto t =>
      obtain ⟨hk3, hi3⟩ := hp
      obtain ⟨hr, hl3, hl4, hk4⟩ := fin (some (.goto t)) W3 hk3
      exact ⟨_, _, hr, .inr ⟨rfl, ⟨.goto t, (hIx _).putObj _ hi3 (by omega) hl3 rfl, hl4, hk4⟩, kf _ _ hk3⟩⟩
    | panic ch => exact hp.elim
    | outgrown => exact hp.elim
  · -- behind the iterator
    rintro e W2 ⟨⟨v, rfl⟩, (⟨xs, X, hS, hi, hl, hk⟩ | ⟨pre, hSp, c, hi, hl, hk⟩)⟩
    · exact ⟨none, _, by have := run_endLoop (P := P) hl (by rw [hrec]; simp); rw [hrec] at this; exact this, hdone _ X xs _ (by omega) hS ((hI X).putObj _ hi (by omega) hl rfl) ((World.putObj_heap_other (by omega)).trans hk)⟩
    · exact ⟨some c, _, by have := run_endLoop (P := P) hl (by rw [hrec]; simp); rw [hrec] at this; exact this, hstop _ c pre _ (by omega) hSp ((hIx c).putObj _ hi (by omega) hl rfl) ((World.putObj_heap_other (by omega)).trans hk)⟩
end Go.Proofs.YtechphliifginaaGreatDoor
