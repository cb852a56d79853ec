/- A list that a law keeps in a slice: appends of slices; what PmaList's row, clone and lists are. -/
import Derived.Test.YtanefeeneladnaaDoorGR
import Derived.Laws.AppendOwnNone
set_option linter.unusedVariables false
set_option linter.unusedSimpArgs false
namespace Go.Proofs.YtanefeeneladnaaDoor
open Go.RowKit

set_option maxRecDepth 100000 in
/-- 'append(v, u...)', v a row of the call's own, u any slice of numbers. -/
theorem append_rd {ops : Array Oper} {rest : List Oper} {o : Oper} {a : Act} {Q : Exit → Act → World → Prop} {w : World} (hgd : o.guard = none) (s x : Operand)
    (ho : o.op = .call { callee := .builtin .append, args := #[s, x], argTypes := #[24, 24] }) {base : Nat} {v u : Value} {xs ys : List Int} (hs : a.eval s = v) (hv : RowI w base v xs) (hx : a.eval x = u) (hu : Rd w u (ints' ys))
    (hn : xs.length + ys.length ≤ 100000) (hb : base ≤ w.heap.size)
    (h : ∀ v' w', RowI w' base v' (xs ++ ys) → w.grownBy w' v.ownBlock → (v' = .slice none 0 0 ↔ v = .slice none 0 0 ∧ ys.length = 0) → wpList Tryd.prog ops Q rest (a.put o.dst v') w') : wpList Tryd.prog ops Q (o :: rest) a w := by
  obtain ⟨i0, hi, hz0, hz1, hz2⟩ := info_parts info_int
  obtain ⟨A, c, rfl, _, hA⟩ := hu
  rw [ints'_length] at hA hx
  cases A with
  | some ad =>
    have hc : ∀ j u, (ints' ys)[j]? = some u → w.cell? (ad.add j) = some u := fun j u hj => by
      have hl : 0 < ys.length := by
        have := (List.getElem?_eq_some_iff.1 hj).1
        rw [ints'_length] at this
        omega
      obtain ⟨ad', e, hc⟩ := hA hl
      injection e with e
      subst e
      exact hc j u hj
    refine wpList_append_own w hgd s x 24 ho base 3 i0 (.int .i64 0) 1 8 Tryd.underlying24 hi hz0 hz1 hz2 rfl (by decide) v xs.length (xs.map (Value.int .i64)) hs hv ad ys.length c (ints' ys) hx (by rw [ints'_length]; omega) hc (by intro u hu; obtain ⟨n, _, rfl⟩ := List.mem_map.1 hu; rfl) (by unfold maxLen; omega) (by omega) hb ?_
    intro v' w' hown hg hnil
    refine h v' w' ?_ hg hnil
    unfold RowI
    rw [List.length_append, List.map_append]
    exact hown
  | none =>
    have hl : ys.length = 0 := by
      rcases Nat.eq_zero_or_pos ys.length with e | e
      · exact e
      · obtain ⟨ad', e', _⟩ := hA e
        cases e'
    obtain rfl : ys = [] := List.eq_nil_of_length_eq_zero hl
    have hrun : (Builtin.append_ #[24, 24] o.type #[v, .slice none 0 c]).run Tryd.prog w = .ok v w := by
      rcases hv.2 with ⟨rfl, _⟩ | ⟨g, cap, cur, rfl, _, _, hnc, _⟩
      · simp [Builtin.append_, run_underlying Tryd.underlying24, sizeOf, typeInfo, hi, Builtin.lenOf, Builtin.firstCells]
      · simp [Builtin.append_, run_underlying Tryd.underlying24, sizeOf, typeInfo, hi, Builtin.lenOf, Builtin.firstCells, hnc, storeCells]
    refine wpList_plain hgd fun K hK => ?_
    have hh := h v w (by rw [List.append_nil]; exact hv) (World.grownBy.refl w _) (by simp)
    unfold Oper.wp
    simp only [List.length_nil] at hx
    simp [execOp, ho, resolve, invoke, builtin, hs, hx, hrun, Result.andThen]
    exact hK _ _ hh
theorem rd_take {w : World} {A : Option Addr} {n c : Nat} {xs : List Int} (h : Rd w (.slice A n c) (ints' xs)) (k : Nat) (hk : k ≤ xs.length) : Rd w (.slice A k c) (ints' (xs.take k)) := by
  obtain ⟨A', c', e, hb, hA⟩ := h
  injection e with e1 e2 e3
  subst e1 e3
  refine ⟨A, c, by rw [ints'_length, List.length_take, Nat.min_eq_left hk], by rw [ints'_length, List.length_take] at *; omega, fun hp => ?_⟩
  rw [ints'_length, List.length_take] at hp
  obtain ⟨ad, rfl, hc⟩ := hA (by rw [ints'_length]; omega)
  refine ⟨ad, rfl, fun j u hj => hc j u ?_⟩
  unfold ints' at hj ⊢
  rw [List.map_take] at hj
  obtain ⟨h1, h2⟩ := List.getElem?_eq_some_iff.1 hj
  rw [List.getElem_take] at h2
  rw [List.length_take] at h1
  exact List.getElem?_eq_some_iff.2 ⟨by omega, h2⟩
theorem rd_drop {w : World} {g n c : Nat} {xs : List Int} (h : Rd w (.slice (some ⟨g, 0, none⟩) n c) (ints' xs)) (k : Nat) (hk : k ≤ xs.length) (hn : n = xs.length) (B : Option Addr) (hB : k < xs.length → B = some ⟨g, k, none⟩) (c' : Nat) : Rd w (.slice B (n - k) c') (ints' (xs.drop k)) := by
  obtain ⟨A', c0, e, hb, hA⟩ := h
  injection e with e1 e2 e3
  subst e1 e3
  subst hn
  refine ⟨B, c', by rw [ints'_length, List.length_drop], by rw [ints'_length, List.length_drop]; rw [ints'_length] at hb; omega, fun hp => ?_⟩
  rw [ints'_length, List.length_drop] at hp
  obtain ⟨ad, e, hc⟩ := hA (by rw [ints'_length]; omega)
  injection e with e
  subst e
  refine ⟨_, hB (by omega), fun j u hj => ?_⟩
  rw [add_flat]
  have := hc (k + j) u (by
    unfold ints' at hj ⊢
    rw [List.map_drop, List.getElem?_drop] at hj
    exact hj)
  rwa [add_flat, Nat.zero_add] at this
theorem RowI.shape {w : World} {base : Nat} {v : Value} {xs : List Int} (h : RowI w base v xs) (hne : 0 < xs.length) : ∃ g cap, v = .slice (some ⟨g, 0, none⟩) xs.length cap ∧ xs.length ≤ cap ∧ ∀ j, j < xs.length → w.cell? ⟨g, j, none⟩ = some (.int .i64 (xs.getD j 0)) := by
  rcases h.2 with ⟨_, e⟩ | ⟨g, cap, cur, e, _, hg, hc, _, hs, ht⟩
  · omega
  · refine ⟨g, cap, e, hc, fun j hj => ?_⟩
    subst e
    have h1 := h.cells (g := g) rfl
    have h2 := h1 j _ (ints'_get xs j hj)
    rwa [add_flat, Nat.zero_add] at h2
theorem own_lt {w : World} {base : Nat} {v : Value} {xs : List Int} (h : RowI w base v xs) : ∀ g, v.ownBlock = some g → base ≤ g ∧ g < w.heap.size := fun g hg => by
  have := h.own_lt g hg
  exact ⟨this.2, this.1⟩
/-- A slot's number is said by how many stand ahead. -/
theorem cnt_inj {σ : List (Option Int)} {p q : Nat} (hp : onOf σ p = true) (hq : onOf σ q = true) (h : cntOn (onOf σ) p = cntOn (onOf σ) q) : p = q := by
  rcases Nat.lt_trichotomy p q with g | g | g
  · have a := cntOn_on (onOf σ) p hp
    have b := cntOn_le_of (onOf σ) (show p + 1 ≤ q by omega)
    omega
  · exact g
  · have a := cntOn_on (onOf σ) q hq
    have b := cntOn_le_of (onOf σ) (show q + 1 ≤ p by omega)
    omega
theorem RowG.nthQ {w0 wr : World} {p : Nat} {tv : Value} {B : Nat → Prop} {J : List Ev → World → Prop} {F : PF} {σ : List (Option Int)} {h : Nat} {evs : List Ev} (H : RowG w0 p tv B J F σ h evs wr) {q N : Nat} (hq : onOf σ q = true) (hN : cntOn (onOf σ) q = N) : Calls Tryd.prog 17 #[.pointer (some ⟨p, 0, none⟩), .int .i64 N] wr fun e w' => e = .returned (.int .i64 q) ∧ wr = w' := by
  have hl : N < (its σ).length := by
    obtain ⟨x, hx⟩ := onOf_true hq
    have := (List.getElem?_eq_some_iff.1 (its_get σ q x hx)).1
    omega
  refine (H.nth N hl).mono ?_
  rintro e w' ⟨r, rfl, rfl, h1, h2⟩
  exact ⟨by rw [cnt_inj h1 hq (h2.trans hN.symm)], rfl⟩
theorem RowG.atQ {w0 wr : World} {p : Nat} {tv : Value} {B : Nat → Prop} {J : List Ev → World → Prop} {F : PF} {σ : List (Option Int)} {h : Nat} {evs : List Ev} (H : RowG w0 p tv B J F σ h evs wr) {q : Nat} {x : Int} (hq : σ.getD q none = some x) : Calls Tryd.prog 15 #[.pointer (some ⟨p, 0, none⟩), .int .i64 q] wr fun e w' => e = .returned (.tuple #[.int .i64 x, .bool true]) ∧ wr = w' := by
  have := H.at q
  rw [atB_nat, onOf_some hq] at this
  unfold atV at this
  rwa [if_pos (by omega), Int.toNat_natCast, hq] at this

/-- The row, its list, its half's clone and that one's list. -/
structure LiW (w0 : World) (p : Nat) (F : PF) (σ : List (Option Int)) (h : Nat) (evs : List Ev) (Fh : PF) (σh : List (Option Int)) (hh : Nat) (v4 v6 : Value) (wr : World) : Prop where
  r : RowN w0 p F σ h evs wr
  c : PmaR wr Fh σh hh Value.nilFunc
  l : RowI wr w0.heap.size v4 (its σ)
  t : RowI wr w0.heap.size v6 (its σh)
  d1 : ∀ k, Fh.mem k → ¬ F.mem k
  d4 : ∀ g, v4.ownBlock = some g → ¬ F.mem g
  d6 : ∀ g, v6.ownBlock = some g → ¬ F.mem g
  cm : ∀ k, Fh.mem k → w0.heap.size ≤ k
  n4 : its σ = [] → v4 = .slice none 0 0
  dh : Dn σh hh
theorem RowN.new' {w0 wr w' : World} {p : Nat} {F : PF} {σ : List (Option Int)} {h : Nat} {evs : List Ev} (H : RowN w0 p F σ h evs wr) (hf : Fr Nil1 wr w') : RowN w0 p F σ h evs w' := RowG.new H hearN hf
theorem LiW.new {w0 : World} {p : Nat} {F : PF} {σ : List (Option Int)} {h : Nat} {evs : List Ev} {Fh : PF} {σh : List (Option Int)} {hh : Nat} {v4 v6 : Value} {wr w' : World} (H : LiW w0 p F σ h evs Fh σh hh v4 v6 wr) (hf : Fr Nil1 wr w') : LiW w0 p F σ h evs Fh σh hh v4 v6 w' :=
  ⟨H.r.new' hf, H.c.new hf, H.l.new hf, H.t.new hf, H.d1, H.d4, H.d6, H.cm, H.n4, H.dh⟩
/-- Behind an act: the list is the old one yet. -/
structure LiA (w0 : World) (p : Nat) (F' : PF) (σ' : List (Option Int)) (h' : Nat) (evs' : List Ev) (Fh : PF) (σh : List (Option Int)) (hh : Nat) (v4 v6 : Value) (xs : List Int) (wr : World) : Prop where
  r : RowN w0 p F' σ' h' evs' wr
  c : PmaR wr Fh σh hh Value.nilFunc
  l : RowI wr w0.heap.size v4 xs
  t : RowI wr w0.heap.size v6 (its σh)
  d1 : ∀ k, Fh.mem k → ¬ F'.mem k
  d6 : ∀ g, v6.ownBlock = some g → ¬ F'.mem g
  cm : ∀ k, Fh.mem k → w0.heap.size ≤ k
  dh : Dn σh hh
theorem LiW.act {w0 : World} {p : Nat} {F : PF} {σ : List (Option Int)} {h : Nat} {evs : List Ev} {Fh : PF} {σh : List (Option Int)} {hh : Nat} {v4 v6 : Value} {wr w' : World} (H : LiW w0 p F σ h evs Fh σh hh v4 v6 wr) {F' : PF} {σ' : List (Option Int)} {h' : Nat} {evs' : List Ev} (hR : RowN w0 p F' σ' h' evs' w')
    (hm : ∀ k, F'.mem k → F.mem k ∨ wr.heap.size ≤ k) (hf : Fr (fun k => F.mem k ∨ Bn k) wr w') : LiA w0 p F' σ' h' evs' Fh σh hh v4 v6 (its σ) w' := by
  have hS : ∀ k, ¬ F.mem k → ¬ (F.mem k ∨ Bn k) := fun k hk h => h.elim hk (fun h => h)
  refine ⟨hR, H.c.fr hf (fun k hk => hS k (H.d1 k hk)), H.l.frO hf (fun g hg => hS g (H.d4 g hg)), H.t.frO hf (fun g hg => hS g (H.d6 g hg)), fun k hk hF => ?_, fun g hg hF => ?_, H.cm, H.dh⟩
  · rcases hm k hF with e | e
    · exact H.d1 k hk e
    · have := H.c.lt k hk; omega
  · rcases hm g hF with e | e
    · exact H.d6 g hg e
    · have := (own_lt H.t g hg).2; omega
/-- The new list, of one's own. -/
theorem LiA.done {w0 : World} {p : Nat} {F' : PF} {σ' : List (Option Int)} {h' : Nat} {evs' : List Ev} {Fh : PF} {σh : List (Option Int)} {hh : Nat} {v4 v6 v4' : Value} {xs : List Int} {wr w' : World} (H : LiA w0 p F' σ' h' evs' Fh σh hh v4 v6 xs wr) (hf : Fr Nil1 wr w') (hl : RowI w' wr.heap.size v4' (its σ')) (hn : its σ' = [] → v4' = .slice none 0 0) :
    LiW w0 p F' σ' h' evs' Fh σh hh v4' v6 w' :=
  ⟨H.r.new' hf, H.c.new hf, hl.mono H.r.fr.size, H.t.new hf, H.d1, (fun g hg hF => by have := (own_lt hl g hg).1; have := H.r.r.lt g hF; omega), H.d6, H.cm, hn, H.dh⟩
end Go.Proofs.YtanefeeneladnaaDoor
