/- Rows of polynomials that grow, matrices of such rows that grow: blocks are told apart by their types. -/
import Derived.Test.YtckopilciekfbaaQColorCounts20
import Derived.Test.YtckopilciekfbaaQColorCounts21
import Derived.Test.YtckopilciekfbaaQColorCounts22
import Derived.Test.YtckopilciekfbaaQColorCounts23
import Derived.Test.YtckopilciekfbaaQColorCounts24
import Derived.Test.YtckopilciekfbaaQColorCounts25
import Derived.Test.YtckopilciekfbaaQColorCounts26
import Derived.Test.YtckopilciekfbaaQColorCounts27
import Derived.Test.YtckopilciekfbaaQColorCounts28
import Derived.Test.YtckopilciekfbaaQColorCounts210
import Derived.Test.YtckopilciekfbaaQColorCounts211
import Derived.Test.YtckopilciekfbaaQColorCounts212
import Derived.Test.YtckopilciekfbaaQColorCounts213
import Derived.Test.YtckopilciekfbaaQColorCounts214
import Derived.Test.YtckopilciekfbaaQColorCounts219
import Derived.Test.YtckopilciekfbaaQColorCounts224
import Derived.Test.YtckopilciekfbaaQColorCounts226
import Derived.Test.YtckopilciekfbaaQColorCounts227
import Derived.Test.YtckopilciekfbaaQColorCounts228
import Derived.Test.YtckopilciekfbaaQColorCounts229
import Derived.Test.YtckopilciekfbaaQColorCounts230
import Derived.Test.YtckopilciekfbaaQColorCounts231
import Derived.Test.YtckopilciekfbaaQColorCounts233
import Derived.RangeFuncNested
import Derived.RangeFuncBound
import Derived.RangeFuncCalls
import Derived.RangeFuncLeaves
import Derived.RangeFuncBox
import Derived.Shelf.Abstract
import Derived.Shelf.RegionOpen
import Derived.OwnWalkIn
import Derived.TacticsInMore
import Derived.LoopNIn
import Derived.LoopIn
import Derived.Maps.AppendAt
import Derived.Deep.CutRange
namespace Go.Proofs.Ytckopilciekfbaa
open Go.RowKit Go.Sl

/-- An own slice of ints lies in another block than an own slice of another type. -/
theorem apart_GI {W : World} {B B' s : Nat} {e : TypeId} (hne : e ≠ 3) {u x : Value} {cs : List Value} {xs : List Int} (h : OwnGI W B x xs) (k : Go.Sl.Own W B' e s u cs) : ∀ b, Go.Sl.row x = some b → Go.Sl.row u ≠ some b := by
  intro b hb hb'
  obtain ⟨h0, rfl⟩ := row_eq hb
  obtain ⟨k0, e1⟩ := row_eq hb'
  obtain ⟨_, c1, x1, _⟩ := h.2.2 h0
  obtain ⟨_, _, c2, x2, _⟩ := k.2.2 k0
  rw [e1, x1] at x2
  injection x2 with x2
  injection x2 with _ x3
  exact hne x3.symm

/-- A row of polynomials in a block of the call's own; the coefficients lie in blocks of ints of the call's own. -/
structure TRow (W : World) (B : Nat) (v : Value) (us : List Value) (ps : List LP) : Prop where
  own : Go.Sl.Own W B 35 2 v (pcs us ps)
  len : us.length = ps.length
  each : ∀ j, j < ps.length → OwnGI W B (nthv us j) (nthp ps j).c
section
variable {W W' : World} {B : Nat} {v : Value} {us : List Value} {ps : List LP}
theorem TRow.read (h : TRow W B v us ps) : PRead W v us ps := ⟨h.own.sl, h.len, fun j hj => (h.each j hj).ints⟩
theorem TRow.isSl (h : TRow W B v us ps) : IsSl v := h.own.1
theorem TRow.below (h : TRow W B v us ps) (hb : Below W.heap.size W W') : TRow W' B v us ps := ⟨h.own.below hb, h.len, fun j hj => (h.each j hj).below hb⟩
theorem TRow.low (h : TRow W B v us ps) {B' : Nat} (hB : B' ≤ B) : TRow W B' v us ps := ⟨h.own.low hB, h.len, fun j hj => (h.each j hj).low hB⟩
theorem nthv_snoc (us : List Value) (c : Value) (j : Nat) : nthv (us ++ [c]) j = if j = us.length then c else nthv us j := by
  unfold nthv
  by_cases e : j = us.length
  · subst e; simp
  · rw [if_neg e, List.getD_eq_getElem?_getD, List.getD_eq_getElem?_getD]
    rcases Nat.lt_or_ge j us.length with h | h
    · rw [List.getElem?_append_left h]
    · rw [List.getElem?_append_right h, List.getElem?_eq_none (by simp; omega), List.getElem?_eq_none h]
theorem nthp_snoc (ps : List LP) (q : LP) (j : Nat) : nthp (ps ++ [q]) j = if j = ps.length then q else nthp ps j := by
  unfold nthp
  by_cases e : j = ps.length
  · subst e; simp
  · rw [if_neg e, List.getD_eq_getElem?_getD, List.getD_eq_getElem?_getD]
    rcases Nat.lt_or_ge j ps.length with h | h
    · rw [List.getElem?_append_left h]
    · rw [List.getElem?_append_right h, List.getElem?_eq_none (by simp; omega), List.getElem?_eq_none h]
theorem nthm_snoc (m : List (List LP)) (r : List LP) (j : Nat) : nthm (m ++ [r]) j = if j = m.length then r else nthm m j := by
  unfold nthm
  by_cases e : j = m.length
  · subst e; simp
  · rw [if_neg e, List.getD_eq_getElem?_getD, List.getD_eq_getElem?_getD]
    rcases Nat.lt_or_ge j m.length with h | h
    · rw [List.getElem?_append_left h]
    · rw [List.getElem?_append_right h, List.getElem?_eq_none (by simp; omega), List.getElem?_eq_none h]
/-- A slice of rows grows. -/
theorem TRow.grownR (h : TRow W B v us ps) {B' : Nat} {u : Value} {cs : List Value} (hu : Go.Sl.Own W B' 75 1 u cs) (hg : W.grownBy W' (Go.Sl.row u)) : TRow W' B v us ps :=
  ⟨h.own.grown hg (own_types (Ne.symm rows_ne_poly) h.own hu), h.len, fun j hj => (h.each j hj).grown hg (apart_GI rows_ne_int (h.each j hj) hu)⟩
theorem TRow.push (h : TRow W B v us ps) {c v' : Value} {q : LP} (hc : OwnGI W B c q.c) (ho : Go.Sl.Own W' B 35 2 v' (pcs us ps ++ [.int .i64 q.low, c])) (hg : W.grownBy W' (Go.Sl.row v)) : TRow W' B v' (us ++ [c]) (ps ++ [q]) := by
  refine ⟨by rw [← pcs_append us ps h.len]; exact ho, by simp [h.len], fun j hj => ?_⟩
  rw [nthv_snoc, nthp_snoc, h.len]
  by_cases e : j = ps.length
  · rw [if_pos e, if_pos e]; exact hc.grown hg (apart_GI poly_ne_int hc h.own)
  · rw [if_neg e, if_neg e]
    have hj' : j < ps.length := by simp at hj; omega
    exact (h.each j hj').grown hg (apart_GI poly_ne_int (h.each j hj') h.own)
theorem TRow.setOther (h : TRow W B v us ps) {p : Addr} (hp : p.block < B) (u : Value) : TRow (W.setCell p u) B v us ps :=
  ⟨h.own.setOther (fun k hk e => by have := (h.own.lt k hk).1; omega) u, h.len, fun j hj => (h.each j hj).setOther (fun k hk e => by have := ((h.each j hj).lt k hk).1; omega) u⟩
end

/-- A matrix that grows by rows. -/
structure TMat (W : World) (B : Nat) (v : Value) (vs : List Value) (m : List (List LP)) : Prop where
  own : Go.Sl.Own W B 75 1 v vs
  len : vs.length = m.length
  row : ∀ i, i < m.length → ∃ us, TRow W B (nthv vs i) us (nthm m i)
section
variable {W W' : World} {B : Nat} {v : Value} {vs : List Value} {m : List (List LP)}
theorem TMat.isSl (h : TMat W B v vs m) : IsSl v := h.own.1
theorem TMat.read (h : TMat W B v vs m) : MRead W v vs m := ⟨h.own.sl, h.len, fun i hi => let ⟨us, k⟩ := h.row i hi; ⟨us, k.read⟩⟩
theorem TMat.below (h : TMat W B v vs m) (hb : Below W.heap.size W W') : TMat W' B v vs m := ⟨h.own.below hb, h.len, fun i hi => let ⟨us, k⟩ := h.row i hi; ⟨us, k.below hb⟩⟩
theorem TMat.setOther (h : TMat W B v vs m) {p : Addr} (hp : p.block < B) (u : Value) : TMat (W.setCell p u) B v vs m :=
  ⟨h.own.setOther (fun k hk e => by have := (h.own.lt k hk).1; omega) u, h.len, fun i hi => let ⟨us, k⟩ := h.row i hi; ⟨us, k.setOther hp u⟩⟩
/-- Only one old block changes, one that is not the matrix's. -/
theorem TMat.but (h : TMat W B v vs m) {D : Nat} (hD : D < B) (hg : W.grownBy W' (some D)) : TMat W' B v vs m := by
  refine ⟨h.own.grown hg fun k hk e => by have := (h.own.lt k hk).1; injection e; omega, h.len, fun i hi => ?_⟩
  obtain ⟨us, k⟩ := h.row i hi
  exact ⟨us, k.own.grown hg fun b hb e => by have := (k.own.lt b hb).1; injection e; omega, k.len, fun j hj => (k.each j hj).grown hg fun b hb e => by have := ((k.each j hj).lt b hb).1; injection e; omega⟩
/-- Another slice of rows grows. -/
theorem TMat.grownR (h : TMat W B v vs m) {B' : Nat} {u : Value} {cs : List Value} (hu : Go.Sl.Own W B' 75 1 u cs) (ha : ∀ k, Go.Sl.row v = some k → Go.Sl.row u ≠ some k) (hg : W.grownBy W' (Go.Sl.row u)) : TMat W' B v vs m :=
  ⟨h.own.grown hg ha, h.len, fun i hi => let ⟨us, k⟩ := h.row i hi; ⟨us, k.grownR hu hg⟩⟩
theorem TMat.push (h : TMat W B v vs m) {r v' : Value} {us : List Value} {ps : List LP} (hr : TRow W B r us ps) (ho : Go.Sl.Own W' B 75 1 v' (vs ++ [r])) (hg : W.grownBy W' (Go.Sl.row v)) : TMat W' B v' (vs ++ [r]) (m ++ [ps]) := by
  refine ⟨ho, by simp [h.len], fun i hi => ?_⟩
  rw [nthv_snoc, nthm_snoc, h.len]
  by_cases e : i = m.length
  · rw [if_pos e, if_pos e]; exact ⟨us, hr.grownR h.own hg⟩
  · rw [if_neg e, if_neg e]
    have hi' : i < m.length := by simp at hi; omega
    obtain ⟨us', k⟩ := h.row i hi'
    exact ⟨us', k.grownR h.own hg⟩
end

section
variable {w w1 w2 : World} {D S : Nat}
theorem Keep.below (h : w.grownBy w1 (some D)) (hb : Below w.heap.size w1 w2) : w.grownBy w2 (some D) :=
  ⟨hb.os.trans h.os, hb.tape.trans h.tape, hb.output.trans h.output, Nat.le_trans h.size hb.size, fun k hk hr => (hb.block k hk).trans (h.block k hk hr)⟩
theorem Keep.grown (h : w.grownBy w1 (some D)) {r : Option Nat} (hg : w1.grownBy w2 r) (hr : ∀ k, r = some k → w.heap.size ≤ k) : w.grownBy w2 (some D) :=
  ⟨hg.os.trans h.os, hg.tape.trans h.tape, hg.output.trans h.output, Nat.le_trans h.size hg.size, fun k hk hr2 => (hg.block k (Nat.lt_of_lt_of_le hk h.size) fun e => by have := hr k e.symm; omega).trans (h.block k hk hr2)⟩
theorem Keep.set (h : w.grownBy w1 (some D)) (u : Value) (o : Nat) : w.grownBy (w1.setCell ⟨D, o, none⟩ u) (some D) :=
  ⟨h.os, h.tape, h.output, by simpa using h.size, fun k hk hr => (Below.heap_setCell _ _ _ k (fun e => hr (by rw [e]))).trans (h.block k hk hr)⟩
end

end Go.Proofs.Ytckopilciekfbaa

