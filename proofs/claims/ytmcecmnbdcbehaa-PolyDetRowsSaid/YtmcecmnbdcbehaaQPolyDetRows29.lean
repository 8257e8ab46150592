/- Rows of polynomials that grow, matrices of such rows that grow: blocks are told apart by their types. -/
import Derived.Test.YtmcecmnbdcbehaaQPolyDetRows0
import Derived.Test.YtmcecmnbdcbehaaQPolyDetRows1
import Derived.Test.YtmcecmnbdcbehaaQPolyDetRows2
import Derived.Test.YtmcecmnbdcbehaaQPolyDetRows3
import Derived.Test.YtmcecmnbdcbehaaQPolyDetRows4
import Derived.Test.YtmcecmnbdcbehaaQPolyDetRows5
import Derived.Test.YtmcecmnbdcbehaaQPolyDetRows6
import Derived.Test.YtmcecmnbdcbehaaQPolyDetRows7
import Derived.Test.YtmcecmnbdcbehaaQPolyDetRows8
import Derived.Test.YtmcecmnbdcbehaaQPolyDetRows9
import Derived.Test.YtmcecmnbdcbehaaQPolyDetRows10
import Derived.Test.YtmcecmnbdcbehaaQPolyDetRows11
import Derived.Test.YtmcecmnbdcbehaaQPolyDetRows12
import Derived.Test.YtmcecmnbdcbehaaQPolyDetRows13
import Derived.Test.YtmcecmnbdcbehaaQPolyDetRows14
import Derived.Test.YtmcecmnbdcbehaaQPolyDetRows15
import Derived.Test.YtmcecmnbdcbehaaQPolyDetRows16
import Derived.Test.YtmcecmnbdcbehaaQPolyDetRows17
import Derived.Test.YtmcecmnbdcbehaaQPolyDetRows18
import Derived.Test.YtmcecmnbdcbehaaQPolyDetRows19
import Derived.Test.YtmcecmnbdcbehaaQPolyDetRows20
import Derived.Test.YtmcecmnbdcbehaaQPolyDetRows21
import Derived.Test.YtmcecmnbdcbehaaQPolyDetRows22
import Derived.Test.YtmcecmnbdcbehaaQPolyDetRows23
import Derived.Test.YtmcecmnbdcbehaaQPolyDetRows24
import Derived.Test.YtmcecmnbdcbehaaQPolyDetRows25
import Derived.Test.YtmcecmnbdcbehaaQPolyDetRows26
import Derived.Test.YtmcecmnbdcbehaaQPolyDetRows27
import Derived.Deep.RegionLaw
import Derived.RangeFuncNested
import Derived.RangeFuncBound
import Derived.RangeFuncCalls
import Derived.RangeFuncLeaves
import Derived.RangeFuncBox
import Derived.Shelf.Abstract
import Derived.Shelf.RegionOpen
import Derived.OwnWalkIn
import Derived.TacticsInMore
import Derived.LoopNIn
import Derived.LoopIn
import Derived.Maps.AppendAt
namespace Go.Proofs.Ytmcecmnbdcbehaa
open Go.RowKit Go.Sl

/-- '[]api.Poly{p}'. -/
theorem wpList_poly1 {w : World} {ops : Array Oper} {rest : List Oper} {o : Oper} {a : Act} {Q : Exit → Act → World → Prop} (hgd : o.guard = none) (x : Operand) (ho : o.op = Op.buildSlice 28 1 #[(0, x)])
    {l : Int} {c : Value} (hx : a.eval x = .agg #[.int .i64 l, c]) (hc : IsSl c)
    (h : wpList Try.prog ops Q rest (a.put o.dst (.slice (some ⟨w.heap.size, 0, none⟩) 1 1)) (w.alloc (.cells #[.int .i64 l, c] 27))) : wpList Try.prog ops Q (o :: rest) a w := by
  obtain ⟨i, z, hi, hz, hs, hb, hzc⟩ := poly_info
  have hcc : (Value.agg #[.int .i64 l, c]).cells = #[.int .i64 l, c] := by
    have := cells_of_sl hc
    simp [Value.cells, this]
  have hr : (Instr.buildSlice 28 1 #[(0, .agg #[.int .i64 l, c])]).run Try.prog w = .ok (.slice (some ⟨w.heap.size, 0, none⟩) 1 1) (w.alloc (.cells #[.int .i64 l, c] 27)) := by
    simp [Instr.buildSlice, run_underlying Try.underlying28, sizeOf, typeInfo, hi, hs, zeroValue, hz, hzc, newRow, Instr.fill, hcc, show Array.range 1 = #[0] from by decide, show Array.range 2 = #[0, 1] from by decide]
  refine wpList_plain hgd fun K hK => ?_
  unfold Oper.wp execOp
  simp only [ho, Sem.run_bind, List.map_toArray, List.map_cons, List.map_nil, hx, hr, Result.andThen_ok]
  exact hK _ _ h
theorem sl_poly1 (w : World) (l : Int) (c : Value) (e : TypeId) : Sl (w.alloc (.cells #[.int .i64 l, c] e)) (.slice (some ⟨w.heap.size, 0, none⟩) 1 1) 2 [.int .i64 l, c] := by
  refine ⟨isSl_mk _ _ _ _ (Nat.le_refl _) (by unfold maxLen; omega), by simp, fun j x hx => ?_⟩
  match j, hx with
  | 0, hx =>
    simp at hx; subst hx
    exact cell_of_row (w.alloc (.cells #[.int .i64 l, c] e)) w.heap.size 0 #[.int .i64 l, c] e (0, 0) (heap_alloc_new w (.cells #[.int .i64 l, c] e))
  | 1, hx =>
    simp at hx; subst hx
    exact cell_of_row (w.alloc (.cells #[.int .i64 l, c] e)) w.heap.size 1 #[.int .i64 l, c] e (0, 0) (heap_alloc_new w (.cells #[.int .i64 l, c] e))
  | j + 2, hx => simp at hx
/-- append of one polynomial. -/
theorem wpList_pushP {w : World} {ops : Array Oper} {rest : List Oper} {o : Oper} {a : Act} {Q : Exit → Act → World → Prop} (hgd : o.guard = none) (s x : Operand)
    (ho : o.op = .call { callee := .builtin .append, args := #[s, x], argTypes := #[28, 28] })
    {B : Nat} {v c : Value} {l : Int} {cs : List Value} (hs : a.eval s = v) (hx : a.eval x = .slice (some ⟨w.heap.size, 0, none⟩) 1 1) (hown : Go.Sl.Own w B 27 2 v cs) (hc : IsSl c) (hB : B ≤ w.heap.size) (hlen : cs.length ≤ 1000000)
    (h : ∀ v' w', Go.Sl.Own w' B 27 2 v' (cs ++ [.int .i64 l, c]) → w.grownBy w' (row v) → (∀ k, row v' = some k → row v = some k ∨ w.heap.size ≤ k) → wpList Try.prog ops Q rest (a.put o.dst v') w') :
    wpList Try.prog ops Q (o :: rest) a (w.alloc (.cells #[.int .i64 l, c] 27)) := by
  obtain ⟨i, z, hi, hz, hs2, hb, hzc⟩ := poly_info
  have hl := hown.2.1
  refine wpList_append_sl hgd s x _ ho B 27 i z 2 32 Try.underlying28 hi hz hs2 hb (by rw [hzc]; rfl) (by decide) hs hx (hown.alloc _) (sl_poly1 w l c 27)
    (by intro u hu; simp at hu; rcases hu with rfl | rfl; rfl; exact oneCell'_sl hc) (by simp only [vlen_mk, maxLen]; omega) (by simp only [vlen_mk]; omega) (by simp; omega) ?_
  intro v' w' h1 h2 h3
  refine h v' w' h1 ?_ ?_
  · exact ⟨h2.os, h2.tape, h2.output, by have := h2.size; simp at this; omega, fun k hk hr => (h2.block k (by simp; omega) hr).trans (Below.heap_alloc w _ k hk)⟩
  · intro k hk; rcases h3 k hk with h | h
    · exact .inl h
    · exact .inr (by simp at h; omega)

/-- An own slice of ints lies in another block than an own slice of another type. -/
theorem apart_GI {W : World} {B B' s : Nat} {e : TypeId} (hne : e ≠ 3) {u x : Value} {cs : List Value} {xs : List Int} (h : OwnGI W B x xs) (k : Go.Sl.Own W B' e s u cs) : ∀ b, Go.Sl.row x = some b → Go.Sl.row u ≠ some b := by
  intro b hb hb'
  obtain ⟨h0, rfl⟩ := row_eq hb
  obtain ⟨k0, e1⟩ := row_eq hb'
  obtain ⟨_, c1, x1, _⟩ := h.2.2 h0
  obtain ⟨_, _, c2, x2, _⟩ := k.2.2 k0
  rw [e1, x1] at x2
  injection x2 with x2
  injection x2 with _ x3
  exact hne x3.symm

/-- A row of polynomials in a block of the call's own; the coefficients lie in blocks of ints of the call's own. -/
structure TRow (W : World) (B : Nat) (v : Value) (us : List Value) (ps : List LP) : Prop where
  own : Go.Sl.Own W B 27 2 v (pcs us ps)
  len : us.length = ps.length
  each : ∀ j, j < ps.length → OwnGI W B (nthv us j) (nthp ps j).c
section
variable {W W' : World} {B : Nat} {v : Value} {us : List Value} {ps : List LP}
theorem TRow.read (h : TRow W B v us ps) : PRead W v us ps := ⟨h.own.sl, h.len, fun j hj => (h.each j hj).ints⟩
theorem TRow.isSl (h : TRow W B v us ps) : IsSl v := h.own.1
theorem TRow.below (h : TRow W B v us ps) (hb : Below W.heap.size W W') : TRow W' B v us ps := ⟨h.own.below hb, h.len, fun j hj => (h.each j hj).below hb⟩
theorem TRow.low (h : TRow W B v us ps) {B' : Nat} (hB : B' ≤ B) : TRow W B' v us ps := ⟨h.own.low hB, h.len, fun j hj => (h.each j hj).low hB⟩
theorem tRow_nil (W : World) (B : Nat) : TRow W B (.slice none 0 0) [] [] := ⟨own_nil _ _ _ _, rfl, fun j hj => absurd hj (by simp)⟩
theorem nthv_snoc (us : List Value) (c : Value) (j : Nat) : nthv (us ++ [c]) j = if j = us.length then c else nthv us j := by
  unfold nthv
  by_cases e : j = us.length
  · subst e; simp
  · rw [if_neg e, List.getD_eq_getElem?_getD, List.getD_eq_getElem?_getD]
    rcases Nat.lt_or_ge j us.length with h | h
    · rw [List.getElem?_append_left h]
    · rw [List.getElem?_append_right h, List.getElem?_eq_none (by simp; omega), List.getElem?_eq_none h]
theorem nthp_snoc (ps : List LP) (q : LP) (j : Nat) : nthp (ps ++ [q]) j = if j = ps.length then q else nthp ps j := by
  unfold nthp
  by_cases e : j = ps.length
  · subst e; simp
  · rw [if_neg e, List.getD_eq_getElem?_getD, List.getD_eq_getElem?_getD]
    rcases Nat.lt_or_ge j ps.length with h | h
    · rw [List.getElem?_append_left h]
    · rw [List.getElem?_append_right h, List.getElem?_eq_none (by simp; omega), List.getElem?_eq_none h]
theorem nthm_snoc (m : List (List LP)) (r : List LP) (j : Nat) : nthm (m ++ [r]) j = if j = m.length then r else nthm m j := by
  unfold nthm
  by_cases e : j = m.length
  · subst e; simp
  · rw [if_neg e, List.getD_eq_getElem?_getD, List.getD_eq_getElem?_getD]
    rcases Nat.lt_or_ge j m.length with h | h
    · rw [List.getElem?_append_left h]
    · rw [List.getElem?_append_right h, List.getElem?_eq_none (by simp; omega), List.getElem?_eq_none h]
/-- Another row of polynomials grows. -/
theorem TRow.grownP (h : TRow W B v us ps) {B' : Nat} {u : Value} {cs : List Value} (hu : Go.Sl.Own W B' 27 2 u cs) (ha : ∀ k, Go.Sl.row v = some k → Go.Sl.row u ≠ some k) (hg : W.grownBy W' (Go.Sl.row u)) : TRow W' B v us ps :=
  ⟨h.own.grown hg ha, h.len, fun j hj => (h.each j hj).grown hg (apart_GI poly_ne_int (h.each j hj) hu)⟩
/-- A slice of rows grows. -/
theorem TRow.grownR (h : TRow W B v us ps) {B' : Nat} {u : Value} {cs : List Value} (hu : Go.Sl.Own W B' 28 1 u cs) (hg : W.grownBy W' (Go.Sl.row u)) : TRow W' B v us ps :=
  ⟨h.own.grown hg (own_types (Ne.symm rows_ne_poly) h.own hu), h.len, fun j hj => (h.each j hj).grown hg (apart_GI rows_ne_int (h.each j hj) hu)⟩
theorem TRow.push (h : TRow W B v us ps) {c v' : Value} {q : LP} (hc : OwnGI W B c q.c) (ho : Go.Sl.Own W' B 27 2 v' (pcs us ps ++ [.int .i64 q.low, c])) (hg : W.grownBy W' (Go.Sl.row v)) : TRow W' B v' (us ++ [c]) (ps ++ [q]) := by
  refine ⟨by rw [← pcs_append us ps h.len]; exact ho, by simp [h.len], fun j hj => ?_⟩
  rw [nthv_snoc, nthp_snoc, h.len]
  by_cases e : j = ps.length
  · rw [if_pos e, if_pos e]; exact hc.grown hg (apart_GI poly_ne_int hc h.own)
  · rw [if_neg e, if_neg e]
    have hj' : j < ps.length := by simp at hj; omega
    exact (h.each j hj').grown hg (apart_GI poly_ne_int (h.each j hj') h.own)
theorem TRow.setOther (h : TRow W B v us ps) {p : Addr} (hp : p.block < B) (u : Value) : TRow (W.setCell p u) B v us ps :=
  ⟨h.own.setOther (fun k hk e => by have := (h.own.lt k hk).1; omega) u, h.len, fun j hj => (h.each j hj).setOther (fun k hk e => by have := ((h.each j hj).lt k hk).1; omega) u⟩
end

/-- A matrix that grows by rows. -/
structure TMat (W : World) (B : Nat) (v : Value) (vs : List Value) (m : List (List LP)) : Prop where
  own : Go.Sl.Own W B 28 1 v vs
  len : vs.length = m.length
  row : ∀ i, i < m.length → ∃ us, TRow W B (nthv vs i) us (nthm m i)
section
variable {W W' : World} {B : Nat} {v : Value} {vs : List Value} {m : List (List LP)}
theorem TMat.isSl (h : TMat W B v vs m) : IsSl v := h.own.1
theorem TMat.read (h : TMat W B v vs m) : MRead W v vs m := ⟨h.own.sl, h.len, fun i hi => let ⟨us, k⟩ := h.row i hi; ⟨us, k.read⟩⟩
theorem TMat.below (h : TMat W B v vs m) (hb : Below W.heap.size W W') : TMat W' B v vs m := ⟨h.own.below hb, h.len, fun i hi => let ⟨us, k⟩ := h.row i hi; ⟨us, k.below hb⟩⟩
theorem tMat_nil (W : World) (B : Nat) : TMat W B (.slice none 0 0) [] [] := ⟨own_nil _ _ _ _, rfl, fun i hi => absurd hi (by simp)⟩
theorem TMat.setOther (h : TMat W B v vs m) {p : Addr} (hp : p.block < B) (u : Value) : TMat (W.setCell p u) B v vs m :=
  ⟨h.own.setOther (fun k hk e => by have := (h.own.lt k hk).1; omega) u, h.len, fun i hi => let ⟨us, k⟩ := h.row i hi; ⟨us, k.setOther hp u⟩⟩
/-- Only one old block changes, one that is not the matrix's. -/
theorem TMat.but (h : TMat W B v vs m) {D : Nat} (hD : D < B) (hg : W.grownBy W' (some D)) : TMat W' B v vs m := by
  refine ⟨h.own.grown hg fun k hk e => by have := (h.own.lt k hk).1; injection e; omega, h.len, fun i hi => ?_⟩
  obtain ⟨us, k⟩ := h.row i hi
  exact ⟨us, k.own.grown hg fun b hb e => by have := (k.own.lt b hb).1; injection e; omega, k.len, fun j hj => (k.each j hj).grown hg fun b hb e => by have := ((k.each j hj).lt b hb).1; injection e; omega⟩
/-- Another slice of rows grows. -/
theorem TMat.grownR (h : TMat W B v vs m) {B' : Nat} {u : Value} {cs : List Value} (hu : Go.Sl.Own W B' 28 1 u cs) (ha : ∀ k, Go.Sl.row v = some k → Go.Sl.row u ≠ some k) (hg : W.grownBy W' (Go.Sl.row u)) : TMat W' B v vs m :=
  ⟨h.own.grown hg ha, h.len, fun i hi => let ⟨us, k⟩ := h.row i hi; ⟨us, k.grownR hu hg⟩⟩
theorem TMat.push (h : TMat W B v vs m) {r v' : Value} {us : List Value} {ps : List LP} (hr : TRow W B r us ps) (ho : Go.Sl.Own W' B 28 1 v' (vs ++ [r])) (hg : W.grownBy W' (Go.Sl.row v)) : TMat W' B v' (vs ++ [r]) (m ++ [ps]) := by
  refine ⟨ho, by simp [h.len], fun i hi => ?_⟩
  rw [nthv_snoc, nthm_snoc, h.len]
  by_cases e : i = m.length
  · rw [if_pos e, if_pos e]; exact ⟨us, hr.grownR h.own hg⟩
  · rw [if_neg e, if_neg e]
    have hi' : i < m.length := by simp at hi; omega
    obtain ⟨us', k⟩ := h.row i hi'
    exact ⟨us', k.grownR h.own hg⟩
end

section
variable {w w1 w2 : World} {D S : Nat}
theorem Keep.below (h : w.grownBy w1 (some D)) (hb : Below w.heap.size w1 w2) : w.grownBy w2 (some D) :=
  ⟨hb.os.trans h.os, hb.tape.trans h.tape, hb.output.trans h.output, Nat.le_trans h.size hb.size, fun k hk hr => (hb.block k hk).trans (h.block k hk hr)⟩
theorem Keep.grown (h : w.grownBy w1 (some D)) {r : Option Nat} (hg : w1.grownBy w2 r) (hr : ∀ k, r = some k → w.heap.size ≤ k) : w.grownBy w2 (some D) :=
  ⟨hg.os.trans h.os, hg.tape.trans h.tape, hg.output.trans h.output, Nat.le_trans h.size hg.size, fun k hk hr2 => (hg.block k (Nat.lt_of_lt_of_le hk h.size) fun e => by have := hr k e.symm; omega).trans (h.block k hk hr2)⟩
theorem Keep.set (h : w.grownBy w1 (some D)) (u : Value) (o : Nat) : w.grownBy (w1.setCell ⟨D, o, none⟩ u) (some D) :=
  ⟨h.os, h.tape, h.output, by simpa using h.size, fun k hk hr => (Below.heap_setCell _ _ _ k (fun e => hr (by rw [e]))).trans (h.block k hk hr)⟩
theorem Keep.setNew (h : w.grownBy w1 (some D)) {p : Addr} (hp : w.heap.size ≤ p.block) (u : Value) : w.grownBy (w1.setCell p u) (some D) :=
  ⟨h.os, h.tape, h.output, by simpa using h.size, fun k hk hr => (Below.heap_setCell _ _ _ k (fun e => by omega)).trans (h.block k hk hr)⟩
end

end Go.Proofs.Ytmcecmnbdcbehaa

