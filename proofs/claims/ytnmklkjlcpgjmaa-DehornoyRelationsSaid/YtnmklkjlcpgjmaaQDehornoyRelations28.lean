/- DehornoyRelations, the plain law: the words reduce within the bound, and the signs are as asked. No program. -/
import Derived.Test.YtnmklkjlcpgjmaaQDehornoyRelations0
import Derived.Test.YtnmklkjlcpgjmaaQDehornoyRelations1
import Derived.Test.YtnmklkjlcpgjmaaQDehornoyRelations2
import Derived.Test.YtnmklkjlcpgjmaaQDehornoyRelations3
import Derived.Test.YtnmklkjlcpgjmaaQDehornoyRelations4
import Derived.Test.YtnmklkjlcpgjmaaQDehornoyRelations5
import Derived.Test.YtnmklkjlcpgjmaaQDehornoyRelations6
import Derived.Test.YtnmklkjlcpgjmaaQDehornoyRelations7
import Derived.Test.YtnmklkjlcpgjmaaQDehornoyRelations8
import Derived.Test.YtnmklkjlcpgjmaaQDehornoyRelations9
import Derived.Test.YtnmklkjlcpgjmaaQDehornoyRelations10
import Derived.Test.YtnmklkjlcpgjmaaQDehornoyRelations11
import Derived.Test.YtnmklkjlcpgjmaaQDehornoyRelations12
import Derived.Test.YtnmklkjlcpgjmaaQDehornoyRelations13
import Derived.Test.YtnmklkjlcpgjmaaQDehornoyRelations14
import Derived.Test.YtnmklkjlcpgjmaaQDehornoyRelations15
import Derived.Test.YtnmklkjlcpgjmaaQDehornoyRelations16
import Derived.Test.YtnmklkjlcpgjmaaQDehornoyRelations17
import Derived.Test.YtnmklkjlcpgjmaaQDehornoyRelations18
import Derived.Test.YtnmklkjlcpgjmaaQDehornoyRelations19
import Derived.Test.YtnmklkjlcpgjmaaQDehornoyRelations20
import Derived.Test.YtnmklkjlcpgjmaaQDehornoyRelations21
import Derived.Test.YtnmklkjlcpgjmaaQDehornoyRelations22
import Derived.Test.YtnmklkjlcpgjmaaQDehornoyRelations23
import Derived.Test.YtnmklkjlcpgjmaaQDehornoyRelations24
import Derived.Test.YtnmklkjlcpgjmaaQDehornoyRelations25
import Derived.Test.YtnmklkjlcpgjmaaQDehornoyRelations26
import Derived.Deep.RegionHeld3
import Derived.Deep.CutRange
import Derived.Lib.AppendZeros
import Derived.RangeFuncNested
import Derived.RangeFuncCalls
import Derived.OrdersIn
import Derived.OrdersHeld
import Derived.Deep.RegionHeld
import Derived.Deep.RegionLaw
import Derived.Deep.QuietTactic
import Derived.BigQuiet
import Derived.IntWalk
namespace Go.Proofs.Ytnmklkjlcpgjmaa
open Go.RowKit Go.Sl

/-- The word is a conjugate of the generator. -/
def Cj (r : List Int) (m : Nat) : Prop := ∃ y, IsWord y ∧ r = redL (y ++ [(m : Int) + 1] ++ invL y)
theorem Cj.word {r : List Int} {m : Nat} (h : Cj r m) (hm : m < 6) : IsWord r := by
  obtain ⟨y, hy, rfl⟩ := h
  refine ((hy.append ?_).append hy.inv).red
  intro x hx
  simp at hx
  omega
end Go.Proofs.Ytnmklkjlcpgjmaa

namespace Go.Proofs.Ytnmklkjlcpgjmaa
open Go.RowKit Go.Sl

/-- Nothing but the blocks of S has turned; there may be new blocks. -/
structure Chd (w w' : World) (S : Nat → Prop) : Prop where
  os : w'.os = w.os
  tape : w'.tape = w.tape
  output : w'.output = w.output
  size : w.heap.size ≤ w'.heap.size
  block : ∀ k, k < w.heap.size → ¬ S k → w'.heap[k]? = w.heap[k]?
section
variable {w w' w2 : World} {S : Nat → Prop}
theorem Chd.refl (w : World) (S : Nat → Prop) : Chd w w S := ⟨rfl, rfl, rfl, Nat.le_refl _, fun _ _ _ => rfl⟩
theorem Chd.trans (h : Chd w w' S) (k : Chd w' w2 S) : Chd w w2 S :=
  ⟨k.os.trans h.os, k.tape.trans h.tape, k.output.trans h.output, Nat.le_trans h.size k.size, fun b hb hs => (k.block b (Nat.lt_of_lt_of_le hb h.size) hs).trans (h.block b hb hs)⟩
theorem Chd.set {p : Addr} (hp : S p.block) (u : Value) : Chd w (w.setCell p u) S := ⟨rfl, rfl, rfl, by simp, fun k _ hk => Below.heap_setCell w p u k (fun e => hk (e ▸ hp))⟩
theorem Chd.mono {T : Nat → Prop} (h : Chd w w' S) (k : ∀ b, b < w.heap.size → S b → T b) : Chd w w' T := ⟨h.os, h.tape, h.output, h.size, fun b hb ht => h.block b hb (fun hs => ht (k b hb hs))⟩
theorem Chd.below {B : Nat} (h : Chd w w' S) (hB : B ≤ w.heap.size) (k : ∀ b, S b → B ≤ b) : Below B w w' := ⟨h.os, h.tape, h.output, h.size, fun b hb => h.block b (Nat.lt_of_lt_of_le hb hB) (fun hs => by have := k b hs; omega)⟩
theorem Chd.grown {r : Option Nat} (h : w.grownBy w' r) (k : ∀ b, r = some b → S b) : Chd w w' S := ⟨h.os, h.tape, h.output, h.size, fun b hb hs => h.block b hb (fun e => hs (k b e.symm))⟩
theorem Chd.own {B : Nat} {v : Value} {xs : List Int} (h : Chd w w' S) (k : OwnI w B v xs) (hv : ∀ b, row v = some b → ¬ S b) : OwnI w' B v xs := Own.of_block k fun b hb => h.block b (k.lt b hb).2 (hv b hb)
end

end Go.Proofs.Ytnmklkjlcpgjmaa

namespace Go.Proofs.Ytnmklkjlcpgjmaa
open Go.RowKit Go.Sl

structure RG (W : World) (B : Nat) (v : Value) (vs : List Value) (F : List (List Int)) : Prop where
  own : OwnG W B 22 v vs
  len : vs.length = F.length
  row : ∀ i, i < F.length → OwnI W B (nthv vs i) (nthr F i)
  pos : ∀ i, i < F.length → 0 < (nthr F i).length
  each : ∀ i j, i < j → j < F.length → vblk (nthv vs i) ≠ vblk (nthv vs j)
section
variable {W W' : World} {B : Nat} {u r : Value} {vs : List Value} {F : List (List Int)} {ys : List Int}
theorem RG.below (h : RG W B u vs F) (hb : Below W.heap.size W W') : RG W' B u vs F := ⟨h.own.below hb, h.len, fun i hi => (h.row i hi).below hb, h.pos, h.each⟩
theorem RG.low {B' : Nat} (h : RG W B u vs F) (hB : B' ≤ B) : RG W B' u vs F := ⟨h.own.low hB, h.len, fun i hi => (h.row i hi).low hB, h.pos, h.each⟩
theorem RG.rowAt (h : RG W B u vs F) {i : Nat} (hi : i < F.length) : Go.Sl.row (nthv vs i) = some (vblk (nthv vs i)) := row_some (by have := (h.row i hi).ints.cap; have := h.pos i hi; omega)
theorem RG.blk (h : RG W B u vs F) {i : Nat} (hi : i < F.length) : B ≤ vblk (nthv vs i) ∧ vblk (nthv vs i) < W.heap.size := (h.row i hi).lt _ (h.rowAt hi)
theorem RG.heapAt (h : RG W B u vs F) {i : Nat} (hi : i < F.length) : ∃ cur, W.heap[vblk (nthv vs i)]? = some (.cells cur 3 (0, 0)) := by
  obtain ⟨_, _, cur, hh, _⟩ := (h.row i hi).2.2 (row_eq (h.rowAt hi)).1
  exact ⟨cur, hh⟩
theorem RG.apart (h : RG W B u vs F) {i : Nat} (hi : i < F.length) : Go.Sl.row u ≠ some (vblk (nthv vs i)) := fun e => by
  obtain ⟨h0, e1⟩ := row_eq e
  obtain ⟨_, cur, hh, _⟩ := h.own.2.2 h0
  obtain ⟨cur2, hh2⟩ := h.heapAt hi
  rw [e1, hh2] at hh
  have := (Obj.cells.inj (Option.some.inj hh)).2.1
  revert this
  decide
theorem RG.rows (h : RG W B u vs F) : RowsV W u vs F := ⟨h.own.sl, h.len, fun i hi => (h.row i hi).ints⟩
theorem nthr_put {F : List (List Int)} {i j : Nat} (hj : j < F.length) (ys : List Int) : nthr (F.set i ys) j = if j = i then ys else nthr F j := by
  by_cases e : j = i
  · subst e; rw [if_pos rfl, nthr_lt (by simp; omega)]; simp
  · rw [if_neg e, nthr_lt (by simp; omega), nthr_lt hj]; simp [Ne.symm e]
theorem nthv_put {vs : List Value} {i j : Nat} (hj : j < vs.length) (q : Value) : nthv (vs.set i q) j = if j = i then q else nthv vs j := by
  by_cases e : j = i
  · subst e; rw [if_pos rfl]; simp [nthv, hj]
  · rw [if_neg e]; simp [nthv, Ne.symm e]
/-- Two rows beside each other have turned. -/
theorem RG.pair (h : RG W B u vs F) {i : Nat} (hi : i + 1 < F.length) {a b : List Int} (hc : Chd W W' (fun k => k = vblk (nthv vs i) ∨ k = vblk (nthv vs (i + 1)))) (ha : OwnI W' B (nthv vs i) a) (hb : OwnI W' B (nthv vs (i + 1)) b) (la : 0 < a.length) (lb : 0 < b.length) :
    RG W' B u vs ((F.set i a).set (i + 1) b) := by
  have hr : ∀ j, j < F.length → nthr ((F.set i a).set (i + 1) b) j = if j = i + 1 then b else if j = i then a else nthr F j := by
    intro j hj
    rw [nthr_put (by rw [List.length_set]; exact hj), nthr_put hj]
  have hk : ∀ k, Go.Sl.row u = some k → W'.heap[k]? = W.heap[k]? := by
    intro k hk
    refine hc.block k (h.own.lt k hk).2 fun e => ?_
    rcases e with e | e
    · exact h.apart (i := i) (by omega) (by rw [hk, e])
    · exact h.apart (i := i + 1) hi (by rw [hk, e])
  refine ⟨h.own.of_block hk, by simp [h.len], fun j hj => ?_, fun j hj => ?_, fun j k hjk hk => h.each j k hjk (by simpa using hk)⟩
  · simp only [List.length_set] at hj
    rw [hr j hj]
    by_cases e1 : j = i + 1
    · rw [if_pos e1, e1]; exact hb
    · rw [if_neg e1]
      by_cases e2 : j = i
      · rw [if_pos e2, e2]; exact ha
      · rw [if_neg e2]
        refine Own.of_block (h.row j hj) fun k hk => ?_
        rw [h.rowAt hj] at hk
        obtain rfl := Option.some.inj hk
        refine hc.block _ (h.blk hj).2 fun e => ?_
        rcases e with e | e
        · rcases Nat.lt_or_ge j i with g | g
          · exact h.each j i g (by omega) e
          · exact h.each i j (by omega) hj e.symm
        · rcases Nat.lt_or_ge j (i + 1) with g | g
          · exact h.each j (i + 1) g hi e
          · exact h.each (i + 1) j (by omega) hj e.symm
  · simp only [List.length_set] at hj
    rw [hr j hj]
    split
    · exact lb
    · split
      · exact la
      · exact h.pos j hj
theorem RG.tail {p : List Int} {q : Value} (h : RG W B u (q :: vs) (p :: F)) : RG W B (vcut u 1 (vlen u) (vcap u) 1) vs F := by
  refine ⟨h.own.tail, by have := h.len; simpa using this, fun i hi => ?_, fun i hi => ?_, fun i j hij hj => ?_⟩
  · have := h.row (i + 1) (by simp; omega); simpa [nthv, nthr] using this
  · have := h.pos (i + 1) (by simp; omega); simpa [nthr] using this
  · have := h.each (i + 1) (j + 1) (by omega) (by simp; omega); simpa [nthv] using this
theorem RG.head (h : RG W B u vs F) {k : Nat} (hk : k ≤ F.length) : RG W B (vcut u 0 k (vcap u) 1) (vs.take k) (F.take k) := by
  have hn : ∀ i, i < k → nthv (vs.take k) i = nthv vs i ∧ nthr (F.take k) i = nthr F i := fun i hi => by
    simp [nthv, nthr, hi]
  refine ⟨h.own.head (by rw [h.len]; exact hk), by simp [h.len], fun i hi => ?_, fun i hi => ?_, fun i j hij hj => ?_⟩
  · rw [List.length_take] at hi
    rw [(hn i (by omega)).1, (hn i (by omega)).2]; exact h.row i (by omega)
  · rw [List.length_take] at hi
    rw [(hn i (by omega)).2]; exact h.pos i (by omega)
  · rw [List.length_take] at hj
    rw [(hn i (by omega)).1, (hn j (by omega)).1]; exact h.each i j hij (by omega)
/-- A row put in the place of another. -/
theorem RG.put (h : RG W B u vs F) {i : Nat} (hi : i < F.length) (hy : OwnI W B r ys) (l0 : 0 < ys.length) (hap : Go.Sl.row u ≠ some (vblk r)) (hea : ∀ j, j < F.length → vblk (nthv vs j) ≠ vblk r) :
    RG (W.setCell (vat u i) r) B u (vs.set i r) (F.set i ys) := by
  have hl := h.len
  have h0 : 0 < vcap u := h.own.cap_of (j := i) (by omega)
  have hrr : Go.Sl.row r = some (vblk r) := row_some (by have := hy.ints.cap; omega)
  refine ⟨h.own.set (by omega) r, by simp [hl], fun j hj => ?_, fun j hj => ?_, fun j k hjk hk => ?_⟩
  · simp only [List.length_set] at hj
    rw [nthr_put hj, nthv_put (by omega)]
    split
    · refine hy.setOther (fun k hk e => hap ?_) _
      rw [row_some h0, ← hrr, hk]; rw [vat_block] at e; rw [e]
    · refine (h.row j hj).setOther (fun k hk e => h.apart hj ?_) _
      rw [row_some h0, ← h.rowAt hj, hk]; rw [vat_block] at e; rw [e]
  · simp only [List.length_set] at hj
    rw [nthr_put hj]
    split
    · exact l0
    · exact h.pos j hj
  · simp only [List.length_set] at hk
    rw [nthv_put (by omega), nthv_put (by omega)]
    split
    · rw [if_neg (by omega)]; exact (hea k hk).symm
    · split
      · exact hea j (by omega)
      · exact h.each j k hjk hk
end
/-- The box. -/
structure Frm (W : World) (B bx : Nat) (n : Nat) (p : Int) (v : Value) (vs : List Value) (F : List (List Int)) : Prop where
  box : W.heap[bx]? = some (.cells #[.int .i64 n, .int .i64 p, v] 50 (0, 0))
  rows : RG W B v vs F
  ge : B ≤ bx
section
variable {W W' : World} {B bx n : Nat} {p : Int} {v : Value} {vs : List Value} {F : List (List Int)}
theorem Frm.lt (h : Frm W B bx n p v vs F) : bx < W.heap.size := (Array.getElem?_eq_some_iff.1 h.box).1
theorem Frm.below (h : Frm W B bx n p v vs F) (hb : Below W.heap.size W W') : Frm W' B bx n p v vs F := ⟨(hb.block _ h.lt).trans h.box, h.rows.below hb, h.ge⟩
theorem Frm.c0 (h : Frm W B bx n p v vs F) : W.cell? ⟨bx, 0, none⟩ = some (.int .i64 n) := by simp [World.cell?, h.box]
theorem Frm.c1 (h : Frm W B bx n p v vs F) : W.cell? ⟨bx, 1, none⟩ = some (.int .i64 p) := by simp [World.cell?, h.box]
theorem Frm.c2 (h : Frm W B bx n p v vs F) : W.cell? ⟨bx, 2, none⟩ = some v := by simp [World.cell?, h.box]
theorem Frm.rowNe (h : Frm W B bx n p v vs F) {i : Nat} (hi : i < F.length) : bx ≠ vblk (nthv vs i) := fun e => by
  obtain ⟨cur2, hh2⟩ := h.rows.heapAt hi
  rw [← e, h.box] at hh2
  have := (Obj.cells.inj (Option.some.inj hh2)).2.1
  revert this
  decide
theorem box_row {W : World} {B bx : Nat} {v : Value} {vs cs : List Value} (hb : W.heap[bx]? = some (.cells cs.toArray 50 (0, 0))) (h : OwnG W B 22 v vs) : Go.Sl.row v ≠ some bx := fun e => by
  obtain ⟨h0, e1⟩ := row_eq e
  obtain ⟨_, cur, hh, _⟩ := h.2.2 h0
  rw [e1, hb] at hh
  have := (Obj.cells.inj (Option.some.inj hh)).2.1
  revert this
  decide
theorem Frm.slNe (h : Frm W B bx n p v vs F) : Go.Sl.row v ≠ some bx := box_row (cs := [.int .i64 n, .int .i64 p, v]) h.box h.rows.own
end

end Go.Proofs.Ytnmklkjlcpgjmaa

namespace Go.Proofs.Ytnmklkjlcpgjmaa
open Go.RowKit Go.Sl

/-- A box of one cell. -/
def One (w : World) (b : Nat) (x : Value) : Prop := w.heap[b]? = some (.cells #[x] 22 (0, 0))
section
variable {w w' : World} {b : Nat} {x : Value}
theorem One.lt (h : One w b x) : b < w.heap.size := (Array.getElem?_eq_some_iff.1 h).1
theorem One.cell (h : One w b x) : w.cell? ⟨b, 0, none⟩ = some x := by simp [World.cell?, show w.heap[b]? = _ from h]
theorem One.free (h : One w b x) : w.frozen? ⟨b, 0, none⟩ = false := by simp [World.frozen?, show w.heap[b]? = _ from h]
theorem One.below (h : One w b x) (hb : Below w.heap.size w w') : One w' b x := (hb.block _ h.lt).trans h
theorem One.set (h : One w b x) (y : Value) : One (w.setCell ⟨b, 0, none⟩ y) b y := by
  unfold One at *
  simp [World.setCell, Array.getElem?_modify, h]
end
theorem Chd.cell {w w' : World} {S : Nat → Prop} (h : Chd w w' S) {b : Nat} (hb : b < w.heap.size) (hs : ¬ S b) (o : Nat) : w'.cell? ⟨b, o, none⟩ = w.cell? ⟨b, o, none⟩ := by
  simp only [World.cell?, h.block b hb hs]

theorem Frm.pair {W W' : World} {B bx n : Nat} {p : Int} {v : Value} {vs : List Value} {F : List (List Int)} (h : Frm W B bx n p v vs F) {i : Nat} (hi : i + 1 < F.length) {a b : List Int} (hc : Chd W W' (fun k => k = vblk (nthv vs i) ∨ k = vblk (nthv vs (i + 1)))) (ha : OwnI W' B (nthv vs i) a) (hb : OwnI W' B (nthv vs (i + 1)) b) (la : 0 < a.length) (lb : 0 < b.length) :
    Frm W' B bx n p v vs ((F.set i a).set (i + 1) b) :=
  ⟨(hc.block bx h.lt (by
    rintro (e | e)
    · exact h.rowNe (i := i) (by omega) e
    · exact h.rowNe (i := i + 1) hi e)).trans h.box, h.rows.pair hi hc ha hb la lb, h.ge⟩
end Go.Proofs.Ytnmklkjlcpgjmaa

namespace Go.Proofs.Ytnmklkjlcpgjmaa
open Go.RowKit Go.Sl

section
variable {α : Type} (g : α → α) (ys : List α)
end
theorem Frm.put {W : World} {B bx n : Nat} {p : Int} {v r : Value} {vs : List Value} {F : List (List Int)} {ys : List Int} (h : Frm W B bx n p v vs F) {i : Nat} (hi : i < F.length) (hy : OwnI W B r ys) (l0 : 0 < ys.length) (hap : Go.Sl.row v ≠ some (vblk r)) (hea : ∀ j, j < F.length → vblk (nthv vs j) ≠ vblk r) :
    Frm (W.setCell (vat v i) r) B bx n p v (vs.set i r) (F.set i ys) :=
  ⟨(Below.heap_setCell W (vat v i) r bx (fun e => h.slNe (by rw [row_some (h.rows.own.cap_of (j := i) (by rw [h.rows.len]; exact hi))]; rw [vat_block] at e; rw [e]))).trans h.box, h.rows.put hi hy l0 hap hea, h.ge⟩

end Go.Proofs.Ytnmklkjlcpgjmaa

namespace Go.Proofs.Ytnmklkjlcpgjmaa
open Go.RowKit Go.Sl

theorem Frm.far {W : World} {B bx n : Nat} {q : Int} {v : Value} {vs : List Value} {F : List (List Int)} (h : Frm W B bx n q v vs F) {p : Addr} (hb : p.block ≠ bx) (hv : Go.Sl.row v ≠ some p.block) (hr : ∀ j, j < F.length → vblk (nthv vs j) ≠ p.block) (u : Value) : Frm (W.setCell p u) B bx n q v vs F :=
  ⟨(Below.heap_setCell W p u bx (fun e => hb e.symm)).trans h.box, ⟨h.rows.own.setOther (fun k hk e => hv (by rw [hk, e])) u, h.rows.len, fun i hi => (h.rows.row i hi).setOther (fun k hk e => by rw [h.rows.rowAt hi] at hk; exact hr i hi (by rw [e]; exact Option.some.inj hk)) u, h.rows.pos, h.rows.each⟩, h.ge⟩
end Go.Proofs.Ytnmklkjlcpgjmaa

namespace Go.Proofs.Ytnmklkjlcpgjmaa
open Go.RowKit Go.Sl

def Sg (n : Nat) (xs : List Int) (s : Int) : Prop := ∃ ys, LtW n ys ∧ BE n ys xs ∧ ((ys = [] ∧ s = 0) ∨ ∃ k, 0 < k ∧ (s = 1 ∨ s = -1) ∧ SPos k s ys)
theorem SgnOf.sg {n : Nat} {xs : List Int} {s : Int} (h : SgnOf n xs s) : Sg n xs s := by
  obtain ⟨ys, _, a, b, c⟩ := h
  exact ⟨ys, a, b, c⟩
/-- The sign is one alone. -/
theorem sg_uniq {n : Nat} {xs ys : List Int} {s t : Int} (h : Sg n xs s) (k : Sg n ys t) (e : BE n xs ys) : s = t := by
  obtain ⟨u, lu, eu, hu⟩ := h
  obtain ⟨v, lv, ev, hv⟩ := k
  have euv : BE n u v := eu.trans (e.trans ev.symm)
  have key : ∀ {u v : List Int} {s t : Int} {k : Nat}, LtW n u → LtW n v → BE n u v → 0 < k → (s = 1 ∨ s = -1) → SPos k s u → ((v = [] ∧ t = 0) ∨ ∃ k, 0 < k ∧ (t = 1 ∨ t = -1) ∧ SPos k t v) → s ≠ t → (∀ y ∈ v, k ≤ y.natAbs) → False := by
    rintro u v s t k lu lv e hk hs ⟨hm, z, hz, hzk⟩ hv hne hge
    have hinv : Mono k s (invB v) := by
      intro y hy
      unfold invB at hy
      rw [List.mem_reverse] at hy
      obtain ⟨x, hx, rfl⟩ := List.mem_map.1 hy
      rw [Int.natAbs_neg]
      refine ⟨hge x hx, fun ek => ?_⟩
      rcases hv with ⟨rfl, _⟩ | ⟨k', hk', ht, hm', z', hz', hzk'⟩
      · simp at hx
      · have hkk : k' = k := by
          have h1 := (hm' x hx).1
          have h2 := hge z' hz'
          omega
        subst hkk
        have h3 := (hm' x hx).2 ek
        have hts : t = -s := by rcases hs with rfl | rfl <;> rcases ht with rfl | rfl <;> first | rfl | exact absurd rfl hne
        rw [hts] at h3
        rw [Int.mul_neg, ← Int.neg_mul]; exact h3
    refine bey_irr (n := n) (a := []) (b := []) hk hs (fun x hx => by simp at hx) ⟨u ++ invB v, ⟨hm.app hinv, z, by simp [hz], hzk⟩, lu.app (invB_lt lv), ?_⟩ (Sam.refl _)
    rw [List.nil_append]
    exact (e.post _).trans (BE.mulInv lv)
  apply Classical.byContradiction
  intro hne
  have nil : ∀ {k : Nat}, ∀ y ∈ ([] : List Int), k ≤ y.natAbs := fun y hy => by simp at hy
  rcases hu with ⟨rfl, rfl⟩ | ⟨k, hk, hs, hsp⟩
  · rcases hv with ⟨rfl, rfl⟩ | ⟨k', hk', ht, htp⟩
    · exact hne rfl
    · exact key lv lu euv.symm hk' ht htp (.inl ⟨rfl, rfl⟩) (fun h => hne h.symm) nil
  · rcases hv with ⟨rfl, rfl⟩ | ⟨k', hk', ht, htp⟩
    · exact key lu lv euv hk hs hsp (.inl ⟨rfl, rfl⟩) hne nil
    · rcases Nat.le_total k k' with hkk | hkk
      · exact key lu lv euv hk hs hsp (.inr ⟨k', hk', ht, htp⟩) hne fun y hy => by have := (htp.1 y hy).1; omega
      · exact key lv lu euv.symm hk' ht htp (.inr ⟨k, hk, hs, hsp⟩) (fun h => hne h.symm) fun y hy => by have := (hsp.1 y hy).1; omega

theorem Sg.mul {n : Nat} {xs ys : List Int} {s : Int} (h : Sg n xs s) (k : Sg n ys s) (h0 : s ≠ 0) : Sg n (xs ++ ys) s := by
  obtain ⟨u, lu, eu, hu⟩ := h
  obtain ⟨v, lv, ev, hv⟩ := k
  rcases hu with ⟨_, e⟩ | ⟨k, hk, hs, hm, z, hz, hzk⟩
  · exact absurd e h0
  rcases hv with ⟨_, e⟩ | ⟨k', hk', _, hm', z', hz', hzk'⟩
  · exact absurd e h0
  refine ⟨u ++ v, lu.app lv, (eu.post v).trans (ev.pre xs), .inr ?_⟩
  rcases Nat.le_total k k' with hkk | hkk
  · exact ⟨k, hk, hs, Mono.app hm (fun y hy => ⟨by have := (hm' y hy).1; omega, fun e => (hm' y hy).2 (by have := (hm' y hy).1; omega)⟩), z, by simp [hz], hzk⟩
  · exact ⟨k', hk', hs, Mono.app (fun y hy => ⟨by have := (hm y hy).1; omega, fun e => (hm y hy).2 (by have := (hm y hy).1; omega)⟩) hm', z', by simp [hz'], hzk'⟩
end Go.Proofs.Ytnmklkjlcpgjmaa

namespace Go.Proofs.Ytnmklkjlcpgjmaa
open Go.RowKit Go.Sl

section
variable {p q x y : List Int}
theorem seen_two {w : List Int} {i j : Nat} (hi : i + 1 < 6) (hj : j + 1 < 6) (hij : i ≠ j) (h1 : seenI w i) (h2 : seenI w j) : 2 ≤ seenN 6 w := by
  have h := seen_count w
  rcases (show i = 0 ∨ i = 1 ∨ i = 2 ∨ i = 3 ∨ i = 4 by omega) with rfl | rfl | rfl | rfl | rfl <;>
  rcases (show j = 0 ∨ j = 1 ∨ j = 2 ∨ j = 3 ∨ j = 4 by omega) with rfl | rfl | rfl | rfl | rfl <;>
  first
    | exact absurd rfl hij
    | (rw [if_pos h1, if_pos h2] at h; omega)
theorem blk_six {D : List Int} (hD : IsUp 6 D (hf 6)) : Blk1 6 D fun b => wL (xN 6 b) := blk_of (by decide) (by decide) hD blk6
theorem gst_word {D : List Int} (hD : IsUp 6 D (hf 6)) (lx : LtW 6 x) : GSt 6 D (fun b => wL (xN 6 b)) x 0 := by
  have := GSt.word (by decide) (by decide) hD (blk_six hD) x [] (fun z hz => by simp at hz) lx (GSt.start (by decide) hD (blk_six hD))
  simpa using this
theorem gst_more {D : List Int} (hD : IsUp 6 D (hf 6)) {e : Nat} (lx : LtW 6 x) (ly : LtW 6 y) (h : GSt 6 D (fun b => wL (xN 6 b)) x e) : GSt 6 D (fun b => wL (xN 6 b)) (x ++ y) e :=
  GSt.word (by decide) (by decide) hD (blk_six hD) y x lx ly h
theorem sign_ok1 (hr : RelT 6 p q) (lx : LtW 6 x) (ly : LtW 6 y) (hx : x.length ≤ 7) (hy : y.length ≤ 7) : RedOK (x ++ p ++ y) ∧ RedOK (x ++ q ++ y) := by
  obtain ⟨D, hD⟩ := up_exists (n := 6) (by decide) _ (pn_hf (by decide))
  obtain ⟨lp, lq⟩ := hr.lt
  have g0 := gst_word hD lx
  have go : ∀ (m : List Int) (e : Nat), LtW 6 m → GSt 6 D (fun b => wL (xN 6 b)) (x ++ m) e → m.length ≤ 2 + e → m.length ≤ 3 → RedOK (x ++ m ++ y) := fun m e lm h k k3 =>
    redOK_raw rfl (way_sign hD ((lx.app lm).app ly) (by simp only [List.length_append]; omega) (gst_more hD (lx.app lm) ly h) (by simp only [List.length_append]; omega))
  cases hr with
  | near hi hj h =>
    exact ⟨go _ 1 lp (g0.triple (by decide) (by decide) hD (blk_six hD) lx hi hj h) (by simp) (by simp), go _ 1 lq (g0.triple (by decide) (by decide) hD (blk_six hD) lx hj hi (by omega)) (by simp) (by simp)⟩
  | inv hi => exact ⟨go _ 0 lp (gst_more hD lx lp g0) (by simp) (by simp), go _ 0 lq (gst_more hD lx lq g0) (by simp) (by simp)⟩
  | far hi hj h => exact ⟨go _ 0 lp (gst_more hD lx lp g0) (by simp) (by simp), go _ 0 lq (gst_more hD lx lq g0) (by simp) (by simp)⟩
theorem cmp_red (t : List Int) : redL (invL (x ++ p ++ y) ++ (x ++ q ++ y ++ t)) = redL (invB y ++ invB p ++ q ++ y ++ t) := by
  refine congrArg List.reverse ?_
  have e1 : invL (x ++ p ++ y) = invL y ++ invL p ++ invL x := by simp [invL]
  rw [e1]
  have e2 : invL y ++ invL p ++ invL x ++ (x ++ q ++ y ++ t) = (invL y ++ invL p) ++ (invL x ++ (x ++ (q ++ y ++ t))) := by simp
  have e3 : invB y ++ invB p ++ q ++ y ++ t = (invL y ++ invL p) ++ (q ++ y ++ t) := by
    show invL y ++ invL p ++ q ++ y ++ t = _
    simp
  have := act_invL (act_rd rd_nil (invL y ++ invL p)) (invL x)
  rw [invL_invL] at this
  rw [e2, e3]
  simp only [act_append] at this ⊢
  rw [this]
theorem cmp_ok (hr : RelT 6 p q) (ly : LtW 6 y) (hy : y.length ≤ 7) : RedOK (invL (x ++ p ++ y) ++ (x ++ q ++ y)) ∧ RedOK (invL (x ++ p ++ y) ++ (x ++ q ++ y ++ [1])) := by
  obtain ⟨D, hD⟩ := up_exists (n := 6) (by decide) _ (pn_hf (by decide))
  have lY : LtW 6 (invB y) := invB_lt ly
  have lP : LtW 6 (invB p) := invB_lt hr.lt.1
  have iy : (invB y).length = y.length := by simp [invB]
  have g0 := gst_word hD lY
  have key : ∃ e, GSt 6 D (fun b => wL (xN 6 b)) (invB y ++ invB p) e ∧ (invB y ++ invB p).length ≤ 9 + e ∧ 2 ≤ wgt 6 (invB y ++ invB p) := by
    have hsw : seenN 6 (invB y ++ invB p) ≤ wgt 6 (invB y ++ invB p) := by unfold wgt; omega
    cases hr with
    | near hi hj h =>
      rename_i i j
      have g1 := (g0.flip.triple (by decide) (by decide) hD (blk_six hD) (negL_lt lY) hi hj h).flip
      have e1 : negL (negL (invB y) ++ [ltr i, ltr j, ltr i]) = invB y ++ invB [ltr i, ltr j, ltr i] := by
        rw [negL_append, negL_negL]; rfl
      rw [e1] at g1
      refine ⟨1, g1, by simp [invB]; omega, Nat.le_trans (seen_two hi hj (by omega) (.inr ?_) (.inr ?_)) hsw⟩
      · simp [invB]
      · simp [invB]
    | inv hi =>
      rename_i i
      have hb : bothB 6 (invB y ++ invB [ltr i, -ltr i]) = true := bothB_iff.2 ⟨i, hi, by simp [invB], by simp [invB]⟩
      refine ⟨0, gst_more hD lY lP g0, by simp [invB]; omega, ?_⟩
      have := both_seen hb
      unfold wgt
      rw [if_pos hb]
      omega
    | far hi hj h =>
      refine ⟨0, gst_more hD lY lP g0, by simp [invB]; omega, Nat.le_trans (seen_two hi hj (by omega) (.inr ?_) (.inl ?_)) hsw⟩
      · simp [invB]
      · simp [invB]
  obtain ⟨e, g1, k1, k2⟩ := key
  obtain ⟨w1, w2⟩ := way_cmp hD hr ly hy g1 k1 k2
  refine ⟨redOK_raw ?_ w1, redOK_raw ?_ w2⟩
  · have := cmp_red (x := x) (p := p) (q := q) (y := y) []
    simpa using this
  · exact cmp_red [1]
/-- The sides of a relation. -/
theorem rel_sides {n : Nat} {i k : Int} (hi : 1 ≤ i ∧ i < n) (hk : 1 ≤ k ∧ k < n) : RelT n (sidesL i k).1 (sidesL i k).2 := by
  obtain ⟨a, ha, rfl⟩ : ∃ a : Nat, a + 1 < n ∧ i = ltr a := ⟨(i - 1).toNat, by omega, by unfold ltr; omega⟩
  obtain ⟨b, hb, rfl⟩ : ∃ b : Nat, b + 1 < n ∧ k = ltr b := ⟨(k - 1).toNat, by omega, by unfold ltr; omega⟩
  unfold sidesL
  by_cases h1 : ltr a - ltr b = 1 ∨ ltr b - ltr a = 1
  · rw [if_pos h1]
    exact .near ha hb (by unfold ltr at h1; omega)
  · rw [if_neg h1]
    by_cases h2 : ltr a = ltr b
    · rw [if_pos h2]
      exact .inv ha
    · rw [if_neg h2]
      exact .far ha hb (by unfold ltr at h1 h2; omega)
/-- The signs. -/
theorem rel_vals {n : Nat} (h2 : 2 ≤ n) (hr : RelT n p q) (lx : LtW n x) (ly : LtW n y) {s t c d : Int} (ks : SgnOf n (x ++ p ++ y) s) (kt : SgnOf n (x ++ q ++ y) t)
    (kc : SgnOf n (invL (x ++ p ++ y) ++ (x ++ q ++ y ++ [1])) c) (kd : SgnOf n (invL (x ++ p ++ y) ++ (x ++ q ++ y)) d) : s = t ∧ c = 1 ∧ d = 0 := by
  have hb : BE n (x ++ p ++ y) (x ++ q ++ y) := BE.ctx x y hr.be
  have la : LtW n (x ++ p ++ y) := (lx.app hr.lt.1).app ly
  have h0 : BE n (invL (x ++ p ++ y) ++ (x ++ q ++ y)) [] := (hb.symm.pre _).trans (BE.invMul la)
  refine ⟨sg_uniq ks.sg kt.sg hb, ?_, ?_⟩
  · refine sg_uniq kc.sg (ys := [1]) (t := 1) ⟨[1], lw1 ⟨by decide, by omega⟩, .refl _, .inr ⟨1, by decide, .inl rfl, fun z hz => ?_, 1, by simp, rfl⟩⟩ ?_
    · rw [List.mem_singleton.1 hz]; exact ⟨by decide, fun _ => by decide⟩
    · have := h0.post [1]
      simpa using this
  · exact sg_uniq kd.sg (ys := []) (t := 0) ⟨[], fun z hz => by simp at hz, .refl _, .inl ⟨rfl, rfl⟩⟩ h0
end
end Go.Proofs.Ytnmklkjlcpgjmaa

