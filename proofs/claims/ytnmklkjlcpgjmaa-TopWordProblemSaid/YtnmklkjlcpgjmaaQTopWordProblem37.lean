/- The box of a form: a number of strands, a power, and rows of the call's own, each in a block of its own. -/
import Derived.Test.YtnmklkjlcpgjmaaQTopWordProblem0
import Derived.Test.YtnmklkjlcpgjmaaQTopWordProblem1
import Derived.Test.YtnmklkjlcpgjmaaQTopWordProblem3
import Derived.Test.YtnmklkjlcpgjmaaQTopWordProblem5
import Derived.Test.YtnmklkjlcpgjmaaQTopWordProblem6
import Derived.Test.YtnmklkjlcpgjmaaQTopWordProblem7
import Derived.Test.YtnmklkjlcpgjmaaQTopWordProblem8
import Derived.Test.YtnmklkjlcpgjmaaQTopWordProblem9
import Derived.Test.YtnmklkjlcpgjmaaQTopWordProblem10
import Derived.Test.YtnmklkjlcpgjmaaQTopWordProblem11
import Derived.Test.YtnmklkjlcpgjmaaQTopWordProblem12
import Derived.Test.YtnmklkjlcpgjmaaQTopWordProblem13
import Derived.Test.YtnmklkjlcpgjmaaQTopWordProblem15
import Derived.Test.YtnmklkjlcpgjmaaQTopWordProblem16
import Derived.Test.YtnmklkjlcpgjmaaQTopWordProblem17
import Derived.Test.YtnmklkjlcpgjmaaQTopWordProblem18
import Derived.Test.YtnmklkjlcpgjmaaQTopWordProblem19
import Derived.Test.YtnmklkjlcpgjmaaQTopWordProblem20
import Derived.Test.YtnmklkjlcpgjmaaQTopWordProblem31
import Derived.Test.YtnmklkjlcpgjmaaQTopWordProblem32
import Derived.Test.YtnmklkjlcpgjmaaQTopWordProblem34
import Derived.Test.YtnmklkjlcpgjmaaQTopWordProblem35
import Derived.Test.YtnmklkjlcpgjmaaQTopWordProblem36

namespace Go.Proofs.Ytnmklkjlcpgjmaa
open Go.RowKit Go.Sl

structure RG (W : World) (B : Nat) (v : Value) (vs : List Value) (F : List (List Int)) : Prop where
  own : OwnG W B 22 v vs
  len : vs.length = F.length
  row : ∀ i, i < F.length → OwnI W B (nthv vs i) (nthr F i)
  pos : ∀ i, i < F.length → 0 < (nthr F i).length
  each : ∀ i j, i < j → j < F.length → vblk (nthv vs i) ≠ vblk (nthv vs j)
section
variable {W W' : World} {B : Nat} {u r : Value} {vs : List Value} {F : List (List Int)} {ys : List Int}
theorem RG.below (h : RG W B u vs F) (hb : Below W.heap.size W W') : RG W' B u vs F := ⟨h.own.below hb, h.len, fun i hi => (h.row i hi).below hb, h.pos, h.each⟩
theorem RG.low {B' : Nat} (h : RG W B u vs F) (hB : B' ≤ B) : RG W B' u vs F := ⟨h.own.low hB, h.len, fun i hi => (h.row i hi).low hB, h.pos, h.each⟩
theorem RG.rowAt (h : RG W B u vs F) {i : Nat} (hi : i < F.length) : Go.Sl.row (nthv vs i) = some (vblk (nthv vs i)) := row_some (by have := (h.row i hi).ints.cap; have := h.pos i hi; omega)
theorem RG.blk (h : RG W B u vs F) {i : Nat} (hi : i < F.length) : B ≤ vblk (nthv vs i) ∧ vblk (nthv vs i) < W.heap.size := (h.row i hi).lt _ (h.rowAt hi)
theorem RG.heapAt (h : RG W B u vs F) {i : Nat} (hi : i < F.length) : ∃ cur, W.heap[vblk (nthv vs i)]? = some (.cells cur 3 (0, 0)) := by
  obtain ⟨_, _, cur, hh, _⟩ := (h.row i hi).2.2 (row_eq (h.rowAt hi)).1
  exact ⟨cur, hh⟩
theorem RG.apart (h : RG W B u vs F) {i : Nat} (hi : i < F.length) : Go.Sl.row u ≠ some (vblk (nthv vs i)) := fun e => by
  obtain ⟨h0, e1⟩ := row_eq e
  obtain ⟨_, cur, hh, _⟩ := h.own.2.2 h0
  obtain ⟨cur2, hh2⟩ := h.heapAt hi
  rw [e1, hh2] at hh
  have := (Obj.cells.inj (Option.some.inj hh)).2.1
  revert this
  decide
theorem RG.rows (h : RG W B u vs F) : RowsV W u vs F := ⟨h.own.sl, h.len, fun i hi => (h.row i hi).ints⟩
theorem nthr_put {F : List (List Int)} {i j : Nat} (hj : j < F.length) (ys : List Int) : nthr (F.set i ys) j = if j = i then ys else nthr F j := by
  by_cases e : j = i
  · subst e; rw [if_pos rfl, nthr_lt (by simp; omega)]; simp
  · rw [if_neg e, nthr_lt (by simp; omega), nthr_lt hj]; simp [Ne.symm e]
theorem nthv_put {vs : List Value} {i j : Nat} (hj : j < vs.length) (q : Value) : nthv (vs.set i q) j = if j = i then q else nthv vs j := by
  by_cases e : j = i
  · subst e; rw [if_pos rfl]; simp [nthv, hj]
  · rw [if_neg e]; simp [nthv, Ne.symm e]
/-- Two rows beside each other have turned. -/
theorem RG.pair (h : RG W B u vs F) {i : Nat} (hi : i + 1 < F.length) {a b : List Int} (hc : Chd W W' (fun k => k = vblk (nthv vs i) ∨ k = vblk (nthv vs (i + 1)))) (ha : OwnI W' B (nthv vs i) a) (hb : OwnI W' B (nthv vs (i + 1)) b) (la : 0 < a.length) (lb : 0 < b.length) :
    RG W' B u vs ((F.set i a).set (i + 1) b) := by
  have hr : ∀ j, j < F.length → nthr ((F.set i a).set (i + 1) b) j = if j = i + 1 then b else if j = i then a else nthr F j := by
    intro j hj
    rw [nthr_put (by rw [List.length_set]; exact hj), nthr_put hj]
  have hk : ∀ k, Go.Sl.row u = some k → W'.heap[k]? = W.heap[k]? := by
    intro k hk
    refine hc.block k (h.own.lt k hk).2 fun e => ?_
    rcases e with e | e
    · exact h.apart (i := i) (by omega) (by rw [hk, e])
    · exact h.apart (i := i + 1) hi (by rw [hk, e])
  refine ⟨h.own.of_block hk, by simp [h.len], fun j hj => ?_, fun j hj => ?_, fun j k hjk hk => h.each j k hjk (by simpa using hk)⟩
  · simp only [List.length_set] at hj
    rw [hr j hj]
    by_cases e1 : j = i + 1
    · rw [if_pos e1, e1]; exact hb
    · rw [if_neg e1]
      by_cases e2 : j = i
      · rw [if_pos e2, e2]; exact ha
      · rw [if_neg e2]
        refine Own.of_block (h.row j hj) fun k hk => ?_
        rw [h.rowAt hj] at hk
        obtain rfl := Option.some.inj hk
        refine hc.block _ (h.blk hj).2 fun e => ?_
        rcases e with e | e
        · rcases Nat.lt_or_ge j i with g | g
          · exact h.each j i g (by omega) e
          · exact h.each i j (by omega) hj e.symm
        · rcases Nat.lt_or_ge j (i + 1) with g | g
          · exact h.each j (i + 1) g hi e
          · exact h.each (i + 1) j (by omega) hj e.symm
  · simp only [List.length_set] at hj
    rw [hr j hj]
    split
    · exact lb
    · split
      · exact la
      · exact h.pos j hj
theorem RG.tail {p : List Int} {q : Value} (h : RG W B u (q :: vs) (p :: F)) : RG W B (vcut u 1 (vlen u) (vcap u) 1) vs F := by
  refine ⟨h.own.tail, by have := h.len; simpa using this, fun i hi => ?_, fun i hi => ?_, fun i j hij hj => ?_⟩
  · have := h.row (i + 1) (by simp; omega); simpa [nthv, nthr] using this
  · have := h.pos (i + 1) (by simp; omega); simpa [nthr] using this
  · have := h.each (i + 1) (j + 1) (by omega) (by simp; omega); simpa [nthv] using this
theorem RG.head (h : RG W B u vs F) {k : Nat} (hk : k ≤ F.length) : RG W B (vcut u 0 k (vcap u) 1) (vs.take k) (F.take k) := by
  have hn : ∀ i, i < k → nthv (vs.take k) i = nthv vs i ∧ nthr (F.take k) i = nthr F i := fun i hi => by
    simp [nthv, nthr, hi]
  refine ⟨h.own.head (by rw [h.len]; exact hk), by simp [h.len], fun i hi => ?_, fun i hi => ?_, fun i j hij hj => ?_⟩
  · rw [List.length_take] at hi
    rw [(hn i (by omega)).1, (hn i (by omega)).2]; exact h.row i (by omega)
  · rw [List.length_take] at hi
    rw [(hn i (by omega)).2]; exact h.pos i (by omega)
  · rw [List.length_take] at hj
    rw [(hn i (by omega)).1, (hn j (by omega)).1]; exact h.each i j hij (by omega)
/-- A row put in the place of another. -/
theorem RG.put (h : RG W B u vs F) {i : Nat} (hi : i < F.length) (hy : OwnI W B r ys) (l0 : 0 < ys.length) (hap : Go.Sl.row u ≠ some (vblk r)) (hea : ∀ j, j < F.length → vblk (nthv vs j) ≠ vblk r) :
    RG (W.setCell (vat u i) r) B u (vs.set i r) (F.set i ys) := by
  have hl := h.len
  have h0 : 0 < vcap u := h.own.cap_of (j := i) (by omega)
  have hrr : Go.Sl.row r = some (vblk r) := row_some (by have := hy.ints.cap; omega)
  refine ⟨h.own.set (by omega) r, by simp [hl], fun j hj => ?_, fun j hj => ?_, fun j k hjk hk => ?_⟩
  · simp only [List.length_set] at hj
    rw [nthr_put hj, nthv_put (by omega)]
    split
    · refine hy.setOther (fun k hk e => hap ?_) _
      rw [row_some h0, ← hrr, hk]; rw [vat_block] at e; rw [e]
    · refine (h.row j hj).setOther (fun k hk e => h.apart hj ?_) _
      rw [row_some h0, ← h.rowAt hj, hk]; rw [vat_block] at e; rw [e]
  · simp only [List.length_set] at hj
    rw [nthr_put hj]
    split
    · exact l0
    · exact h.pos j hj
  · simp only [List.length_set] at hk
    rw [nthv_put (by omega), nthv_put (by omega)]
    split
    · rw [if_neg (by omega)]; exact (hea k hk).symm
    · split
      · exact hea j (by omega)
      · exact h.each j k hjk hk
end
theorem rg_nil (W : World) (B : Nat) : RG W B (.slice none 0 0) [] [] := ⟨ownG_nil _ _ _, rfl, fun i hi => by simp at hi, fun i hi => by simp at hi, fun i j _ hj => by simp at hj⟩

/-- The box. -/
structure Frm (W : World) (B bx : Nat) (n : Nat) (p : Int) (v : Value) (vs : List Value) (F : List (List Int)) : Prop where
  box : W.heap[bx]? = some (.cells #[.int .i64 n, .int .i64 p, v] 50 (0, 0))
  rows : RG W B v vs F
  ge : B ≤ bx
section
variable {W W' : World} {B bx n : Nat} {p : Int} {v : Value} {vs : List Value} {F : List (List Int)}
theorem Frm.lt (h : Frm W B bx n p v vs F) : bx < W.heap.size := (Array.getElem?_eq_some_iff.1 h.box).1
theorem Frm.below (h : Frm W B bx n p v vs F) (hb : Below W.heap.size W W') : Frm W' B bx n p v vs F := ⟨(hb.block _ h.lt).trans h.box, h.rows.below hb, h.ge⟩
theorem Frm.c0 (h : Frm W B bx n p v vs F) : W.cell? ⟨bx, 0, none⟩ = some (.int .i64 n) := by simp [World.cell?, h.box]
theorem Frm.c1 (h : Frm W B bx n p v vs F) : W.cell? ⟨bx, 1, none⟩ = some (.int .i64 p) := by simp [World.cell?, h.box]
theorem Frm.c2 (h : Frm W B bx n p v vs F) : W.cell? ⟨bx, 2, none⟩ = some v := by simp [World.cell?, h.box]
theorem Frm.f0 (h : Frm W B bx n p v vs F) (k : Nat) : W.frozen? ⟨bx, k, none⟩ = false := by simp [World.frozen?, h.box]
theorem Frm.rowNe (h : Frm W B bx n p v vs F) {i : Nat} (hi : i < F.length) : bx ≠ vblk (nthv vs i) := fun e => by
  obtain ⟨cur2, hh2⟩ := h.rows.heapAt hi
  rw [← e, h.box] at hh2
  have := (Obj.cells.inj (Option.some.inj hh2)).2.1
  revert this
  decide
theorem box_row {W : World} {B bx : Nat} {v : Value} {vs cs : List Value} (hb : W.heap[bx]? = some (.cells cs.toArray 50 (0, 0))) (h : OwnG W B 22 v vs) : Go.Sl.row v ≠ some bx := fun e => by
  obtain ⟨h0, e1⟩ := row_eq e
  obtain ⟨_, cur, hh, _⟩ := h.2.2 h0
  rw [e1, hb] at hh
  have := (Obj.cells.inj (Option.some.inj hh)).2.1
  revert this
  decide
theorem Frm.slNe (h : Frm W B bx n p v vs F) : Go.Sl.row v ≠ some bx := box_row (cs := [.int .i64 n, .int .i64 p, v]) h.box h.rows.own
/-- The slice of the box is put anew: the rows are told of the world ahead of the store. -/
theorem Frm.putRows (h : Frm W B bx n p v vs F) {v' : Value} {vs' : List Value} {F' : List (List Int)} (hr : RG W B v' vs' F') : Frm (W.setCell ⟨bx, 2, none⟩ v') B bx n p v' vs' F' := by
  have hbx : ∀ i, i < F'.length → bx ≠ vblk (nthv vs' i) := fun i hi e => by
    obtain ⟨cur2, hh2⟩ := hr.heapAt hi
    rw [← e, h.box] at hh2
    have := (Obj.cells.inj (Option.some.inj hh2)).2.1
    revert this
    decide
  refine ⟨by simp [World.setCell, Array.getElem?_modify, h.box], ⟨hr.own.setOther (fun k hk e => ?_) _, hr.len, fun i hi => (hr.row i hi).setOther (fun k hk e => ?_) _, hr.pos, hr.each⟩, h.ge⟩
  · exact box_row (cs := [.int .i64 n, .int .i64 p, v]) h.box hr.own (by rw [hk, ← e])
  · rw [hr.rowAt hi] at hk
    exact hbx i hi (e.trans (Option.some.inj hk).symm)
theorem Frm.putPower (h : Frm W B bx n p v vs F) (q : Int) : Frm (W.setCell ⟨bx, 1, none⟩ (.int .i64 q)) B bx n q v vs F := by
  refine ⟨by simp [World.setCell, Array.getElem?_modify, h.box], ⟨h.rows.own.setOther (fun k hk e => ?_) _, h.rows.len, fun i hi => (h.rows.row i hi).setOther (fun k hk e => ?_) _, h.rows.pos, h.rows.each⟩, h.ge⟩
  · exact h.slNe (by rw [hk, ← e])
  · rw [h.rows.rowAt hi] at hk
    exact h.rowNe hi (e.trans (Option.some.inj hk).symm)
end

end Go.Proofs.Ytnmklkjlcpgjmaa

