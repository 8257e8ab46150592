/- ringing: ring, rows, Rows, LeadHead walked. -/
import Derived.Test.YtplekfgadbjgdaaQMatchingCounts0
import Derived.Test.YtplekfgadbjgdaaQMatchingCounts1
import Derived.Test.YtplekfgadbjgdaaQMatchingCounts10
import Derived.Test.YtplekfgadbjgdaaQMatchingCounts11
import Derived.Test.YtplekfgadbjgdaaQMatchingCounts12
import Derived.Test.YtplekfgadbjgdaaQMatchingCounts13
import Derived.Test.YtplekfgadbjgdaaQMatchingCounts14
import Derived.Test.YtplekfgadbjgdaaQMatchingCounts15
import Derived.Test.YtplekfgadbjgdaaQMatchingCounts17
import Derived.Shelf.Abstract
import Derived.RangeFuncNested
import Derived.RangeFuncBound
import Derived.RangeFuncCalls
import Derived.RangeFuncLeaves
import Derived.RangeFuncBox
import Derived.Shelf.RegionOpen
import Derived.OwnWalkIn
import Derived.TacticsInMore
import Derived.LoopNIn
import Derived.LoopIn
import Derived.Maps.AppendAt
import Derived.Deep.RegionLaw
namespace Go.Proofs.Ytplekfgadbjgdaa
open Go.RowKit Go.Sl

/-- A right braid word. -/
def BWord (n : Int) (xs : List Int) : Prop := ∀ x ∈ xs, x ≠ 0 ∧ -n < x ∧ x < n
theorem BWord.small {n : Int} {xs : List Int} (hn : n ≤ 1000) (h : BWord n xs) : ∀ x ∈ xs, -1000 ≤ x ∧ x ≤ 1000 := fun x hx => by have := h x hx; omega
theorem BWord.inv {n : Int} {xs : List Int} (h : BWord n xs) : BWord n (invL xs) := by
  intro x hx
  unfold invL at hx
  obtain ⟨y, hy, rfl⟩ := List.mem_map.1 (List.mem_reverse.1 hx)
  have := h y hy
  omega
theorem BWord.append {n : Int} {xs ys : List Int} (h : BWord n xs) (k : BWord n ys) : BWord n (xs ++ ys) := fun x hx => (List.mem_append.1 hx).elim (h x) (k x)
end Go.Proofs.Ytplekfgadbjgdaa

namespace Go.Proofs.Ytplekfgadbjgdaa
open Go.RowKit Go.Sl

theorem own_ne {w : World} {B B' : Nat} {e e' : TypeId} {v u : Value} {cs ds : List Value} (h : Go.Sl.Own w B e 1 v cs) (k : Go.Sl.Own w B' e' 1 u ds) (hc : 0 < cs.length) (hd : 0 < ds.length) (he : e ≠ e') : vblk v ≠ vblk u := by
  intro heq
  obtain ⟨cur, hg, -⟩ := Go.Sl.Own.getCell h hc
  obtain ⟨cur', hg', -⟩ := Go.Sl.Own.getCell k hd
  rw [heq, hg'] at hg
  injection hg with hg
  injection hg with h1 h2
  exact he h2.symm
theorem wpList_makeV {w : World} {ops : Array Oper} {rest : List Oper} {o : Oper} {a : Act} {Q : Exit → Act → World → Prop} (hgd : o.guard = none) (l c : Operand) (ho : o.op = Op.makeSlice 24 l c)
    (L C : Int) (n : Nat) (hl : a.eval l = .int .i64 L) (hc : a.eval c = .int .i64 C) (hL : L = (n : Int)) (hC : C = (n : Int)) (hm : n ≤ 1000000)
    (h : ∀ v' w', Go.Sl.Own w' w.heap.size 22 1 v' (List.replicate n (.slice none 0 0)) → w.grownBy w' none → vlen v' = n → w'.heap.size = w.heap.size + 1 → wpList Try.prog ops Q rest (a.put o.dst v') w') : wpList Try.prog ops Q (o :: rest) a w := by
  obtain ⟨i, hi, hz0, hz1, hz2⟩ := info_parts info_slice
  exact wpList_make_sl hgd l c _ ho 22 i (.slice none 0 0) 24 Try.underlying24 hi hz0 hz1 hz2 rfl L C n hl hc hL hC (by omega) (by simp only [maxLen]; omega) h

theorem zero_set {w : World} {B B' : Nat} {v u : Value} {j : Nat} (h : OwnI w B v [0, 0]) (k : OwnI w B' u [0, 0]) (hj : j < 2) : OwnI (w.setCell (vat u j) (.int .i64 0)) B v [0, 0] := by
  by_cases hb : vblk v = vblk u
  · have e : vat u j = vat v j := by
      obtain ⟨_, _, _, h0, -⟩ := Go.Sl.Own.getCell h (j := 0) (by simp)
      obtain ⟨_, _, _, k0, -⟩ := Go.Sl.Own.getCell k (j := 0) (by simp)
      unfold vat
      rw [hb, h0, k0]
    rw [e]
    have := h.set (k := j) (by simpa using hj) 0
    have e2 : [0, 0].set j (0 : Int) = [0, 0] := by
      have : j = 0 ∨ j = 1 := by omega
      rcases this with rfl | rfl <;> rfl
    rwa [e2] at this
  · exact h.setOther (fun k hk e => hb (by rw [vat_block] at e; rw [e]; exact (row_eq hk).2)) _

/-- A matrix of two rows of two zeros, all of the call's own. -/
structure ZM (w : World) (B0 B2 : Nat) (mv : Value) (vs : List Value) : Prop where
  own : Go.Sl.Own w B0 22 1 mv vs
  len : vs.length = 2
  rows : ∀ j, j < 2 → OwnI w B0 (nthv vs j) [0, 0]
  blk : ∀ j, j < 2 → vblk (nthv vs j) < B2
theorem ZM.below {w w' : World} {B0 B2 : Nat} {mv : Value} {vs : List Value} (h : ZM w B0 B2 mv vs) (hb : Below w.heap.size w w') : ZM w' B0 B2 mv vs :=
  ⟨h.own.below hb, h.len, fun j hj => (h.rows j hj).below hb, h.blk⟩
theorem ZM.store {w : World} {B0 B2 : Nat} {mv : Value} {vs : List Value} (h : ZM w B0 B2 mv vs) {j k : Nat} (hj : j < 2) (hk : k < 2) : ZM (w.setCell (vat (nthv vs j) k) (.int .i64 0)) B0 B2 mv vs :=
  ⟨h.own.setOther (fun b hb e => own_ne h.own (h.rows j hj) (by rw [h.len]; decide) (by simp) (by decide) (by rw [vat_block] at e; rw [e]; exact (row_eq hb).2)) _, h.len,
    fun i hi => zero_set (h.rows i hi) (h.rows j hj) hk, h.blk⟩
theorem ZM.rows2 {w : World} {B0 B2 : Nat} {mv : Value} {vs : List Value} (h : ZM w B0 B2 mv vs) : Rows2 w mv [[0, 0], [0, 0]] := by
  refine ⟨vs, h.own.sl, by simp [h.len], fun i hi => ?_⟩
  have hi : i < 2 := by simpa using hi
  have := (h.rows i hi).ints
  have e : nthr [[0, 0], [0, 0]] i = [0, 0] := by
    have : i = 0 ∨ i = 1 := by omega
    rcases this with rfl | rfl <;> rfl
  rw [e]; exact this

end Go.Proofs.Ytplekfgadbjgdaa

namespace Go.Proofs.Ytplekfgadbjgdaa
open Go.RowKit Go.Sl

/-- A right change of m + 1 bells. -/
def Chg (m : Nat) (c : Int) : Prop := ∃ q : Nat, c = q ∧ q < 2 ^ m ∧ q < 64 ∧ q &&& (2 * q) = 0
theorem apart_of : ∀ q : Fin 64, q.val &&& (2 * q.val) = 0 → ∀ j : Fin 6, q.val.testBit j.val = true → q.val.testBit (j.val + 1) = false := by decide +kernel
theorem Chg.apart {m : Nat} {c : Int} (h : Chg m c) : Apart c.toNat := by
  obtain ⟨q, rfl, -, hq, h0⟩ := h
  rw [Int.toNat_natCast]
  intro j hj
  by_cases hj6 : j < 6
  · exact apart_of ⟨q, hq⟩ h0 ⟨j, hj6⟩ hj
  · have : q < 2 ^ j := Nat.lt_of_lt_of_le hq (Nat.le_trans (by decide : 64 ≤ 2 ^ 6) (Nat.pow_le_pow_right (by omega) (by omega)))
    rw [Nat.testBit_lt_two_pow this] at hj
    cases hj

end Go.Proofs.Ytplekfgadbjgdaa

namespace Go.Proofs.Ytplekfgadbjgdaa
open Go.RowKit Go.Sl

/-- The call's own slice of the call's own rows, none empty, each in a block of its own. -/
structure RO (W : World) (B : Nat) (v : Value) (vs : List Value) (xss : List (List Int)) : Prop where
  own : Go.Sl.Own W B 22 1 v vs
  len : vs.length = xss.length
  row : ∀ i, i < xss.length → OwnI W B (nthv vs i) (nthr xss i)
  pos : ∀ i, i < xss.length → 0 < (nthr xss i).length
  apart : ∀ i, i < xss.length → Go.Sl.row v ≠ some (vblk (nthv vs i))
  each : ∀ i j, i < j → j < xss.length → vblk (nthv vs i) ≠ vblk (nthv vs j)
section
variable {W W' : World} {B : Nat} {u r : Value} {vs : List Value} {xss : List (List Int)} {ys : List Int}
theorem RO.rows (h : RO W B u vs xss) : RowsV W u vs xss := ⟨h.own.sl, h.len, fun i hi => (h.row i hi).ints⟩
theorem RO.below (h : RO W B u vs xss) (hb : Below W.heap.size W W') : RO W' B u vs xss := ⟨h.own.below hb, h.len, fun i hi => (h.row i hi).below hb, h.pos, h.apart, h.each⟩
theorem RO.low {B' : Nat} (h : RO W B u vs xss) (hB : B' ≤ B) : RO W B' u vs xss := ⟨h.own.low hB, h.len, fun i hi => (h.row i hi).low hB, h.pos, h.apart, h.each⟩
theorem RO.rowAt (h : RO W B u vs xss) {i : Nat} (hi : i < xss.length) : Go.Sl.row (nthv vs i) = some (vblk (nthv vs i)) := row_some (by have := (h.row i hi).ints.cap; have := h.pos i hi; omega)
theorem RO.blk (h : RO W B u vs xss) {i : Nat} (hi : i < xss.length) : B ≤ vblk (nthv vs i) ∧ vblk (nthv vs i) < W.heap.size := (h.row i hi).lt _ (h.rowAt hi)
end
end Go.Proofs.Ytplekfgadbjgdaa

