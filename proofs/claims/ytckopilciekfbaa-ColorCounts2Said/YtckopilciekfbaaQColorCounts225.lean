/- ringing: ring, rows, Rows, LeadHead walked. -/
import Derived.Test.YtckopilciekfbaaQColorCounts20
import Derived.Test.YtckopilciekfbaaQColorCounts21
import Derived.Test.YtckopilciekfbaaQColorCounts22
import Derived.Test.YtckopilciekfbaaQColorCounts23
import Derived.Test.YtckopilciekfbaaQColorCounts24
import Derived.Test.YtckopilciekfbaaQColorCounts25
import Derived.Test.YtckopilciekfbaaQColorCounts210
import Derived.Test.YtckopilciekfbaaQColorCounts211
import Derived.Test.YtckopilciekfbaaQColorCounts213
import Derived.Test.YtckopilciekfbaaQColorCounts215
import Derived.Shelf.Abstract
namespace Go.Proofs.Ytckopilciekfbaa
open Go.RowKit Go.Sl

/-- A right change of m + 1 bells. -/
def Chg (m : Nat) (c : Int) : Prop := ∃ q : Nat, c = q ∧ q < 2 ^ m ∧ q < 64 ∧ q &&& (2 * q) = 0
theorem apart_of : ∀ q : Fin 64, q.val &&& (2 * q.val) = 0 → ∀ j : Fin 6, q.val.testBit j.val = true → q.val.testBit (j.val + 1) = false := by decide +kernel
theorem Chg.apart {m : Nat} {c : Int} (h : Chg m c) : Apart c.toNat := by
  obtain ⟨q, rfl, -, hq, h0⟩ := h
  rw [Int.toNat_natCast]
  intro j hj
  by_cases hj6 : j < 6
  · exact apart_of ⟨q, hq⟩ h0 ⟨j, hj6⟩ hj
  · have : q < 2 ^ j := Nat.lt_of_lt_of_le hq (Nat.le_trans (by decide : 64 ≤ 2 ^ 6) (Nat.pow_le_pow_right (by omega) (by omega)))
    rw [Nat.testBit_lt_two_pow this] at hj
    cases hj

end Go.Proofs.Ytckopilciekfbaa

namespace Go.Proofs.Ytckopilciekfbaa
open Go.RowKit Go.Sl

/-- The call's own slice of the call's own rows, none empty, each in a block of its own. -/
structure RO (W : World) (B : Nat) (v : Value) (vs : List Value) (xss : List (List Int)) : Prop where
  own : Go.Sl.Own W B 22 1 v vs
  len : vs.length = xss.length
  row : ∀ i, i < xss.length → OwnI W B (nthv vs i) (nthr xss i)
  pos : ∀ i, i < xss.length → 0 < (nthr xss i).length
  apart : ∀ i, i < xss.length → Go.Sl.row v ≠ some (vblk (nthv vs i))
  each : ∀ i j, i < j → j < xss.length → vblk (nthv vs i) ≠ vblk (nthv vs j)
section
variable {W W' : World} {B : Nat} {u r : Value} {vs : List Value} {xss : List (List Int)} {ys : List Int}
theorem RO.rows (h : RO W B u vs xss) : RowsV W u vs xss := ⟨h.own.sl, h.len, fun i hi => (h.row i hi).ints⟩
theorem RO.below (h : RO W B u vs xss) (hb : Below W.heap.size W W') : RO W' B u vs xss := ⟨h.own.below hb, h.len, fun i hi => (h.row i hi).below hb, h.pos, h.apart, h.each⟩
theorem RO.low {B' : Nat} (h : RO W B u vs xss) (hB : B' ≤ B) : RO W B' u vs xss := ⟨h.own.low hB, h.len, fun i hi => (h.row i hi).low hB, h.pos, h.apart, h.each⟩
theorem RO.rowAt (h : RO W B u vs xss) {i : Nat} (hi : i < xss.length) : Go.Sl.row (nthv vs i) = some (vblk (nthv vs i)) := row_some (by have := (h.row i hi).ints.cap; have := h.pos i hi; omega)
theorem RO.blk (h : RO W B u vs xss) {i : Nat} (hi : i < xss.length) : B ≤ vblk (nthv vs i) ∧ vblk (nthv vs i) < W.heap.size := (h.row i hi).lt _ (h.rowAt hi)
end
end Go.Proofs.Ytckopilciekfbaa

