/- slices.Concat of rows of polynomials, walked (slices.Grow of nil with it). -/
import Derived.Test.YtckopilciekfbaaQColorCounts20
import Derived.Test.YtckopilciekfbaaQColorCounts21
import Derived.Test.YtckopilciekfbaaQColorCounts22
import Derived.Test.YtckopilciekfbaaQColorCounts23
import Derived.Test.YtckopilciekfbaaQColorCounts24
import Derived.Test.YtckopilciekfbaaQColorCounts25
import Derived.Test.YtckopilciekfbaaQColorCounts26
import Derived.Test.YtckopilciekfbaaQColorCounts27
import Derived.Test.YtckopilciekfbaaQColorCounts28
import Derived.Test.YtckopilciekfbaaQColorCounts210
import Derived.Test.YtckopilciekfbaaQColorCounts211
import Derived.Test.YtckopilciekfbaaQColorCounts212
import Derived.Test.YtckopilciekfbaaQColorCounts213
import Derived.Test.YtckopilciekfbaaQColorCounts214
import Derived.Test.YtckopilciekfbaaQColorCounts219
import Derived.Test.YtckopilciekfbaaQColorCounts227
import Derived.Lib.AppendZeros
import Derived.Lib.Walk
import Derived.RangeFuncNested
import Derived.RangeFuncBound
import Derived.RangeFuncCalls
import Derived.RangeFuncLeaves
import Derived.RangeFuncBox
import Derived.Shelf.Abstract
import Derived.Shelf.RegionOpen
import Derived.OwnWalkIn
import Derived.TacticsInMore
import Derived.LoopNIn
import Derived.LoopIn
import Derived.Maps.AppendAt
import Derived.Deep.CutRange
namespace Go.Proofs.Ytckopilciekfbaa
open Go.RowKit Go.Sl

def nthc (css : List (List Value)) (i : Nat) : List Value := css.getD i []
/-- A slice of slices of polynomials, each with its cells. -/
structure RowsC (w : World) (v : Value) (vs : List Value) (css : List (List Value)) : Prop where
  sl : Sl w v 1 vs
  len : vs.length = css.length
  row : ∀ i, i < css.length → Sl w (nthv vs i) 2 (nthc css i)
  one : ∀ i, i < css.length → ∀ u ∈ nthc css i, u.oneCell' = true
theorem RowsC.vlen {w : World} {v : Value} {vs : List Value} {css : List (List Value)} (h : RowsC w v vs css) : Go.Sl.vlen v = css.length := by have := h.sl.2.1; rw [h.len] at this; omega
theorem RowsC.cell {w : World} {v : Value} {vs : List Value} {css : List (List Value)} (h : RowsC w v vs css) {i : Nat} (hi : i < css.length) : w.cell? (vat v i) = some (nthv vs i) := by
  rw [nthv_lt (by rw [h.len]; exact hi)]; exact h.sl.cell (by rw [h.len]; exact hi)
theorem RowsC.below {w w' : World} {v : Value} {vs : List Value} {css : List (List Value)} (h : RowsC w v vs css) (hb : Below w.heap.size w w') : RowsC w' v vs css :=
  ⟨h.sl.below hb, h.len, fun i hi => (h.row i hi).below hb, h.one⟩
end Go.Proofs.Ytckopilciekfbaa

