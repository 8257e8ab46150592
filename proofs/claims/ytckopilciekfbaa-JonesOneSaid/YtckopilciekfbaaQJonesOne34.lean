/- temperleylieb: Check, Closure, Product, walked. -/
import Derived.Test.YtckopilciekfbaaQJonesOne0
import Derived.Test.YtckopilciekfbaaQJonesOne1
import Derived.Test.YtckopilciekfbaaQJonesOne5
import Derived.Test.YtckopilciekfbaaQJonesOne6
import Derived.Test.YtckopilciekfbaaQJonesOne7
import Derived.Test.YtckopilciekfbaaQJonesOne8
import Derived.Test.YtckopilciekfbaaQJonesOne9
import Derived.Test.YtckopilciekfbaaQJonesOne10
import Derived.Test.YtckopilciekfbaaQJonesOne13
import Derived.Test.YtckopilciekfbaaQJonesOne14
import Derived.Test.YtckopilciekfbaaQJonesOne15
import Derived.Test.YtckopilciekfbaaQJonesOne16
import Derived.Test.YtckopilciekfbaaQJonesOne17
import Derived.Test.YtckopilciekfbaaQJonesOne18
import Derived.Test.YtckopilciekfbaaQJonesOne19
import Derived.Test.YtckopilciekfbaaQJonesOne20
import Derived.Test.YtckopilciekfbaaQJonesOne22
import Derived.Test.YtckopilciekfbaaQJonesOne23
import Derived.Test.YtckopilciekfbaaQJonesOne24
import Derived.Test.YtckopilciekfbaaQJonesOne25
import Derived.Test.YtckopilciekfbaaQJonesOne26
import Derived.Test.YtckopilciekfbaaQJonesOne27
import Derived.Test.YtckopilciekfbaaQJonesOne28
import Derived.Test.YtckopilciekfbaaQJonesOne29
import Derived.Test.YtckopilciekfbaaQJonesOne30
import Derived.RangeFuncNested
import Derived.RangeFuncBound
import Derived.RangeFuncCalls
import Derived.RangeFuncLeaves
import Derived.RangeFuncBox
import Derived.Shelf.Abstract
import Derived.Shelf.RegionOpen
import Derived.OwnWalkIn
import Derived.TacticsInMore
import Derived.LoopNIn
import Derived.LoopIn
import Derived.Maps.AppendAt
import Derived.Deep.RegionLaw
namespace Go.Proofs.Ytckopilciekfbaa
open Go.RowKit Go.Sl

def aroundL (n : Nat) : List Nat := List.range n ++ (List.range n).map fun i => 2 * n - 1 - i
end Go.Proofs.Ytckopilciekfbaa

namespace Go.Proofs.Ytckopilciekfbaa
open Go.RowKit Go.Sl

/-- One step of planar: what is open. -/
def openS (d : List Nat) (O : List Nat) (p : Nat) : List Nat := if 1 ≤ O.length ∧ O.getD (O.length - 1) 0 = d.getD p 0 then O.take (O.length - 1) else O ++ [p]
def opens (n : Nat) (d : List Nat) (k : Nat) : List Nat := ((aroundL n).take k).foldl (openS d) []
def planarL (n : Nat) (d : List Nat) : Bool := (opens n d (2 * n)).length == 0
end Go.Proofs.Ytckopilciekfbaa

namespace Go.Proofs.Ytckopilciekfbaa
open Go.RowKit Go.Sl

structure TOk (n : Nat) (D : List Nat) : Prop where
  len : D.length = 2 * n
  lt : ∀ i, i < 2 * n → D.getD i 0 < 2 * n
  ne : ∀ i, i < 2 * n → D.getD i 0 ≠ i
  inv : ∀ i, i < 2 * n → D.getD (D.getD i 0) 0 = i
  planar : planarL n D = true
def tokB (n : Nat) (D : List Nat) : Bool := D.length == 2 * n && (List.range (2 * n)).all (fun i => decide (D.getD i 0 < 2 * n) && (D.getD i 0 != i && D.getD (D.getD i 0) 0 == i)) && planarL n D
theorem TOk.of {n : Nat} {D : List Nat} (h : tokB n D = true) : TOk n D := by
  unfold tokB at h
  simp only [Bool.and_eq_true, List.all_eq_true, List.mem_range, decide_eq_true_eq, beq_iff_eq, bne_iff_ne] at h
  exact ⟨h.1.1, fun i hi => (h.1.2 i hi).1, fun i hi => (h.1.2 i hi).2.1, fun i hi => (h.1.2 i hi).2.2, h.2⟩

end Go.Proofs.Ytckopilciekfbaa

