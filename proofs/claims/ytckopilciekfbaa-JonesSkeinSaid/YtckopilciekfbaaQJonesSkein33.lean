/- The images of the generators: conjugates of generators, as the permutation says; their product. -/
import Derived.Test.YtckopilciekfbaaQJonesSkein0
import Derived.Test.YtckopilciekfbaaQJonesSkein1
import Derived.Test.YtckopilciekfbaaQJonesSkein3
import Derived.Test.YtckopilciekfbaaQJonesSkein4
import Derived.Test.YtckopilciekfbaaQJonesSkein5
import Derived.Test.YtckopilciekfbaaQJonesSkein6
import Derived.Test.YtckopilciekfbaaQJonesSkein7
import Derived.Test.YtckopilciekfbaaQJonesSkein8
import Derived.Test.YtckopilciekfbaaQJonesSkein10
import Derived.Test.YtckopilciekfbaaQJonesSkein15
import Derived.Test.YtckopilciekfbaaQJonesSkein16
import Derived.Test.YtckopilciekfbaaQJonesSkein18
import Derived.Test.YtckopilciekfbaaQJonesSkein27
import Derived.Deep.RegionLaw
import Derived.RangeFuncNested
import Derived.RangeFuncCalls
import Derived.OrdersIn
import Derived.OrdersHeld
import Derived.Deep.RegionHeld
import Derived.RangeFuncBound
import Derived.RangeFuncLeaves
import Derived.RangeFuncBox
import Derived.Shelf.Abstract
import Derived.Shelf.RegionOpen
import Derived.OwnWalkIn
import Derived.TacticsInMore
import Derived.LoopNIn
import Derived.LoopIn
import Derived.Maps.AppendAt
namespace Go.Proofs.Ytckopilciekfbaa
open Go.RowKit Go.Sl

/-- The word is a conjugate of the generator. -/
def Cj (r : List Int) (m : Nat) : Prop := ∃ y, IsWord y ∧ r = redL (y ++ [(m : Int) + 1] ++ invL y)
theorem Cj.word {r : List Int} {m : Nat} (h : Cj r m) (hm : m < 6) : IsWord r := by
  obtain ⟨y, hy, rfl⟩ := h
  refine ((hy.append ?_).append hy.inv).red
  intro x hx
  simp at hx
  omega
end Go.Proofs.Ytckopilciekfbaa

