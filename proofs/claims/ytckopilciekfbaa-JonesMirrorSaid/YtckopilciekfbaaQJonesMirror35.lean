/- The images of the generators: conjugates of generators, as the permutation says; their product. -/
import Derived.Test.YtckopilciekfbaaQJonesMirror0
import Derived.Test.YtckopilciekfbaaQJonesMirror1
import Derived.Test.YtckopilciekfbaaQJonesMirror3
import Derived.Test.YtckopilciekfbaaQJonesMirror4
import Derived.Test.YtckopilciekfbaaQJonesMirror5
import Derived.Test.YtckopilciekfbaaQJonesMirror6
import Derived.Test.YtckopilciekfbaaQJonesMirror7
import Derived.Test.YtckopilciekfbaaQJonesMirror8
import Derived.Test.YtckopilciekfbaaQJonesMirror10
import Derived.Test.YtckopilciekfbaaQJonesMirror15
import Derived.Test.YtckopilciekfbaaQJonesMirror16
import Derived.Test.YtckopilciekfbaaQJonesMirror17
import Derived.Test.YtckopilciekfbaaQJonesMirror19
import Derived.Test.YtckopilciekfbaaQJonesMirror28
import Derived.RangeFuncNested
import Derived.RangeFuncCalls
import Derived.OrdersIn
import Derived.OrdersHeld
import Derived.Deep.RegionHeld
import Derived.Deep.RegionLaw
namespace Go.Proofs.Ytckopilciekfbaa
open Go.RowKit Go.Sl

/-- The word is a conjugate of the generator. -/
def Cj (r : List Int) (m : Nat) : Prop := ∃ y, IsWord y ∧ r = redL (y ++ [(m : Int) + 1] ++ invL y)
theorem Cj.word {r : List Int} {m : Nat} (h : Cj r m) (hm : m < 6) : IsWord r := by
  obtain ⟨y, hy, rfl⟩ := h
  refine ((hy.append ?_).append hy.inv).red
  intro x hx
  simp at hx
  omega
end Go.Proofs.Ytckopilciekfbaa

