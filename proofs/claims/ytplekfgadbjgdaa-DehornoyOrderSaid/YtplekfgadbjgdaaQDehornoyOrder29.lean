/- The images of the generators: conjugates of generators, as the permutation says; their product. -/
import Derived.Test.YtplekfgadbjgdaaQDehornoyOrder0
import Derived.Test.YtplekfgadbjgdaaQDehornoyOrder1
import Derived.Test.YtplekfgadbjgdaaQDehornoyOrder2
import Derived.Test.YtplekfgadbjgdaaQDehornoyOrder3
import Derived.Test.YtplekfgadbjgdaaQDehornoyOrder4
import Derived.Test.YtplekfgadbjgdaaQDehornoyOrder5
import Derived.Test.YtplekfgadbjgdaaQDehornoyOrder6
import Derived.Test.YtplekfgadbjgdaaQDehornoyOrder7
import Derived.Test.YtplekfgadbjgdaaQDehornoyOrder8
import Derived.Test.YtplekfgadbjgdaaQDehornoyOrder10
import Derived.Test.YtplekfgadbjgdaaQDehornoyOrder11
import Derived.Test.YtplekfgadbjgdaaQDehornoyOrder12
import Derived.Test.YtplekfgadbjgdaaQDehornoyOrder13
import Derived.Test.YtplekfgadbjgdaaQDehornoyOrder14
import Derived.Test.YtplekfgadbjgdaaQDehornoyOrder16
import Derived.Test.YtplekfgadbjgdaaQDehornoyOrder21
import Derived.Test.YtplekfgadbjgdaaQDehornoyOrder28
import Derived.RangeFuncNested
import Derived.RangeFuncCalls
import Derived.OrdersIn
import Derived.OrdersHeld
import Derived.Deep.RegionHeld
namespace Go.Proofs.Ytplekfgadbjgdaa
open Go.RowKit Go.Sl

/-- The word is a conjugate of the generator. -/
def Cj (r : List Int) (m : Nat) : Prop := ∃ y, IsWord y ∧ r = redL (y ++ [(m : Int) + 1] ++ invL y)
theorem Cj.word {r : List Int} {m : Nat} (h : Cj r m) (hm : m < 6) : IsWord r := by
  obtain ⟨y, hy, rfl⟩ := h
  refine ((hy.append ?_).append hy.inv).red
  intro x hx
  simp at hx
  omega
end Go.Proofs.Ytplekfgadbjgdaa

