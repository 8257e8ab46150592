/- The images of the generators: conjugates of generators, as the permutation says; their product. -/
import Derived.Test.YtplekfgadbjgdaaQDehornoySigns0
import Derived.Test.YtplekfgadbjgdaaQDehornoySigns1
import Derived.Test.YtplekfgadbjgdaaQDehornoySigns2
import Derived.Test.YtplekfgadbjgdaaQDehornoySigns3
import Derived.Test.YtplekfgadbjgdaaQDehornoySigns4
import Derived.Test.YtplekfgadbjgdaaQDehornoySigns5
import Derived.Test.YtplekfgadbjgdaaQDehornoySigns6
import Derived.Test.YtplekfgadbjgdaaQDehornoySigns7
import Derived.Test.YtplekfgadbjgdaaQDehornoySigns8
import Derived.Test.YtplekfgadbjgdaaQDehornoySigns9
import Derived.Test.YtplekfgadbjgdaaQDehornoySigns11
import Derived.Test.YtplekfgadbjgdaaQDehornoySigns12
import Derived.Test.YtplekfgadbjgdaaQDehornoySigns13
import Derived.Test.YtplekfgadbjgdaaQDehornoySigns14
import Derived.Test.YtplekfgadbjgdaaQDehornoySigns16
import Derived.Test.YtplekfgadbjgdaaQDehornoySigns21
import Derived.Test.YtplekfgadbjgdaaQDehornoySigns27
import Derived.RangeFuncNested
import Derived.RangeFuncCalls
import Derived.OrdersIn
import Derived.OrdersHeld
import Derived.Deep.RegionHeld
namespace Go.Proofs.Ytplekfgadbjgdaa
open Go.RowKit Go.Sl

/-- The word is a conjugate of the generator. -/
def Cj (r : List Int) (m : Nat) : Prop := ∃ y, IsWord y ∧ r = redL (y ++ [(m : Int) + 1] ++ invL y)
theorem Cj.word {r : List Int} {m : Nat} (h : Cj r m) (hm : m < 6) : IsWord r := by
  obtain ⟨y, hy, rfl⟩ := h
  refine ((hy.append ?_).append hy.inv).red
  intro x hx
  simp at hx
  omega
end Go.Proofs.Ytplekfgadbjgdaa

