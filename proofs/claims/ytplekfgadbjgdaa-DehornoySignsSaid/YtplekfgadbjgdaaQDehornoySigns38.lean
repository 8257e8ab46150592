/- garside.NormalForm walked. -/
import Derived.Test.YtplekfgadbjgdaaQDehornoySigns0
import Derived.Test.YtplekfgadbjgdaaQDehornoySigns1
import Derived.Test.YtplekfgadbjgdaaQDehornoySigns2
import Derived.Test.YtplekfgadbjgdaaQDehornoySigns3
import Derived.Test.YtplekfgadbjgdaaQDehornoySigns4
import Derived.Test.YtplekfgadbjgdaaQDehornoySigns5
import Derived.Test.YtplekfgadbjgdaaQDehornoySigns6
import Derived.Test.YtplekfgadbjgdaaQDehornoySigns7
import Derived.Test.YtplekfgadbjgdaaQDehornoySigns8
import Derived.Test.YtplekfgadbjgdaaQDehornoySigns9
import Derived.Test.YtplekfgadbjgdaaQDehornoySigns10
import Derived.Test.YtplekfgadbjgdaaQDehornoySigns11
import Derived.Test.YtplekfgadbjgdaaQDehornoySigns12
import Derived.Test.YtplekfgadbjgdaaQDehornoySigns13
import Derived.Test.YtplekfgadbjgdaaQDehornoySigns14
import Derived.Test.YtplekfgadbjgdaaQDehornoySigns16
import Derived.Test.YtplekfgadbjgdaaQDehornoySigns19
import Derived.Test.YtplekfgadbjgdaaQDehornoySigns20
import Derived.Test.YtplekfgadbjgdaaQDehornoySigns21
import Derived.Test.YtplekfgadbjgdaaQDehornoySigns27
import Derived.Test.YtplekfgadbjgdaaQDehornoySigns28
import Derived.Test.YtplekfgadbjgdaaQDehornoySigns29
import Derived.Test.YtplekfgadbjgdaaQDehornoySigns30
import Derived.Test.YtplekfgadbjgdaaQDehornoySigns31
import Derived.Test.YtplekfgadbjgdaaQDehornoySigns32
import Derived.Test.YtplekfgadbjgdaaQDehornoySigns33
import Derived.Test.YtplekfgadbjgdaaQDehornoySigns34
import Derived.Test.YtplekfgadbjgdaaQDehornoySigns35
import Derived.Test.YtplekfgadbjgdaaQDehornoySigns36
import Derived.Test.YtplekfgadbjgdaaQDehornoySigns37
import Derived.Deep.RegionHeld3
import Derived.RangeFuncNested
import Derived.RangeFuncCalls
import Derived.OrdersIn
import Derived.OrdersHeld
import Derived.Deep.RegionHeld
namespace Go.Proofs.Ytplekfgadbjgdaa
open Go.RowKit Go.Sl

theorem bword_lt {n : Nat} {xs : List Int} (h : BWord n xs) : ∀ x ∈ xs, Lt n x := fun x hx => by
  have := h x hx
  unfold Lt
  omega

end Go.Proofs.Ytplekfgadbjgdaa

