/- garside.NormalForm walked. -/
import Derived.Test.YtplekfgadbjgdaaQDehornoyOrder0
import Derived.Test.YtplekfgadbjgdaaQDehornoyOrder1
import Derived.Test.YtplekfgadbjgdaaQDehornoyOrder2
import Derived.Test.YtplekfgadbjgdaaQDehornoyOrder3
import Derived.Test.YtplekfgadbjgdaaQDehornoyOrder4
import Derived.Test.YtplekfgadbjgdaaQDehornoyOrder5
import Derived.Test.YtplekfgadbjgdaaQDehornoyOrder6
import Derived.Test.YtplekfgadbjgdaaQDehornoyOrder7
import Derived.Test.YtplekfgadbjgdaaQDehornoyOrder8
import Derived.Test.YtplekfgadbjgdaaQDehornoyOrder10
import Derived.Test.YtplekfgadbjgdaaQDehornoyOrder11
import Derived.Test.YtplekfgadbjgdaaQDehornoyOrder12
import Derived.Test.YtplekfgadbjgdaaQDehornoyOrder13
import Derived.Test.YtplekfgadbjgdaaQDehornoyOrder14
import Derived.Test.YtplekfgadbjgdaaQDehornoyOrder16
import Derived.Test.YtplekfgadbjgdaaQDehornoyOrder19
import Derived.Test.YtplekfgadbjgdaaQDehornoyOrder20
import Derived.Test.YtplekfgadbjgdaaQDehornoyOrder21
import Derived.Test.YtplekfgadbjgdaaQDehornoyOrder28
import Derived.Test.YtplekfgadbjgdaaQDehornoyOrder29
import Derived.Test.YtplekfgadbjgdaaQDehornoyOrder30
import Derived.Test.YtplekfgadbjgdaaQDehornoyOrder31
import Derived.Test.YtplekfgadbjgdaaQDehornoyOrder32
import Derived.Test.YtplekfgadbjgdaaQDehornoyOrder33
import Derived.Test.YtplekfgadbjgdaaQDehornoyOrder34
import Derived.Test.YtplekfgadbjgdaaQDehornoyOrder35
import Derived.Test.YtplekfgadbjgdaaQDehornoyOrder36
import Derived.Test.YtplekfgadbjgdaaQDehornoyOrder37
import Derived.Test.YtplekfgadbjgdaaQDehornoyOrder38
import Derived.Deep.RegionHeld3
import Derived.RangeFuncNested
import Derived.RangeFuncCalls
import Derived.OrdersIn
import Derived.OrdersHeld
import Derived.Deep.RegionHeld
namespace Go.Proofs.Ytplekfgadbjgdaa
open Go.RowKit Go.Sl

theorem bword_lt {n : Nat} {xs : List Int} (h : BWord n xs) : ∀ x ∈ xs, Lt n x := fun x hx => by
  have := h x hx
  unfold Lt
  omega

end Go.Proofs.Ytplekfgadbjgdaa

