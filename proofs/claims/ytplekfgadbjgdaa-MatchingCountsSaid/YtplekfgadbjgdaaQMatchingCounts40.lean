/- Elements on 6 strands, by the partner of place 0 (part d): printed by gen_matfill6.py. -/
import Derived.Test.YtplekfgadbjgdaaQMatchingCounts0
import Derived.Test.YtplekfgadbjgdaaQMatchingCounts1
import Derived.Test.YtplekfgadbjgdaaQMatchingCounts10
import Derived.Test.YtplekfgadbjgdaaQMatchingCounts11
import Derived.Test.YtplekfgadbjgdaaQMatchingCounts12
import Derived.Test.YtplekfgadbjgdaaQMatchingCounts13
import Derived.Test.YtplekfgadbjgdaaQMatchingCounts14
import Derived.Test.YtplekfgadbjgdaaQMatchingCounts15
import Derived.Test.YtplekfgadbjgdaaQMatchingCounts16
import Derived.Test.YtplekfgadbjgdaaQMatchingCounts17
import Derived.Test.YtplekfgadbjgdaaQMatchingCounts18
import Derived.Test.YtplekfgadbjgdaaQMatchingCounts19
import Derived.Test.YtplekfgadbjgdaaQMatchingCounts20
import Derived.Test.YtplekfgadbjgdaaQMatchingCounts21
import Derived.Test.YtplekfgadbjgdaaQMatchingCounts22
import Derived.Test.YtplekfgadbjgdaaQMatchingCounts23
import Derived.Test.YtplekfgadbjgdaaQMatchingCounts24
import Derived.Test.YtplekfgadbjgdaaQMatchingCounts25
import Derived.Test.YtplekfgadbjgdaaQMatchingCounts26
import Derived.Test.YtplekfgadbjgdaaQMatchingCounts27
import Derived.Test.YtplekfgadbjgdaaQMatchingCounts28
import Derived.Test.YtplekfgadbjgdaaQMatchingCounts29
import Derived.Test.YtplekfgadbjgdaaQMatchingCounts36
import Derived.Deep.RegionLaw
import Derived.RangeFuncNested
import Derived.RangeFuncBound
import Derived.RangeFuncCalls
import Derived.RangeFuncLeaves
import Derived.RangeFuncBox
import Derived.Shelf.Abstract
import Derived.Shelf.RegionOpen
import Derived.OwnWalkIn
import Derived.TacticsInMore
import Derived.LoopNIn
import Derived.LoopIn
import Derived.Maps.AppendAt
namespace Go.Proofs.Ytplekfgadbjgdaa
open Go.RowKit Go.Sl Go.TL
def fillP10 : List (List Nat) := [[10, 2, 1, 4, 3, 11, 7, 6, 9, 8, 0, 5], [10, 2, 1, 4, 3, 11, 9, 8, 7, 6, 0, 5], [10, 2, 1, 11, 5, 4, 7, 6, 9, 8, 0, 3], [10, 2, 1, 11, 5, 4, 9, 8, 7, 6, 0, 3], [10, 4, 3, 2, 1, 11, 7, 6, 9, 8, 0, 5], [10, 4, 3, 2, 1, 11, 9, 8, 7, 6, 0, 5], [10, 11, 3, 2, 5, 4, 7, 6, 9, 8, 0, 1], [10, 11, 3, 2, 5, 4, 9, 8, 7, 6, 0, 1], [10, 11, 5, 4, 3, 2, 7, 6, 9, 8, 0, 1], [10, 11, 5, 4, 3, 2, 9, 8, 7, 6, 0, 1]]
theorem fill6_10 : fillR 6 6 [11, 0, 0, 0, 0, 0, 0, 0, 0, 0, 1, 0] = fillP10 := by decide +kernel
def fillP11 : List (List Nat) := []
theorem fill6_11 : fillR 6 6 [12, 0, 0, 0, 0, 0, 0, 0, 0, 0, 0, 1] = fillP11 := by decide +kernel
end Go.Proofs.Ytplekfgadbjgdaa

