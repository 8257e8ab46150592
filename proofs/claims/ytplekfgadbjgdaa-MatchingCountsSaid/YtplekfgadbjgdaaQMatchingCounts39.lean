/- Elements on 6 strands, by the partner of place 0 (part c): printed by gen_matfill6.py. -/
import Derived.Test.YtplekfgadbjgdaaQMatchingCounts0
import Derived.Test.YtplekfgadbjgdaaQMatchingCounts1
import Derived.Test.YtplekfgadbjgdaaQMatchingCounts10
import Derived.Test.YtplekfgadbjgdaaQMatchingCounts11
import Derived.Test.YtplekfgadbjgdaaQMatchingCounts12
import Derived.Test.YtplekfgadbjgdaaQMatchingCounts13
import Derived.Test.YtplekfgadbjgdaaQMatchingCounts14
import Derived.Test.YtplekfgadbjgdaaQMatchingCounts15
import Derived.Test.YtplekfgadbjgdaaQMatchingCounts16
import Derived.Test.YtplekfgadbjgdaaQMatchingCounts17
import Derived.Test.YtplekfgadbjgdaaQMatchingCounts18
import Derived.Test.YtplekfgadbjgdaaQMatchingCounts19
import Derived.Test.YtplekfgadbjgdaaQMatchingCounts20
import Derived.Test.YtplekfgadbjgdaaQMatchingCounts21
import Derived.Test.YtplekfgadbjgdaaQMatchingCounts22
import Derived.Test.YtplekfgadbjgdaaQMatchingCounts23
import Derived.Test.YtplekfgadbjgdaaQMatchingCounts24
import Derived.Test.YtplekfgadbjgdaaQMatchingCounts25
import Derived.Test.YtplekfgadbjgdaaQMatchingCounts26
import Derived.Test.YtplekfgadbjgdaaQMatchingCounts27
import Derived.Test.YtplekfgadbjgdaaQMatchingCounts28
import Derived.Test.YtplekfgadbjgdaaQMatchingCounts29
import Derived.Test.YtplekfgadbjgdaaQMatchingCounts36
import Derived.Deep.RegionLaw
import Derived.RangeFuncNested
import Derived.RangeFuncBound
import Derived.RangeFuncCalls
import Derived.RangeFuncLeaves
import Derived.RangeFuncBox
import Derived.Shelf.Abstract
import Derived.Shelf.RegionOpen
import Derived.OwnWalkIn
import Derived.TacticsInMore
import Derived.LoopNIn
import Derived.LoopIn
import Derived.Maps.AppendAt
namespace Go.Proofs.Ytplekfgadbjgdaa
open Go.RowKit Go.Sl Go.TL
def fillP7 : List (List Nat) := []
theorem fill6_7 : fillR 6 6 [8, 0, 0, 0, 0, 0, 0, 1, 0, 0, 0, 0] = fillP7 := by decide +kernel
def fillP8 : List (List Nat) := [[8, 2, 1, 4, 3, 9, 7, 6, 0, 5, 11, 10], [8, 2, 1, 4, 3, 11, 7, 6, 0, 10, 9, 5], [8, 2, 1, 9, 5, 4, 7, 6, 0, 3, 11, 10], [8, 2, 1, 9, 10, 11, 7, 6, 0, 3, 4, 5], [8, 2, 1, 11, 5, 4, 7, 6, 0, 10, 9, 3], [8, 4, 3, 2, 1, 9, 7, 6, 0, 5, 11, 10], [8, 4, 3, 2, 1, 11, 7, 6, 0, 10, 9, 5], [8, 9, 3, 2, 5, 4, 7, 6, 0, 1, 11, 10], [8, 9, 3, 2, 10, 11, 7, 6, 0, 1, 4, 5], [8, 9, 5, 4, 3, 2, 7, 6, 0, 1, 11, 10], [8, 9, 10, 4, 3, 11, 7, 6, 0, 1, 2, 5], [8, 9, 10, 11, 5, 4, 7, 6, 0, 1, 2, 3], [8, 11, 3, 2, 5, 4, 7, 6, 0, 10, 9, 1], [8, 11, 5, 4, 3, 2, 7, 6, 0, 10, 9, 1]]
theorem fill6_8 : fillR 6 6 [9, 0, 0, 0, 0, 0, 0, 0, 1, 0, 0, 0] = fillP8 := by decide +kernel
def fillP9 : List (List Nat) := []
theorem fill6_9 : fillR 6 6 [10, 0, 0, 0, 0, 0, 0, 0, 0, 1, 0, 0] = fillP9 := by decide +kernel
end Go.Proofs.Ytplekfgadbjgdaa

