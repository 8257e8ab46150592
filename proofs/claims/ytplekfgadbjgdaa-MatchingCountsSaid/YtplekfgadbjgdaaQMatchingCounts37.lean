/- Elements on 6 strands, by the partner of place 0 (part a): printed by gen_matfill6.py. -/
import Derived.Test.YtplekfgadbjgdaaQMatchingCounts0
import Derived.Test.YtplekfgadbjgdaaQMatchingCounts1
import Derived.Test.YtplekfgadbjgdaaQMatchingCounts10
import Derived.Test.YtplekfgadbjgdaaQMatchingCounts11
import Derived.Test.YtplekfgadbjgdaaQMatchingCounts12
import Derived.Test.YtplekfgadbjgdaaQMatchingCounts13
import Derived.Test.YtplekfgadbjgdaaQMatchingCounts14
import Derived.Test.YtplekfgadbjgdaaQMatchingCounts15
import Derived.Test.YtplekfgadbjgdaaQMatchingCounts16
import Derived.Test.YtplekfgadbjgdaaQMatchingCounts17
import Derived.Test.YtplekfgadbjgdaaQMatchingCounts18
import Derived.Test.YtplekfgadbjgdaaQMatchingCounts19
import Derived.Test.YtplekfgadbjgdaaQMatchingCounts20
import Derived.Test.YtplekfgadbjgdaaQMatchingCounts21
import Derived.Test.YtplekfgadbjgdaaQMatchingCounts22
import Derived.Test.YtplekfgadbjgdaaQMatchingCounts23
import Derived.Test.YtplekfgadbjgdaaQMatchingCounts24
import Derived.Test.YtplekfgadbjgdaaQMatchingCounts25
import Derived.Test.YtplekfgadbjgdaaQMatchingCounts26
import Derived.Test.YtplekfgadbjgdaaQMatchingCounts27
import Derived.Test.YtplekfgadbjgdaaQMatchingCounts28
import Derived.Test.YtplekfgadbjgdaaQMatchingCounts29
import Derived.Test.YtplekfgadbjgdaaQMatchingCounts36
import Derived.Deep.RegionLaw
import Derived.RangeFuncNested
import Derived.RangeFuncBound
import Derived.RangeFuncCalls
import Derived.RangeFuncLeaves
import Derived.RangeFuncBox
import Derived.Shelf.Abstract
import Derived.Shelf.RegionOpen
import Derived.OwnWalkIn
import Derived.TacticsInMore
import Derived.LoopNIn
import Derived.LoopIn
import Derived.Maps.AppendAt
namespace Go.Proofs.Ytplekfgadbjgdaa
open Go.RowKit Go.Sl Go.TL
def fillP1 : List (List Nat) := [[1, 0, 3, 2, 5, 4, 7, 6, 9, 8, 11, 10], [1, 0, 3, 2, 5, 4, 7, 6, 11, 10, 9, 8], [1, 0, 3, 2, 5, 4, 9, 8, 7, 6, 11, 10], [1, 0, 3, 2, 5, 4, 11, 8, 7, 10, 9, 6], [1, 0, 3, 2, 5, 4, 11, 10, 9, 8, 7, 6], [1, 0, 3, 2, 6, 7, 4, 5, 9, 8, 11, 10], [1, 0, 3, 2, 6, 7, 4, 5, 11, 10, 9, 8], [1, 0, 3, 2, 6, 9, 4, 8, 7, 5, 11, 10], [1, 0, 3, 2, 6, 11, 4, 8, 7, 10, 9, 5], [1, 0, 3, 2, 6, 11, 4, 10, 9, 8, 7, 5], [1, 0, 3, 2, 8, 9, 7, 6, 4, 5, 11, 10], [1, 0, 3, 2, 8, 11, 7, 6, 4, 10, 9, 5], [1, 0, 3, 2, 10, 11, 7, 6, 9, 8, 4, 5], [1, 0, 3, 2, 10, 11, 9, 8, 7, 6, 4, 5], [1, 0, 5, 4, 3, 2, 7, 6, 9, 8, 11, 10], [1, 0, 5, 4, 3, 2, 7, 6, 11, 10, 9, 8], [1, 0, 5, 4, 3, 2, 9, 8, 7, 6, 11, 10], [1, 0, 5, 4, 3, 2, 11, 8, 7, 10, 9, 6], [1, 0, 5, 4, 3, 2, 11, 10, 9, 8, 7, 6], [1, 0, 6, 4, 3, 7, 2, 5, 9, 8, 11, 10], [1, 0, 6, 4, 3, 7, 2, 5, 11, 10, 9, 8], [1, 0, 6, 4, 3, 9, 2, 8, 7, 5, 11, 10], [1, 0, 6, 4, 3, 11, 2, 8, 7, 10, 9, 5], [1, 0, 6, 4, 3, 11, 2, 10, 9, 8, 7, 5], [1, 0, 6, 7, 5, 4, 2, 3, 9, 8, 11, 10], [1, 0, 6, 7, 5, 4, 2, 3, 11, 10, 9, 8], [1, 0, 6, 7, 8, 9, 2, 3, 4, 5, 11, 10], [1, 0, 6, 7, 8, 11, 2, 3, 4, 10, 9, 5], [1, 0, 6, 7, 10, 11, 2, 3, 9, 8, 4, 5], [1, 0, 6, 9, 5, 4, 2, 8, 7, 3, 11, 10], [1, 0, 6, 9, 10, 11, 2, 8, 7, 3, 4, 5], [1, 0, 6, 11, 5, 4, 2, 8, 7, 10, 9, 3], [1, 0, 6, 11, 5, 4, 2, 10, 9, 8, 7, 3], [1, 0, 8, 4, 3, 9, 7, 6, 2, 5, 11, 10], [1, 0, 8, 4, 3, 11, 7, 6, 2, 10, 9, 5], [1, 0, 8, 9, 5, 4, 7, 6, 2, 3, 11, 10], [1, 0, 8, 9, 10, 11, 7, 6, 2, 3, 4, 5], [1, 0, 8, 11, 5, 4, 7, 6, 2, 10, 9, 3], [1, 0, 10, 4, 3, 11, 7, 6, 9, 8, 2, 5], [1, 0, 10, 4, 3, 11, 9, 8, 7, 6, 2, 5], [1, 0, 10, 11, 5, 4, 7, 6, 9, 8, 2, 3], [1, 0, 10, 11, 5, 4, 9, 8, 7, 6, 2, 3]]
theorem fill6_1 : fillR 6 6 [2, 1, 0, 0, 0, 0, 0, 0, 0, 0, 0, 0] = fillP1 := by decide +kernel
def fillP2 : List (List Nat) := []
theorem fill6_2 : fillR 6 6 [3, 0, 1, 0, 0, 0, 0, 0, 0, 0, 0, 0] = fillP2 := by decide +kernel
def fillP3 : List (List Nat) := [[3, 2, 1, 0, 5, 4, 7, 6, 9, 8, 11, 10], [3, 2, 1, 0, 5, 4, 7, 6, 11, 10, 9, 8], [3, 2, 1, 0, 5, 4, 9, 8, 7, 6, 11, 10], [3, 2, 1, 0, 5, 4, 11, 8, 7, 10, 9, 6], [3, 2, 1, 0, 5, 4, 11, 10, 9, 8, 7, 6], [3, 2, 1, 0, 6, 7, 4, 5, 9, 8, 11, 10], [3, 2, 1, 0, 6, 7, 4, 5, 11, 10, 9, 8], [3, 2, 1, 0, 6, 9, 4, 8, 7, 5, 11, 10], [3, 2, 1, 0, 6, 11, 4, 8, 7, 10, 9, 5], [3, 2, 1, 0, 6, 11, 4, 10, 9, 8, 7, 5], [3, 2, 1, 0, 8, 9, 7, 6, 4, 5, 11, 10], [3, 2, 1, 0, 8, 11, 7, 6, 4, 10, 9, 5], [3, 2, 1, 0, 10, 11, 7, 6, 9, 8, 4, 5], [3, 2, 1, 0, 10, 11, 9, 8, 7, 6, 4, 5]]
theorem fill6_3 : fillR 6 6 [4, 0, 0, 1, 0, 0, 0, 0, 0, 0, 0, 0] = fillP3 := by decide +kernel
end Go.Proofs.Ytplekfgadbjgdaa

