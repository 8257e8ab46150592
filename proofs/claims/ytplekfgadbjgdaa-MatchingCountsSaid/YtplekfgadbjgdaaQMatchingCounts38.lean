/- Elements on 6 strands, by the partner of place 0 (part b): printed by gen_matfill6.py. -/
import Derived.Test.YtplekfgadbjgdaaQMatchingCounts0
import Derived.Test.YtplekfgadbjgdaaQMatchingCounts1
import Derived.Test.YtplekfgadbjgdaaQMatchingCounts10
import Derived.Test.YtplekfgadbjgdaaQMatchingCounts11
import Derived.Test.YtplekfgadbjgdaaQMatchingCounts12
import Derived.Test.YtplekfgadbjgdaaQMatchingCounts13
import Derived.Test.YtplekfgadbjgdaaQMatchingCounts14
import Derived.Test.YtplekfgadbjgdaaQMatchingCounts15
import Derived.Test.YtplekfgadbjgdaaQMatchingCounts16
import Derived.Test.YtplekfgadbjgdaaQMatchingCounts17
import Derived.Test.YtplekfgadbjgdaaQMatchingCounts18
import Derived.Test.YtplekfgadbjgdaaQMatchingCounts19
import Derived.Test.YtplekfgadbjgdaaQMatchingCounts20
import Derived.Test.YtplekfgadbjgdaaQMatchingCounts21
import Derived.Test.YtplekfgadbjgdaaQMatchingCounts22
import Derived.Test.YtplekfgadbjgdaaQMatchingCounts23
import Derived.Test.YtplekfgadbjgdaaQMatchingCounts24
import Derived.Test.YtplekfgadbjgdaaQMatchingCounts25
import Derived.Test.YtplekfgadbjgdaaQMatchingCounts26
import Derived.Test.YtplekfgadbjgdaaQMatchingCounts27
import Derived.Test.YtplekfgadbjgdaaQMatchingCounts28
import Derived.Test.YtplekfgadbjgdaaQMatchingCounts29
import Derived.Test.YtplekfgadbjgdaaQMatchingCounts36
import Derived.Deep.RegionLaw
import Derived.RangeFuncNested
import Derived.RangeFuncBound
import Derived.RangeFuncCalls
import Derived.RangeFuncLeaves
import Derived.RangeFuncBox
import Derived.Shelf.Abstract
import Derived.Shelf.RegionOpen
import Derived.OwnWalkIn
import Derived.TacticsInMore
import Derived.LoopNIn
import Derived.LoopIn
import Derived.Maps.AppendAt
namespace Go.Proofs.Ytplekfgadbjgdaa
open Go.RowKit Go.Sl Go.TL
def fillP4 : List (List Nat) := []
theorem fill6_4 : fillR 6 6 [5, 0, 0, 0, 1, 0, 0, 0, 0, 0, 0, 0] = fillP4 := by decide +kernel
def fillP5 : List (List Nat) := [[5, 2, 1, 4, 3, 0, 7, 6, 9, 8, 11, 10], [5, 2, 1, 4, 3, 0, 7, 6, 11, 10, 9, 8], [5, 2, 1, 4, 3, 0, 9, 8, 7, 6, 11, 10], [5, 2, 1, 4, 3, 0, 11, 8, 7, 10, 9, 6], [5, 2, 1, 4, 3, 0, 11, 10, 9, 8, 7, 6], [5, 4, 3, 2, 1, 0, 7, 6, 9, 8, 11, 10], [5, 4, 3, 2, 1, 0, 7, 6, 11, 10, 9, 8], [5, 4, 3, 2, 1, 0, 9, 8, 7, 6, 11, 10], [5, 4, 3, 2, 1, 0, 11, 8, 7, 10, 9, 6], [5, 4, 3, 2, 1, 0, 11, 10, 9, 8, 7, 6]]
theorem fill6_5 : fillR 6 6 [6, 0, 0, 0, 0, 1, 0, 0, 0, 0, 0, 0] = fillP5 := by decide +kernel
def fillP6 : List (List Nat) := [[6, 2, 1, 4, 3, 7, 0, 5, 9, 8, 11, 10], [6, 2, 1, 4, 3, 7, 0, 5, 11, 10, 9, 8], [6, 2, 1, 4, 3, 9, 0, 8, 7, 5, 11, 10], [6, 2, 1, 4, 3, 11, 0, 8, 7, 10, 9, 5], [6, 2, 1, 4, 3, 11, 0, 10, 9, 8, 7, 5], [6, 2, 1, 7, 5, 4, 0, 3, 9, 8, 11, 10], [6, 2, 1, 7, 5, 4, 0, 3, 11, 10, 9, 8], [6, 2, 1, 7, 8, 9, 0, 3, 4, 5, 11, 10], [6, 2, 1, 7, 8, 11, 0, 3, 4, 10, 9, 5], [6, 2, 1, 7, 10, 11, 0, 3, 9, 8, 4, 5], [6, 2, 1, 9, 5, 4, 0, 8, 7, 3, 11, 10], [6, 2, 1, 9, 10, 11, 0, 8, 7, 3, 4, 5], [6, 2, 1, 11, 5, 4, 0, 8, 7, 10, 9, 3], [6, 2, 1, 11, 5, 4, 0, 10, 9, 8, 7, 3], [6, 4, 3, 2, 1, 7, 0, 5, 9, 8, 11, 10], [6, 4, 3, 2, 1, 7, 0, 5, 11, 10, 9, 8], [6, 4, 3, 2, 1, 9, 0, 8, 7, 5, 11, 10], [6, 4, 3, 2, 1, 11, 0, 8, 7, 10, 9, 5], [6, 4, 3, 2, 1, 11, 0, 10, 9, 8, 7, 5], [6, 7, 3, 2, 5, 4, 0, 1, 9, 8, 11, 10], [6, 7, 3, 2, 5, 4, 0, 1, 11, 10, 9, 8], [6, 7, 3, 2, 8, 9, 0, 1, 4, 5, 11, 10], [6, 7, 3, 2, 8, 11, 0, 1, 4, 10, 9, 5], [6, 7, 3, 2, 10, 11, 0, 1, 9, 8, 4, 5], [6, 7, 5, 4, 3, 2, 0, 1, 9, 8, 11, 10], [6, 7, 5, 4, 3, 2, 0, 1, 11, 10, 9, 8], [6, 7, 8, 4, 3, 9, 0, 1, 2, 5, 11, 10], [6, 7, 8, 4, 3, 11, 0, 1, 2, 10, 9, 5], [6, 7, 8, 9, 5, 4, 0, 1, 2, 3, 11, 10], [6, 7, 8, 9, 10, 11, 0, 1, 2, 3, 4, 5], [6, 7, 8, 11, 5, 4, 0, 1, 2, 10, 9, 3], [6, 7, 10, 4, 3, 11, 0, 1, 9, 8, 2, 5], [6, 7, 10, 11, 5, 4, 0, 1, 9, 8, 2, 3], [6, 9, 3, 2, 5, 4, 0, 8, 7, 1, 11, 10], [6, 9, 3, 2, 10, 11, 0, 8, 7, 1, 4, 5], [6, 9, 5, 4, 3, 2, 0, 8, 7, 1, 11, 10], [6, 9, 10, 4, 3, 11, 0, 8, 7, 1, 2, 5], [6, 9, 10, 11, 5, 4, 0, 8, 7, 1, 2, 3], [6, 11, 3, 2, 5, 4, 0, 8, 7, 10, 9, 1], [6, 11, 3, 2, 5, 4, 0, 10, 9, 8, 7, 1], [6, 11, 5, 4, 3, 2, 0, 8, 7, 10, 9, 1], [6, 11, 5, 4, 3, 2, 0, 10, 9, 8, 7, 1]]
theorem fill6_6 : fillR 6 6 [7, 0, 0, 0, 0, 0, 1, 0, 0, 0, 0, 0] = fillP6 := by decide +kernel
end Go.Proofs.Ytplekfgadbjgdaa

