/- The table for 6 strands: rows 66 to 87, checked. -/
import Derived.Test.YtplekfgadbjgdaaQMatchingCounts1

namespace Go.TL
theorem rows6_3 : rowsOK 6 mC6 mS6 ((mS6.drop 66).take 22) ((mP6.drop 66).take 22) = true := by decide +kernel

end Go.TL

