/- The table for 6 strands: rows 22 to 43, checked. -/
import Derived.Test.YtplekfgadbjgdaaQMatchingCounts1

namespace Go.TL
theorem rows6_1 : rowsOK 6 mC6 mS6 ((mS6.drop 22).take 22) ((mP6.drop 22).take 22) = true := by decide +kernel

end Go.TL

