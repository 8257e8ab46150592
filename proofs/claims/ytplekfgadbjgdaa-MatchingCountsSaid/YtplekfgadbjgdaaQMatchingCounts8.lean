/- The table for 6 strands: rows 110 to 131, checked. -/
import Derived.Test.YtplekfgadbjgdaaQMatchingCounts1

namespace Go.TL
theorem rows6_5 : rowsOK 6 mC6 mS6 ((mS6.drop 110).take 22) ((mP6.drop 110).take 22) = true := by decide +kernel

end Go.TL

