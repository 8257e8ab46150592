/- The tables for 2 to 5 strands: checked. -/
import Derived.Test.YtplekfgadbjgdaaQMatchingCounts1

namespace Go.TL
theorem rows2 : rowsOK 2 mC2 mS2 mS2 mP2 = true := by decide +kernel
theorem rows3 : rowsOK 3 mC3 mS3 mS3 mP3 = true := by decide +kernel
theorem rows4 : rowsOK 4 mC4 mS4 mS4 mP4 = true := by decide +kernel
theorem rows5 : rowsOK 5 mC5 mS5 mS5 mP5 = true := by decide +kernel

end Go.TL

