/- Burau matrices in plain Lean: what a letter does to a row; relations; sums. -/
import Derived.Test.YtmcecmnbdcbehaaQPolyDetRows0
import Derived.Test.YtmcecmnbdcbehaaQPolyDetRows1
import Derived.Test.YtmcecmnbdcbehaaQPolyDetRows2
import Derived.Test.YtmcecmnbdcbehaaQPolyDetRows3
import Derived.Test.YtmcecmnbdcbehaaQPolyDetRows4
import Derived.Test.YtmcecmnbdcbehaaQPolyDetRows5
import Derived.Test.YtmcecmnbdcbehaaQPolyDetRows6
import Derived.Test.YtmcecmnbdcbehaaQPolyDetRows7
import Derived.Test.YtmcecmnbdcbehaaQPolyDetRows9
import Derived.Test.YtmcecmnbdcbehaaQPolyDetRows10
import Derived.Test.YtmcecmnbdcbehaaQPolyDetRows11
import Derived.Test.YtmcecmnbdcbehaaQPolyDetRows12
import Derived.Test.YtmcecmnbdcbehaaQPolyDetRows13
import Derived.Test.YtmcecmnbdcbehaaQPolyDetRows14
import Derived.Test.YtmcecmnbdcbehaaQPolyDetRows15

namespace Go.Proofs.Ytmcecmnbdcbehaa
open Go.RowKit Go.Sl

/-- The two rows of a letter. -/
def bm (x : Int) (c d : Nat) : LP :=
  if x < 0 then (if c = 0 then (if d = 0 then pzero else pterm 1 0) else (if d = 0 then pterm 1 (-1) else trimP (-1) [-1, 1]))
  else (if c = 0 then (if d = 0 then trimP 0 [1, -1] else pterm 1 1) else (if d = 0 then pterm 1 0 else pzero))
end Go.Proofs.Ytmcecmnbdcbehaa

