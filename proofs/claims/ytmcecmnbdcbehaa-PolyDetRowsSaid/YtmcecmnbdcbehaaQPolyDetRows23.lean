/- braid.Matrix walked: the Burau matrix of a word. -/
import Derived.Test.YtmcecmnbdcbehaaQPolyDetRows0
import Derived.Test.YtmcecmnbdcbehaaQPolyDetRows1
import Derived.Test.YtmcecmnbdcbehaaQPolyDetRows2
import Derived.Test.YtmcecmnbdcbehaaQPolyDetRows3
import Derived.Test.YtmcecmnbdcbehaaQPolyDetRows4
import Derived.Test.YtmcecmnbdcbehaaQPolyDetRows5
import Derived.Test.YtmcecmnbdcbehaaQPolyDetRows6
import Derived.Test.YtmcecmnbdcbehaaQPolyDetRows7
import Derived.Test.YtmcecmnbdcbehaaQPolyDetRows8
import Derived.Test.YtmcecmnbdcbehaaQPolyDetRows9
import Derived.Test.YtmcecmnbdcbehaaQPolyDetRows10
import Derived.Test.YtmcecmnbdcbehaaQPolyDetRows11
import Derived.Test.YtmcecmnbdcbehaaQPolyDetRows12
import Derived.Test.YtmcecmnbdcbehaaQPolyDetRows13
import Derived.Test.YtmcecmnbdcbehaaQPolyDetRows14
import Derived.Test.YtmcecmnbdcbehaaQPolyDetRows15
import Derived.Test.YtmcecmnbdcbehaaQPolyDetRows16
import Derived.Test.YtmcecmnbdcbehaaQPolyDetRows21
import Derived.Test.YtmcecmnbdcbehaaQPolyDetRows22
import Derived.Deep.CutRange
import Derived.Deep.RegionLaw
import Derived.RangeFuncNested
import Derived.RangeFuncBound
import Derived.RangeFuncCalls
import Derived.RangeFuncLeaves
import Derived.RangeFuncBox
import Derived.Shelf.Abstract
import Derived.Shelf.RegionOpen
import Derived.OwnWalkIn
import Derived.TacticsInMore
import Derived.LoopNIn
import Derived.LoopIn
import Derived.Maps.AppendAt
namespace Go.Proofs.Ytmcecmnbdcbehaa
open Go.RowKit Go.Sl

theorem info_poly : (Try.prog.info? 27).map (fun i => (i.zero, i.size, i.bytes)) = some (some (.agg #[.int .i64 0, .slice none 0 0]), 2, 32) := by kernel_rfl
theorem info_polys : (Try.prog.info? 28).map (fun i => (i.zero, i.size, i.bytes)) = some (some (.slice none 0 0), 1, 24) := by kernel_rfl
end Go.Proofs.Ytmcecmnbdcbehaa

