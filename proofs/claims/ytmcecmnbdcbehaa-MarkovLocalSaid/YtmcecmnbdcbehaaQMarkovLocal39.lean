/- garside.NormalForm walked. -/
import Derived.Test.YtmcecmnbdcbehaaQMarkovLocal0
import Derived.Test.YtmcecmnbdcbehaaQMarkovLocal1
import Derived.Test.YtmcecmnbdcbehaaQMarkovLocal2
import Derived.Test.YtmcecmnbdcbehaaQMarkovLocal3
import Derived.Test.YtmcecmnbdcbehaaQMarkovLocal4
import Derived.Test.YtmcecmnbdcbehaaQMarkovLocal5
import Derived.Test.YtmcecmnbdcbehaaQMarkovLocal6
import Derived.Test.YtmcecmnbdcbehaaQMarkovLocal7
import Derived.Test.YtmcecmnbdcbehaaQMarkovLocal9
import Derived.Test.YtmcecmnbdcbehaaQMarkovLocal10
import Derived.Test.YtmcecmnbdcbehaaQMarkovLocal11
import Derived.Test.YtmcecmnbdcbehaaQMarkovLocal12
import Derived.Test.YtmcecmnbdcbehaaQMarkovLocal13
import Derived.Test.YtmcecmnbdcbehaaQMarkovLocal22
import Derived.Test.YtmcecmnbdcbehaaQMarkovLocal23
import Derived.Test.YtmcecmnbdcbehaaQMarkovLocal24
import Derived.Test.YtmcecmnbdcbehaaQMarkovLocal25
import Derived.Test.YtmcecmnbdcbehaaQMarkovLocal28
import Derived.Test.YtmcecmnbdcbehaaQMarkovLocal30
import Derived.Test.YtmcecmnbdcbehaaQMarkovLocal31
import Derived.Test.YtmcecmnbdcbehaaQMarkovLocal32
import Derived.Test.YtmcecmnbdcbehaaQMarkovLocal33
import Derived.Test.YtmcecmnbdcbehaaQMarkovLocal34
import Derived.Test.YtmcecmnbdcbehaaQMarkovLocal35
import Derived.Test.YtmcecmnbdcbehaaQMarkovLocal36
import Derived.Test.YtmcecmnbdcbehaaQMarkovLocal37
import Derived.Test.YtmcecmnbdcbehaaQMarkovLocal38
import Derived.Deep.RegionHeld3
import Derived.RangeFuncNested
import Derived.RangeFuncBound
import Derived.RangeFuncCalls
import Derived.RangeFuncLeaves
import Derived.RangeFuncBox
import Derived.Shelf.Abstract
import Derived.Shelf.RegionOpen
import Derived.OwnWalkIn
import Derived.TacticsInMore
import Derived.LoopNIn
import Derived.LoopIn
import Derived.Maps.AppendAt
import Derived.OrdersIn
import Derived.OrdersHeld
import Derived.Deep.RegionHeld
namespace Go.Proofs.Ytmcecmnbdcbehaa
open Go.RowKit Go.Sl

theorem bword_lt {n : Nat} {xs : List Int} (h : BWord n xs) : ∀ x ∈ xs, Lt n x := fun x hx => by
  have := h x hx
  unfold Lt
  omega

end Go.Proofs.Ytmcecmnbdcbehaa

