/- The images of the generators: conjugates of generators, as the permutation says; their product. -/
import Derived.Test.YtmcecmnbdcbehaaQLinkSums0
import Derived.Test.YtmcecmnbdcbehaaQLinkSums1
import Derived.Test.YtmcecmnbdcbehaaQLinkSums2
import Derived.Test.YtmcecmnbdcbehaaQLinkSums3
import Derived.Test.YtmcecmnbdcbehaaQLinkSums5
import Derived.Test.YtmcecmnbdcbehaaQLinkSums6
import Derived.Test.YtmcecmnbdcbehaaQLinkSums7
import Derived.Test.YtmcecmnbdcbehaaQLinkSums8
import Derived.Test.YtmcecmnbdcbehaaQLinkSums9
import Derived.Test.YtmcecmnbdcbehaaQLinkSums10
import Derived.Test.YtmcecmnbdcbehaaQLinkSums11
import Derived.Test.YtmcecmnbdcbehaaQLinkSums13
import Derived.Test.YtmcecmnbdcbehaaQLinkSums14
import Derived.Test.YtmcecmnbdcbehaaQLinkSums15
import Derived.Test.YtmcecmnbdcbehaaQLinkSums17
import Derived.Test.YtmcecmnbdcbehaaQLinkSums18
import Derived.RangeFuncNested
import Derived.RangeFuncCalls
import Derived.OrdersIn
import Derived.OrdersHeld
import Derived.Deep.RegionHeld
namespace Go.Proofs.Ytmcecmnbdcbehaa
open Go.RowKit Go.Sl

/-- The word is a conjugate of the generator. -/
def Cj (r : List Int) (m : Nat) : Prop := ∃ y, IsWord y ∧ r = redL (y ++ [(m : Int) + 1] ++ invL y)
theorem Cj.word {r : List Int} {m : Nat} (h : Cj r m) (hm : m < 6) : IsWord r := by
  obtain ⟨y, hy, rfl⟩ := h
  refine ((hy.append ?_).append hy.inv).red
  intro x hx
  simp at hx
  omega
end Go.Proofs.Ytmcecmnbdcbehaa

