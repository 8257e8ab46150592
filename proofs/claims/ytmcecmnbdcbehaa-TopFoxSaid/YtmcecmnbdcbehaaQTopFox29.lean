/- The two sides of a relation of the braid group, and words around them. -/
import Derived.Test.YtmcecmnbdcbehaaQTopFox0
import Derived.Test.YtmcecmnbdcbehaaQTopFox1
import Derived.Test.YtmcecmnbdcbehaaQTopFox2
import Derived.Test.YtmcecmnbdcbehaaQTopFox3
import Derived.Test.YtmcecmnbdcbehaaQTopFox4
import Derived.Test.YtmcecmnbdcbehaaQTopFox5
import Derived.Test.YtmcecmnbdcbehaaQTopFox6
import Derived.Test.YtmcecmnbdcbehaaQTopFox7
import Derived.Test.YtmcecmnbdcbehaaQTopFox9
import Derived.Test.YtmcecmnbdcbehaaQTopFox10
import Derived.Test.YtmcecmnbdcbehaaQTopFox11
import Derived.Test.YtmcecmnbdcbehaaQTopFox12
import Derived.Test.YtmcecmnbdcbehaaQTopFox13
import Derived.Test.YtmcecmnbdcbehaaQTopFox14
import Derived.Test.YtmcecmnbdcbehaaQTopFox15
import Derived.Test.YtmcecmnbdcbehaaQTopFox22
import Derived.Test.YtmcecmnbdcbehaaQTopFox24
import Derived.Test.YtmcecmnbdcbehaaQTopFox25
import Derived.Lib.AppendZeros
import Derived.Lib.Walk
namespace Go.Proofs.Ytmcecmnbdcbehaa
open Go.RowKit Go.Sl

theorem letter_bw {top : Int} (h : 0 < top) (x : Int) : letterOf top x ≠ 0 ∧ -top ≤ letterOf top x ∧ letterOf top x ≤ top := by
  have h1 := Int.emod_nonneg x (b := 2 * top) (by omega)
  have h2 := Int.emod_lt_of_pos x (b := 2 * top) (by omega)
  unfold letterOf
  split <;> omega
theorem wordL_bw {n : Int} (h : 1 < n) (raw : List Int) (most : Nat) : BWord n (wordL (n - 1) raw most) := by
  intro x hx
  obtain ⟨y, _, rfl⟩ := List.mem_map.1 hx
  have := letter_bw (top := n - 1) (by omega) y
  omega
end Go.Proofs.Ytmcecmnbdcbehaa

