/- garside.NormalForm walked. -/
import Derived.Test.YtmcecmnbdcbehaaQTopFox0
import Derived.Test.YtmcecmnbdcbehaaQTopFox1
import Derived.Test.YtmcecmnbdcbehaaQTopFox2
import Derived.Test.YtmcecmnbdcbehaaQTopFox3
import Derived.Test.YtmcecmnbdcbehaaQTopFox4
import Derived.Test.YtmcecmnbdcbehaaQTopFox5
import Derived.Test.YtmcecmnbdcbehaaQTopFox6
import Derived.Test.YtmcecmnbdcbehaaQTopFox7
import Derived.Test.YtmcecmnbdcbehaaQTopFox9
import Derived.Test.YtmcecmnbdcbehaaQTopFox10
import Derived.Test.YtmcecmnbdcbehaaQTopFox11
import Derived.Test.YtmcecmnbdcbehaaQTopFox12
import Derived.Test.YtmcecmnbdcbehaaQTopFox13
import Derived.Test.YtmcecmnbdcbehaaQTopFox14
import Derived.Test.YtmcecmnbdcbehaaQTopFox15
import Derived.Test.YtmcecmnbdcbehaaQTopFox19
import Derived.Test.YtmcecmnbdcbehaaQTopFox20
import Derived.Test.YtmcecmnbdcbehaaQTopFox22
import Derived.Test.YtmcecmnbdcbehaaQTopFox24
import Derived.Test.YtmcecmnbdcbehaaQTopFox25
import Derived.Test.YtmcecmnbdcbehaaQTopFox26
import Derived.Test.YtmcecmnbdcbehaaQTopFox27
import Derived.Test.YtmcecmnbdcbehaaQTopFox28
import Derived.Test.YtmcecmnbdcbehaaQTopFox31
import Derived.Test.YtmcecmnbdcbehaaQTopFox32
import Derived.Test.YtmcecmnbdcbehaaQTopFox33
import Derived.Test.YtmcecmnbdcbehaaQTopFox34
import Derived.Test.YtmcecmnbdcbehaaQTopFox35
import Derived.Test.YtmcecmnbdcbehaaQTopFox36
import Derived.Test.YtmcecmnbdcbehaaQTopFox37
import Derived.Test.YtmcecmnbdcbehaaQTopFox38
import Derived.Deep.RegionHeld3
namespace Go.Proofs.Ytmcecmnbdcbehaa
open Go.RowKit Go.Sl

theorem bword_lt {n : Nat} {xs : List Int} (h : BWord n xs) : ∀ x ∈ xs, Lt n x := fun x hx => by
  have := h x hx
  unfold Lt
  omega

end Go.Proofs.Ytmcecmnbdcbehaa

