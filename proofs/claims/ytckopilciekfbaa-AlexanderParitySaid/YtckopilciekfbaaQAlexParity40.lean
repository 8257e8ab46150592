/- braid.Burau walked: the Burau matrix, each element in memory of its own. -/
import Derived.Test.YtckopilciekfbaaQAlexParity0
import Derived.Test.YtckopilciekfbaaQAlexParity1
import Derived.Test.YtckopilciekfbaaQAlexParity2
import Derived.Test.YtckopilciekfbaaQAlexParity3
import Derived.Test.YtckopilciekfbaaQAlexParity4
import Derived.Test.YtckopilciekfbaaQAlexParity5
import Derived.Test.YtckopilciekfbaaQAlexParity6
import Derived.Test.YtckopilciekfbaaQAlexParity7
import Derived.Test.YtckopilciekfbaaQAlexParity8
import Derived.Test.YtckopilciekfbaaQAlexParity10
import Derived.Test.YtckopilciekfbaaQAlexParity11
import Derived.Test.YtckopilciekfbaaQAlexParity12
import Derived.Test.YtckopilciekfbaaQAlexParity13
import Derived.Test.YtckopilciekfbaaQAlexParity14
import Derived.Test.YtckopilciekfbaaQAlexParity15
import Derived.Test.YtckopilciekfbaaQAlexParity16
import Derived.Test.YtckopilciekfbaaQAlexParity17
import Derived.Test.YtckopilciekfbaaQAlexParity18
import Derived.Test.YtckopilciekfbaaQAlexParity20
import Derived.Test.YtckopilciekfbaaQAlexParity29
import Derived.Test.YtckopilciekfbaaQAlexParity30

namespace Go.Proofs.Ytckopilciekfbaa
open Go.RowKit Go.Sl

theorem BWord.nword {n : Nat} {xs : List Int} (h : BWord (n : Int) xs) : NWord n xs := fun x hx => by have := h x hx; omega

end Go.Proofs.Ytckopilciekfbaa

