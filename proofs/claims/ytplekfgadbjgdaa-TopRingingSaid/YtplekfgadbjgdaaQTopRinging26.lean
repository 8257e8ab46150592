/- timbmake.Perms and the fact grouped, walked. -/
import Derived.Test.YtplekfgadbjgdaaQTopRinging0
import Derived.Test.YtplekfgadbjgdaaQTopRinging1
import Derived.Test.YtplekfgadbjgdaaQTopRinging2
import Derived.Test.YtplekfgadbjgdaaQTopRinging3
import Derived.Test.YtplekfgadbjgdaaQTopRinging4
import Derived.Test.YtplekfgadbjgdaaQTopRinging5
import Derived.Test.YtplekfgadbjgdaaQTopRinging6
import Derived.Test.YtplekfgadbjgdaaQTopRinging8
import Derived.Test.YtplekfgadbjgdaaQTopRinging10
import Derived.Test.YtplekfgadbjgdaaQTopRinging13
import Derived.Test.YtplekfgadbjgdaaQTopRinging18
import Derived.Test.YtplekfgadbjgdaaQTopRinging19
import Derived.Test.YtplekfgadbjgdaaQTopRinging20
import Derived.Test.YtplekfgadbjgdaaQTopRinging21
import Derived.Test.YtplekfgadbjgdaaQTopRinging22
import Derived.Test.YtplekfgadbjgdaaQTopRinging23
import Derived.Test.YtplekfgadbjgdaaQTopRinging24
import Derived.Test.YtplekfgadbjgdaaQTopRinging25

namespace Go.Proofs.Ytplekfgadbjgdaa
open Go.RowKit Go.Sl Go.Mp Go.Maps

theorem rows_lit1 (w : World) (xs : List Int) (v : Value) (hv : Ints w v xs) : RowsV (w.alloc (.cells #[v] 22)) (.slice (some ⟨w.heap.size, 0, none⟩) 1 1) [v] [xs] :=
  ⟨sl_one w v _, rfl, fun i hi => by
    simp only [List.length_cons, List.length_nil] at hi
    obtain rfl : i = 0 := by omega
    exact hv.alloc _⟩

end Go.Proofs.Ytplekfgadbjgdaa

