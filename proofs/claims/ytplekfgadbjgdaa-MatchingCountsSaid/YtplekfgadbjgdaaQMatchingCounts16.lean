/- laurent.Trim, Term, Check, both, Fit walked. -/
import Derived.Test.YtplekfgadbjgdaaQMatchingCounts0
import Derived.Test.YtplekfgadbjgdaaQMatchingCounts1
import Derived.Test.YtplekfgadbjgdaaQMatchingCounts10
import Derived.Test.YtplekfgadbjgdaaQMatchingCounts11
import Derived.Test.YtplekfgadbjgdaaQMatchingCounts12
import Derived.Test.YtplekfgadbjgdaaQMatchingCounts15
import Derived.Shelf.Abstract
import Derived.Deep.QuietTactic
import Derived.BigQuiet
namespace Go.Proofs.Ytplekfgadbjgdaa
open Go.RowKit Go.Sl

@[go_sem] theorem run_store_func {P : Program} {w : World} {a : Addr} {m : Mode} (f : Fn) (b c : Array Value) : (store a (.func f b c) m).run P w = stored P w a (.func f b c) m := run_store P w a _ m rfl

end Go.Proofs.Ytplekfgadbjgdaa

