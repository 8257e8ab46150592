/- laurent.Trim, Term, Check, both, Fit walked. -/
import Derived.Test.YtckopilciekfbaaQColorCounts20
import Derived.Test.YtckopilciekfbaaQColorCounts21
import Derived.Test.YtckopilciekfbaaQColorCounts22
import Derived.Test.YtckopilciekfbaaQColorCounts24
import Derived.Test.YtckopilciekfbaaQColorCounts25
import Derived.Test.YtckopilciekfbaaQColorCounts26
import Derived.Test.YtckopilciekfbaaQColorCounts210
import Derived.Shelf.Abstract
import Derived.Deep.QuietTactic
import Derived.BigQuiet
namespace Go.Proofs.Ytckopilciekfbaa
open Go.RowKit Go.Sl

@[go_sem] theorem run_store_func {P : Program} {w : World} {a : Addr} {m : Mode} (f : Fn) (b c : Array Value) : (store a (.func f b c) m).run P w = stored P w a (.func f b c) m := run_store P w a _ m rfl

end Go.Proofs.Ytckopilciekfbaa

