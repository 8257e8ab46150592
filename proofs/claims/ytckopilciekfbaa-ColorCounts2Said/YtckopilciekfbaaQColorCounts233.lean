/- timbmake.Poly walked once more: its coefficients lie in a block of the call's own, of the type int. -/
import Derived.Test.YtckopilciekfbaaQColorCounts20
import Derived.Test.YtckopilciekfbaaQColorCounts21
import Derived.Test.YtckopilciekfbaaQColorCounts22
import Derived.Test.YtckopilciekfbaaQColorCounts23
import Derived.Test.YtckopilciekfbaaQColorCounts24
import Derived.Test.YtckopilciekfbaaQColorCounts25
import Derived.Test.YtckopilciekfbaaQColorCounts26
import Derived.Test.YtckopilciekfbaaQColorCounts27
import Derived.Test.YtckopilciekfbaaQColorCounts210
import Derived.Test.YtckopilciekfbaaQColorCounts212
import Derived.Test.YtckopilciekfbaaQColorCounts219
import Derived.Test.YtckopilciekfbaaQColorCounts231

namespace Go.Proofs.Ytckopilciekfbaa
open Go.RowKit Go.Sl

def OwnGI (w : World) (B : Nat) (v : Value) (xs : List Int) : Prop := OwnG w B 3 v (xs.map (Value.int .i64))
section
variable {w w' : World} {B : Nat} {v : Value} {xs : List Int}
theorem OwnGI.ints (h : OwnGI w B v xs) : Ints w v xs := h.sl
theorem OwnGI.isSl (h : OwnGI w B v xs) : IsSl v := h.1
theorem OwnGI.len (h : OwnGI w B v xs) : vlen v = xs.length := by have := OwnG.len h; simpa using this
theorem OwnGI.cap (h : OwnGI w B v xs) : xs.length ≤ vcap v := by have := h.len; have := h.isSl.le; omega
theorem OwnGI.below (h : OwnGI w B v xs) (hb : Below w.heap.size w w') : OwnGI w' B v xs := OwnG.below h hb
theorem OwnGI.lt (h : OwnGI w B v xs) : ∀ k, row v = some k → B ≤ k ∧ k < w.heap.size := OwnG.lt h
theorem OwnGI.low (h : OwnGI w B v xs) {B' : Nat} (hB : B' ≤ B) : OwnGI w B' v xs := OwnG.low h hB
theorem OwnGI.setOther (h : OwnGI w B v xs) {p : Addr} (hp : ∀ k, row v = some k → p.block ≠ k) (u : Value) : OwnGI (w.setCell p u) B v xs := OwnG.setOther h hp u
theorem OwnGI.grown (h : OwnGI w B v xs) {r : Option Nat} (hg : w.grownBy w' r) (hr : ∀ k, row v = some k → r ≠ some k) : OwnGI w' B v xs := OwnG.grown h hg hr
theorem OwnGI.cell (h : OwnGI w B v xs) {k : Nat} (hk : k < xs.length) : w.cell? (vat v k) = some (.int .i64 (nth xs k)) := h.ints.cell hk
theorem OwnI.g (h : OwnI w B v xs) : OwnGI w B v xs := own_G h
theorem OwnGI.tail {k : Nat} (h : OwnGI w B v (xs.drop k)) (hk : k < xs.length) : OwnGI w B (vcut v 1 (vlen v) (vcap v) 1) (xs.drop (k + 1)) := by
  rw [List.drop_eq_getElem_cons hk] at h
  exact OwnG.tail h
theorem OwnGI.head (h : OwnGI w B v xs) {k : Nat} (hk : k ≤ xs.length) : OwnGI w B (vcut v 0 k (vcap v) 1) (xs.take k) := by
  have := OwnG.head h (k := k) (by simpa using hk)
  rwa [← List.map_take] at this
end

end Go.Proofs.Ytckopilciekfbaa

