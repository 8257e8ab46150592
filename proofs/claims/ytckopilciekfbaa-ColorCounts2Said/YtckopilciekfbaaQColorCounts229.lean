/- Comparing matrices of polynomials: slices.EqualFunc twice, and the statements' matrices: equal ones. -/
import Derived.Test.YtckopilciekfbaaQColorCounts20
import Derived.Test.YtckopilciekfbaaQColorCounts21
import Derived.Test.YtckopilciekfbaaQColorCounts22
import Derived.Test.YtckopilciekfbaaQColorCounts24
import Derived.Test.YtckopilciekfbaaQColorCounts25
import Derived.Test.YtckopilciekfbaaQColorCounts26
import Derived.Test.YtckopilciekfbaaQColorCounts27
import Derived.Test.YtckopilciekfbaaQColorCounts28
import Derived.Test.YtckopilciekfbaaQColorCounts210
import Derived.Test.YtckopilciekfbaaQColorCounts212
import Derived.Test.YtckopilciekfbaaQColorCounts219

namespace Go.Proofs.Ytckopilciekfbaa
open Go.RowKit Go.Sl

/-- A matrix of polynomials that may be read. -/
structure MRead (W : World) (v : Value) (vs : List Value) (m : List (List LP)) : Prop where
  sl : Sl W v 1 vs
  len : vs.length = m.length
  row : ∀ i, i < m.length → ∃ us, PRead W (nthv vs i) us (nthm m i)
theorem MRead.isSl {W : World} {v : Value} {vs : List Value} {m : List (List LP)} (h : MRead W v vs m) : IsSl v := h.sl.1
theorem MRead.vlen {W : World} {v : Value} {vs : List Value} {m : List (List LP)} (h : MRead W v vs m) : Go.Sl.vlen v = m.length := by have := h.sl.2.1; rw [h.len] at this; omega
theorem MRead.below {W W' : World} {v : Value} {vs : List Value} {m : List (List LP)} (h : MRead W v vs m) (hb : Below W.heap.size W W') : MRead W' v vs m :=
  ⟨h.sl.below hb, h.len, fun i hi => let ⟨us, k⟩ := h.row i hi; ⟨us, k.below hb⟩⟩
theorem MRead.cell {W : World} {v : Value} {vs : List Value} {m : List (List LP)} (h : MRead W v vs m) {i : Nat} (hi : i < m.length) : W.cell? (vat v i) = some (nthv vs i) := by
  have hi' : i < vs.length := by rw [h.len]; exact hi
  rw [nthv_lt hi']; exact h.sl.cell hi'

end Go.Proofs.Ytckopilciekfbaa

