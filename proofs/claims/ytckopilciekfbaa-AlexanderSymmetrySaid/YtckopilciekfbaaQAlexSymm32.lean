/- Comparing matrices of polynomials: slices.EqualFunc twice, and the statements' matrices: equal ones. -/
import Derived.Test.YtckopilciekfbaaQAlexSymm0
import Derived.Test.YtckopilciekfbaaQAlexSymm1
import Derived.Test.YtckopilciekfbaaQAlexSymm2
import Derived.Test.YtckopilciekfbaaQAlexSymm3
import Derived.Test.YtckopilciekfbaaQAlexSymm4
import Derived.Test.YtckopilciekfbaaQAlexSymm5
import Derived.Test.YtckopilciekfbaaQAlexSymm6
import Derived.Test.YtckopilciekfbaaQAlexSymm8
import Derived.Test.YtckopilciekfbaaQAlexSymm10
import Derived.Test.YtckopilciekfbaaQAlexSymm11
import Derived.Test.YtckopilciekfbaaQAlexSymm12
import Derived.Test.YtckopilciekfbaaQAlexSymm13
import Derived.Test.YtckopilciekfbaaQAlexSymm14

namespace Go.Proofs.Ytckopilciekfbaa
open Go.RowKit Go.Sl

/-- A matrix of polynomials that may be read. -/
structure MRead (W : World) (v : Value) (vs : List Value) (m : List (List LP)) : Prop where
  sl : Sl W v 1 vs
  len : vs.length = m.length
  row : ∀ i, i < m.length → ∃ us, PRead W (nthv vs i) us (nthm m i)
theorem PMat.mread {W : World} {B : Nat} {v : Value} {vs : List Value} {m : List (List LP)} (h : PMat W B v vs m) (hl : vs.length = m.length) : MRead W v vs m :=
  ⟨h.own.sl, hl, fun i hi => let ⟨us, k⟩ := h.row i hi; ⟨us, k.read⟩⟩
theorem MRead.isSl {W : World} {v : Value} {vs : List Value} {m : List (List LP)} (h : MRead W v vs m) : IsSl v := h.sl.1
theorem MRead.vlen {W : World} {v : Value} {vs : List Value} {m : List (List LP)} (h : MRead W v vs m) : Go.Sl.vlen v = m.length := by have := h.sl.2.1; rw [h.len] at this; omega
theorem MRead.below {W W' : World} {v : Value} {vs : List Value} {m : List (List LP)} (h : MRead W v vs m) (hb : Below W.heap.size W W') : MRead W' v vs m :=
  ⟨h.sl.below hb, h.len, fun i hi => let ⟨us, k⟩ := h.row i hi; ⟨us, k.below hb⟩⟩
theorem MRead.cell {W : World} {v : Value} {vs : List Value} {m : List (List LP)} (h : MRead W v vs m) {i : Nat} (hi : i < m.length) : W.cell? (vat v i) = some (nthv vs i) := by
  have hi' : i < vs.length := by rw [h.len]; exact hi
  rw [nthv_lt hi']; exact h.sl.cell hi'

end Go.Proofs.Ytckopilciekfbaa

