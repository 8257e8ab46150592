/- ArtinRelations: for every input the statement returns true, and nothing that was there has changed. -/
import Derived.Test.YtnmklkjlcpgjmaaQTopWordProblem0
import Derived.Test.YtnmklkjlcpgjmaaQTopWordProblem1
import Derived.Test.YtnmklkjlcpgjmaaQTopWordProblem3
import Derived.Test.YtnmklkjlcpgjmaaQTopWordProblem5
import Derived.Test.YtnmklkjlcpgjmaaQTopWordProblem6
import Derived.Test.YtnmklkjlcpgjmaaQTopWordProblem7
import Derived.Test.YtnmklkjlcpgjmaaQTopWordProblem8
import Derived.Test.YtnmklkjlcpgjmaaQTopWordProblem9
import Derived.Test.YtnmklkjlcpgjmaaQTopWordProblem10
import Derived.Test.YtnmklkjlcpgjmaaQTopWordProblem11
import Derived.Test.YtnmklkjlcpgjmaaQTopWordProblem15
import Derived.Test.YtnmklkjlcpgjmaaQTopWordProblem16
import Derived.Test.YtnmklkjlcpgjmaaQTopWordProblem17
import Derived.Test.YtnmklkjlcpgjmaaQTopWordProblem18
import Derived.Test.YtnmklkjlcpgjmaaQTopWordProblem19
import Derived.Test.YtnmklkjlcpgjmaaQTopWordProblem20
import Derived.Test.YtnmklkjlcpgjmaaQTopWordProblem23
import Derived.Test.YtnmklkjlcpgjmaaQTopWordProblem30
import Derived.Test.YtnmklkjlcpgjmaaQTopWordProblem31
import Derived.Test.YtnmklkjlcpgjmaaQTopWordProblem32

namespace Go.Proofs.Ytnmklkjlcpgjmaa
open Go.RowKit Go.Sl
attribute [local go_sem] Oper.semAt_some

theorem images_calls' (n : Nat) (v : Value) (xs : List Int) (w : World) (hv : Ints w v xs) (h1 : 2 ≤ n) (h2 : n ≤ 6) (hx : BWord n xs) (hl : xs.length ≤ 30) :
    Calls Try.prog 22 #[.int .i64 n, v] w fun e w' => ∃ (u : Value) (er : Int), e = .returned (.tuple #[u, .int .i64 er]) ∧ IsSl u ∧ (er = 2 ∧ TooLong n xs ∨ er = 0 ∧ ∃ us, RowsV w' u us (imagesA n xs)) ∧ Below w.heap.size w w' := by
  refine (images_calls n v xs w hv h1 h2 hx hl).mono ?_
  rintro e w' ⟨⟨rfl, h⟩ | ⟨u, vs, rfl, h⟩, hb⟩
  · exact ⟨_, _, rfl, isSl_nil, .inl ⟨rfl, h⟩, hb⟩
  · exact ⟨_, _, rfl, h.rows.isSl, .inr ⟨rfl, _, h.rows⟩, hb⟩

end Go.Proofs.Ytnmklkjlcpgjmaa

