/- ArtinRelations: for every input the statement returns true, and nothing that was there has changed. -/
import Derived.Test.YtmcecmnbdcbehaaQTopFox0
import Derived.Test.YtmcecmnbdcbehaaQTopFox1
import Derived.Test.YtmcecmnbdcbehaaQTopFox2
import Derived.Test.YtmcecmnbdcbehaaQTopFox3
import Derived.Test.YtmcecmnbdcbehaaQTopFox4
import Derived.Test.YtmcecmnbdcbehaaQTopFox5
import Derived.Test.YtmcecmnbdcbehaaQTopFox6
import Derived.Test.YtmcecmnbdcbehaaQTopFox7
import Derived.Test.YtmcecmnbdcbehaaQTopFox9
import Derived.Test.YtmcecmnbdcbehaaQTopFox10
import Derived.Test.YtmcecmnbdcbehaaQTopFox11
import Derived.Test.YtmcecmnbdcbehaaQTopFox12
import Derived.Test.YtmcecmnbdcbehaaQTopFox13
import Derived.Test.YtmcecmnbdcbehaaQTopFox14
import Derived.Test.YtmcecmnbdcbehaaQTopFox15
import Derived.Test.YtmcecmnbdcbehaaQTopFox19
import Derived.Test.YtmcecmnbdcbehaaQTopFox22
import Derived.Test.YtmcecmnbdcbehaaQTopFox24
import Derived.Test.YtmcecmnbdcbehaaQTopFox25
import Derived.Test.YtmcecmnbdcbehaaQTopFox29
import Derived.Lib.AppendZeros
import Derived.Lib.Walk
namespace Go.Proofs.Ytmcecmnbdcbehaa
open Go.RowKit Go.Sl
attribute [local go_sem] Oper.semAt_some

theorem images_calls' (n : Nat) (v : Value) (xs : List Int) (w : World) (hv : Ints w v xs) (h1 : 2 ≤ n) (h2 : n ≤ 6) (hx : BWord n xs) (hl : xs.length ≤ 30) :
    Calls Try.prog 42 #[.int .i64 n, v] w fun e w' => ∃ (u : Value) (er : Int), e = .returned (.tuple #[u, .int .i64 er]) ∧ IsSl u ∧ (er = 2 ∧ TooLong n xs ∨ er = 0 ∧ ∃ us, RowsV w' u us (imagesA n xs)) ∧ Below w.heap.size w w' := by
  refine (images_calls n v xs w hv h1 h2 hx hl).mono ?_
  rintro e w' ⟨⟨rfl, h⟩ | ⟨u, vs, rfl, h⟩, hb⟩
  · exact ⟨_, _, rfl, isSl_nil, .inl ⟨rfl, h⟩, hb⟩
  · exact ⟨_, _, rfl, h.rows.isSl, .inr ⟨rfl, _, h.rows⟩, hb⟩

end Go.Proofs.Ytmcecmnbdcbehaa

