/- alexander.Determinant walked. -/
import Derived.Test.YtckopilciekfbaaQColorDet0
import Derived.Test.YtckopilciekfbaaQColorDet1
import Derived.Test.YtckopilciekfbaaQColorDet2
import Derived.Test.YtckopilciekfbaaQColorDet3
import Derived.Test.YtckopilciekfbaaQColorDet4
import Derived.Test.YtckopilciekfbaaQColorDet5
import Derived.Test.YtckopilciekfbaaQColorDet6
import Derived.Test.YtckopilciekfbaaQColorDet7
import Derived.Test.YtckopilciekfbaaQColorDet8
import Derived.Test.YtckopilciekfbaaQColorDet10
import Derived.Test.YtckopilciekfbaaQColorDet11
import Derived.Test.YtckopilciekfbaaQColorDet12
import Derived.Test.YtckopilciekfbaaQColorDet13
import Derived.Test.YtckopilciekfbaaQColorDet14
import Derived.Test.YtckopilciekfbaaQColorDet15
import Derived.Test.YtckopilciekfbaaQColorDet16
import Derived.Test.YtckopilciekfbaaQColorDet17
import Derived.Test.YtckopilciekfbaaQColorDet20
import Derived.Test.YtckopilciekfbaaQColorDet21
import Derived.Test.YtckopilciekfbaaQColorDet22
import Derived.Test.YtckopilciekfbaaQColorDet23
import Derived.Test.YtckopilciekfbaaQColorDet24
import Derived.Test.YtckopilciekfbaaQColorDet25
import Derived.Test.YtckopilciekfbaaQColorDet27
import Derived.Test.YtckopilciekfbaaQColorDet37
import Derived.Test.YtckopilciekfbaaQColorDet38
import Derived.RangeFuncNested
import Derived.RangeFuncBound
import Derived.RangeFuncCalls
import Derived.RangeFuncLeaves
import Derived.RangeFuncBox
import Derived.Shelf.Abstract
import Derived.Shelf.RegionOpen
import Derived.OwnWalkIn
import Derived.TacticsInMore
import Derived.LoopNIn
import Derived.LoopIn
import Derived.Maps.AppendAt
namespace Go.Proofs.Ytckopilciekfbaa
open Go.RowKit Go.Sl

set_option maxRecDepth 100000 in
theorem adet_calls (n : Nat) (v : Value) (xs : List Int) (w : World) (hv : Ints w v xs) (h1 : 2 ≤ n) (h2 : n ≤ 6) (hx : BWord (n : Int) xs) (hl : xs.length ≤ 20) (hpf : ∀ i k, i < n → k < n → PFit (nthp (rowM n xs i) k) ∧ n1 (nthp (rowM n xs i) k).c ≤ 100000000000000) (hfit : ExpFit (n - 1) (alexM n xs)) (hok : POk (expandL (n - 1) (alexM n xs)))
    (hok2 : POk (pnorm (expandL (n - 1) (alexM n xs)))) (hat : (atR (-1) (pnorm (expandL (n - 1) (alexM n xs))).low (pnorm (expandL (n - 1) (alexM n xs))).c).natAbs ≤ 1000000000000) :
    Calls Try.prog 18 #[.int .i64 n, v] w fun e w' => e = .returned (.tuple #[.int .i64 ((atR (-1) (pnorm (expandL (n - 1) (alexM n xs))).low (pnorm (expandL (n - 1) (alexM n xs))).c).natAbs : Nat), .int .i64 0]) ∧ Below w.heap.size w w' := by
  have sv := hv.isSl
  have HC := Lib.hid (alex_calls n v xs w hv h1 h2 hx hl hpf hfit hok)
  obtain ⟨D, hD⟩ : ∃ D, pnorm (expandL (n - 1) (alexM n xs)) = D := ⟨_, rfl⟩
  rw [hD] at HC hok2 hat ⊢
  have HOK := Lib.hid hok2
  clear hD hv hx hpf hfit hok hok2 hl
  obtain ⟨z, hz⟩ : ∃ z, atR (-1) D.low D.c = z := ⟨_, rfl⟩
  rw [hz] at hat ⊢
  have HZ := Lib.hid hz; clear hz
  go_enter Try.func18, Try.ntmps18
  go_wp2_with fail
  refine HC.out.mono ?_
  rintro e w1 ⟨s, rfl, hs, hb⟩
  have ss := hs.isSl
  have HS := Lib.hid (hs.ints.alloc (.cells #[.int .i64 D.low, s] 35))
  have HB := Lib.hid (hb.alloc hb.size (.cells #[.int .i64 D.low, s] 35))
  clear hs hb HC
  go_wp2_with fail
  refine (at_calls D s (-1) _ HS.out HOK.out (.inr rfl)).mono ?_
  rintro e w2 ⟨rfl, hb⟩
  rw [HZ.out]
  have HB2 := Lib.hid (Below.chain HB.out hb)
  have hm : max z (-z) = (z.natAbs : Int) := by omega
  have hw : IntKind.i64.wrap (-z) = -z := IntWalk.i64_in _ ⟨by omega, by omega⟩
  have HM := Lib.hid hm
  clear hb
  go_wp2_with fail
  go_ret2
  exact ⟨rfl, HB2.out⟩

end Go.Proofs.Ytckopilciekfbaa

