/- link.IsKnot walked. -/
import Derived.Test.YtckopilciekfbaaQColorDet0
import Derived.Test.YtckopilciekfbaaQColorDet1
import Derived.Test.YtckopilciekfbaaQColorDet2
import Derived.Test.YtckopilciekfbaaQColorDet3
import Derived.Test.YtckopilciekfbaaQColorDet4
import Derived.Test.YtckopilciekfbaaQColorDet5
import Derived.Test.YtckopilciekfbaaQColorDet6
import Derived.Test.YtckopilciekfbaaQColorDet7
import Derived.Test.YtckopilciekfbaaQColorDet9
import Derived.Test.YtckopilciekfbaaQColorDet10
import Derived.Test.YtckopilciekfbaaQColorDet11
import Derived.Test.YtckopilciekfbaaQColorDet16
import Derived.Test.YtckopilciekfbaaQColorDet17
import Derived.Test.YtckopilciekfbaaQColorDet18
import Derived.Test.YtckopilciekfbaaQColorDet25
import Derived.Test.YtckopilciekfbaaQColorDet28
import Derived.Test.YtckopilciekfbaaQColorDet33
import Derived.Test.YtckopilciekfbaaQColorDet34
import Derived.Test.YtckopilciekfbaaQColorDet35
import Derived.Test.YtckopilciekfbaaQColorDet36
import Derived.Test.YtckopilciekfbaaQColorDet42
import Derived.Test.YtckopilciekfbaaQColorDet44
import Derived.RangeFuncNested
import Derived.RangeFuncCalls
import Derived.OrdersIn
import Derived.OrdersHeld
import Derived.Deep.RegionHeld
import Derived.Lib.SliceRun
import Derived.RangeFuncBound
import Derived.RangeFuncLeaves
import Derived.RangeFuncBox
import Derived.Shelf.Abstract
import Derived.Shelf.RegionOpen
import Derived.OwnWalkIn
import Derived.TacticsInMore
import Derived.LoopNIn
import Derived.LoopIn
import Derived.Maps.AppendAt
namespace Go.Proofs.Ytckopilciekfbaa
open Go.RowKit Go.Sl

set_option maxRecDepth 100000 in
theorem isKnot_calls (n : Nat) (v : Value) (xs : List Int) (w : World) (hv : Ints w v xs) (h1 : 2 ≤ n) (h2 : n ≤ 6) (hx : BWord n xs) (hl : xs.length ≤ 30) :
    Calls Try.prog 19 #[.int .i64 n, v] w fun e w' => ∃ L : List Nat, e = .returned (.tuple #[.bool (decide (L.length = 1)), .int .i64 0]) ∧ CycOK (backL (strandsL n xs)) L ∧ Below w.heap.size w w' := by
  have sv := hv.isSl
  have HCK := Lib.hid (bcheck_calls n v xs w hv (by omega) (by omega) hx hl)
  have HCO := Lib.hid (fun W (hb : Below w.heap.size w W) => comps_calls n v xs W (hv.below hb) h1 h2 hx hl)
  clear hv hx hl
  go_enter Try.func19, Try.ntmps19
  go_wp2_with fail
  refine HCK.out.mono ?_
  rintro e w1 ⟨rfl, hb1⟩
  have HB1 := Lib.hid hb1
  clear hb1 HCK
  go_wp2_with fail
  refine (HCO.out _ HB1.out).mono ?_
  rintro e w2 ⟨out, vs, C, lab, rfl, hr, hcy, hlab, hb2⟩
  have so := hr.isSl
  have lo := hr.len
  have HCY := Lib.hid hcy; have HB2 := Lib.hid (Below.chain HB1.out hb2)
  obtain ⟨K, hK⟩ : ∃ K, C.length = K := ⟨_, rfl⟩
  rw [hK] at lo
  have HK := Lib.hid hK
  clear hr hcy hlab hb2 HCO hK
  have hbq : ((K : Int) == 1) = decide (K = 1) := by
    by_cases h : K = 1
    · subst h; rfl
    · rw [decide_eq_false h, beq_eq_false_iff_ne]; omega
  have HBQ := Lib.hid hbq; clear hbq
  go_wp2_with fail
  go_ret2
  refine ⟨C.map List.length, ?_, HCY.out, HB2.out⟩
  rw [List.length_map, HK.out, ← HBQ.out]; rfl

end Go.Proofs.Ytckopilciekfbaa

