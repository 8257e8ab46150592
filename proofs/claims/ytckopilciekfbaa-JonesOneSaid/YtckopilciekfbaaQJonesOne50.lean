/- What LinkSums calls besides: link.Components, braid.ExponentSum, slices.IsSorted, and the statement's fact. -/
import Derived.Test.YtckopilciekfbaaQJonesOne0
import Derived.Test.YtckopilciekfbaaQJonesOne1
import Derived.Test.YtckopilciekfbaaQJonesOne5
import Derived.Test.YtckopilciekfbaaQJonesOne6
import Derived.Test.YtckopilciekfbaaQJonesOne7
import Derived.Test.YtckopilciekfbaaQJonesOne8
import Derived.Test.YtckopilciekfbaaQJonesOne9
import Derived.Test.YtckopilciekfbaaQJonesOne10
import Derived.Test.YtckopilciekfbaaQJonesOne12
import Derived.Test.YtckopilciekfbaaQJonesOne13
import Derived.Test.YtckopilciekfbaaQJonesOne18
import Derived.Test.YtckopilciekfbaaQJonesOne19
import Derived.Test.YtckopilciekfbaaQJonesOne20
import Derived.Test.YtckopilciekfbaaQJonesOne21
import Derived.Test.YtckopilciekfbaaQJonesOne22
import Derived.Test.YtckopilciekfbaaQJonesOne24
import Derived.Test.YtckopilciekfbaaQJonesOne32
import Derived.Test.YtckopilciekfbaaQJonesOne39
import Derived.Test.YtckopilciekfbaaQJonesOne40
import Derived.Test.YtckopilciekfbaaQJonesOne44
import Derived.Test.YtckopilciekfbaaQJonesOne46
import Derived.Test.YtckopilciekfbaaQJonesOne47
import Derived.Test.YtckopilciekfbaaQJonesOne48
import Derived.Test.YtckopilciekfbaaQJonesOne49
import Derived.Shelf.Strings.Builder1
import Derived.RangeFuncNested
import Derived.RangeFuncBound
import Derived.RangeFuncCalls
import Derived.RangeFuncLeaves
import Derived.RangeFuncBox
import Derived.Shelf.Abstract
import Derived.Shelf.RegionOpen
import Derived.OwnWalkIn
import Derived.TacticsInMore
import Derived.LoopNIn
import Derived.LoopIn
import Derived.Maps.AppendAt
import Derived.Deep.RegionLaw
import Derived.OrdersIn
import Derived.OrdersHeld
import Derived.Deep.RegionHeld
import Derived.Lib.SliceRun
namespace Go.Proofs.Ytckopilciekfbaa
open Go.RowKit Go.Sl

set_option maxRecDepth 100000 in
theorem components_calls (n : Nat) (v : Value) (xs : List Int) (w : World) (hv : Ints w v xs) (h1 : 2 ≤ n) (h2 : n ≤ 6) (hx : BWord n xs) (hl : xs.length ≤ 30) :
    Calls Try.prog 33 #[.int .i64 n, v] w fun e w' => ∃ (out : Value) (vs : List Value) (C : List (List Int)) (lab : Nat → Nat), e = .returned (.tuple #[out, .int .i64 0]) ∧ RowsV w' out vs C ∧ CycOK (backL (strandsL n xs)) (C.map List.length) ∧ LabOK (backL (strandsL n xs)) C lab ∧ Below w.heap.size w w' := by
  have sv := hv.isSl
  have HCK := Lib.hid (bcheck_calls n v xs w hv (by omega) (by omega) hx hl)
  have HCO := Lib.hid (fun W (hb : Below w.heap.size w W) => comps_calls n v xs W (hv.below hb) h1 h2 hx hl)
  clear hv hx hl
  go_enter Try.func33, Try.ntmps33
  go_wp2_with fail
  refine HCK.out.mono ?_
  rintro e w1 ⟨rfl, hb1⟩
  have HB1 := Lib.hid hb1
  clear hb1 HCK
  go_wp2_with fail
  refine (HCO.out _ HB1.out).mono ?_
  rintro e w2 ⟨out, vs, C, lab, rfl, hr, hcy, hlab, hb2⟩
  have so := hr.isSl
  have HR := Lib.hid hr; have HCY := Lib.hid hcy; have HLAB := Lib.hid hlab; have HB2 := Lib.hid (Below.chain HB1.out hb2)
  clear hr hcy hlab hb2 HCO
  go_wp2_with fail
  go_ret2
  exact ⟨_, vs, C, lab, rfl, HR.out, HCY.out, HLAB.out, HB2.out⟩

end Go.Proofs.Ytckopilciekfbaa

