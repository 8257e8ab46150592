/- link.IsKnot walked. -/
import Derived.Test.YtckopilciekfbaaQAlexSymm0
import Derived.Test.YtckopilciekfbaaQAlexSymm1
import Derived.Test.YtckopilciekfbaaQAlexSymm2
import Derived.Test.YtckopilciekfbaaQAlexSymm3
import Derived.Test.YtckopilciekfbaaQAlexSymm4
import Derived.Test.YtckopilciekfbaaQAlexSymm5
import Derived.Test.YtckopilciekfbaaQAlexSymm6
import Derived.Test.YtckopilciekfbaaQAlexSymm7
import Derived.Test.YtckopilciekfbaaQAlexSymm9
import Derived.Test.YtckopilciekfbaaQAlexSymm10
import Derived.Test.YtckopilciekfbaaQAlexSymm15
import Derived.Test.YtckopilciekfbaaQAlexSymm16
import Derived.Test.YtckopilciekfbaaQAlexSymm17
import Derived.Test.YtckopilciekfbaaQAlexSymm19
import Derived.Test.YtckopilciekfbaaQAlexSymm23
import Derived.Test.YtckopilciekfbaaQAlexSymm24
import Derived.Test.YtckopilciekfbaaQAlexSymm25
import Derived.Test.YtckopilciekfbaaQAlexSymm42
import Derived.Test.YtckopilciekfbaaQAlexSymm43
import Derived.Test.YtckopilciekfbaaQAlexSymm44
import Derived.Test.YtckopilciekfbaaQAlexSymm45
import Derived.Test.YtckopilciekfbaaQAlexSymm47
import Derived.Test.YtckopilciekfbaaQAlexSymm48
import Derived.Lib.SliceRun
import Derived.RangeFuncNested
import Derived.RangeFuncBound
import Derived.RangeFuncCalls
import Derived.RangeFuncLeaves
import Derived.RangeFuncBox
import Derived.Shelf.Abstract
import Derived.Shelf.RegionOpen
import Derived.OwnWalkIn
import Derived.TacticsInMore
import Derived.LoopNIn
import Derived.LoopIn
import Derived.Maps.AppendAt
import Derived.OrdersIn
import Derived.OrdersHeld
import Derived.Deep.RegionHeld
namespace Go.Proofs.Ytckopilciekfbaa
open Go.RowKit Go.Sl

set_option maxRecDepth 100000 in
theorem isKnot_calls (n : Nat) (v : Value) (xs : List Int) (w : World) (hv : Ints w v xs) (h1 : 2 ≤ n) (h2 : n ≤ 6) (hx : BWord n xs) (hl : xs.length ≤ 30) :
    Calls Try.prog 19 #[.int .i64 n, v] w fun e w' => ∃ L : List Nat, e = .returned (.tuple #[.bool (decide (L.length = 1)), .int .i64 0]) ∧ CycOK (backL (strandsL n xs)) L ∧ Below w.heap.size w w' := by
  have sv := hv.isSl
  have HCK := Lib.hid (bcheck_calls n v xs w hv (by omega) (by omega) hx hl)
  have HCO := Lib.hid (fun W (hb : Below w.heap.size w W) => comps_calls n v xs W (hv.below hb) h1 h2 hx hl)
  clear hv hx hl
  go_enter Try.func19, Try.ntmps19
  go_wp2_with fail
  refine HCK.out.mono ?_
  rintro e w1 ⟨rfl, hb1⟩
  have HB1 := Lib.hid hb1
  clear hb1 HCK
  go_wp2_with fail
  refine (HCO.out _ HB1.out).mono ?_
  rintro e w2 ⟨out, vs, C, lab, rfl, hr, hcy, hlab, hb2⟩
  have so := hr.isSl
  have lo := hr.len
  have HCY := Lib.hid hcy; have HB2 := Lib.hid (Below.chain HB1.out hb2)
  obtain ⟨K, hK⟩ : ∃ K, C.length = K := ⟨_, rfl⟩
  rw [hK] at lo
  have HK := Lib.hid hK
  clear hr hcy hlab hb2 HCO hK
  have hbq : ((K : Int) == 1) = decide (K = 1) := by
    by_cases h : K = 1
    · subst h; rfl
    · rw [decide_eq_false h, beq_eq_false_iff_ne]; omega
  have HBQ := Lib.hid hbq; clear hbq
  go_wp2_with fail
  go_ret2
  refine ⟨C.map List.length, ?_, HCY.out, HB2.out⟩
  rw [List.length_map, HK.out, ← HBQ.out]; rfl

end Go.Proofs.Ytckopilciekfbaa

