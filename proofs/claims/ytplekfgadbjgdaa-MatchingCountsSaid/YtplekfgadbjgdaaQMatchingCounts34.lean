/- matchings: the fact matched, walked. -/
import Derived.Test.YtplekfgadbjgdaaQMatchingCounts0
import Derived.Test.YtplekfgadbjgdaaQMatchingCounts1
import Derived.Test.YtplekfgadbjgdaaQMatchingCounts10
import Derived.Test.YtplekfgadbjgdaaQMatchingCounts11
import Derived.Test.YtplekfgadbjgdaaQMatchingCounts12
import Derived.Test.YtplekfgadbjgdaaQMatchingCounts13
import Derived.Test.YtplekfgadbjgdaaQMatchingCounts14
import Derived.Test.YtplekfgadbjgdaaQMatchingCounts15
import Derived.Test.YtplekfgadbjgdaaQMatchingCounts16
import Derived.Test.YtplekfgadbjgdaaQMatchingCounts17
import Derived.Test.YtplekfgadbjgdaaQMatchingCounts18
import Derived.Test.YtplekfgadbjgdaaQMatchingCounts19
import Derived.Test.YtplekfgadbjgdaaQMatchingCounts20
import Derived.Test.YtplekfgadbjgdaaQMatchingCounts21
import Derived.Test.YtplekfgadbjgdaaQMatchingCounts22
import Derived.Test.YtplekfgadbjgdaaQMatchingCounts23
import Derived.Test.YtplekfgadbjgdaaQMatchingCounts24
import Derived.Test.YtplekfgadbjgdaaQMatchingCounts25
import Derived.Test.YtplekfgadbjgdaaQMatchingCounts26
import Derived.Test.YtplekfgadbjgdaaQMatchingCounts27
import Derived.Test.YtplekfgadbjgdaaQMatchingCounts28
import Derived.Test.YtplekfgadbjgdaaQMatchingCounts29
import Derived.Test.YtplekfgadbjgdaaQMatchingCounts31
import Derived.Test.YtplekfgadbjgdaaQMatchingCounts32
import Derived.Test.YtplekfgadbjgdaaQMatchingCounts33
import Derived.Deep.RegionLaw
import Derived.RangeFuncNested
import Derived.RangeFuncBound
import Derived.RangeFuncCalls
import Derived.RangeFuncLeaves
import Derived.RangeFuncBox
import Derived.Shelf.Abstract
import Derived.Shelf.RegionOpen
import Derived.OwnWalkIn
import Derived.TacticsInMore
import Derived.LoopNIn
import Derived.LoopIn
import Derived.Maps.AppendAt
namespace Go.Proofs.Ytplekfgadbjgdaa
open Go.RowKit Go.Sl
open Go.TL (lnAt addLn tlWalk tlLoops putLines putL closeLines closeL oneL cupL)

theorem cup21 : cupL 2 1 = [1, 0, 3, 2] := by decide +kernel
theorem close21 : closeL 2 [1, 0, 3, 2] = some 1 := by decide +kernel
theorem tok21 : tokB 2 [1, 0, 3, 2] = true := by decide +kernel
theorem closeB21 : closeB 2 [1, 0, 3, 2] = true := by decide +kernel

set_option maxRecDepth 100000 in
set_option maxHeartbeats 4000000 in
theorem matched_calls (w : World) :
    Calls Try.prog 15 #[] w fun e w' => e = .returned (.bool true) ∧ Below w.heap.size w w' := by
  go_enter Try.func15, Try.ntmps15
  go_wp2_with fail
  refine (tgenerator_calls 2 1 w (by decide) (by decide) (by decide) (by decide)).mono ?_
  rintro e W ⟨u, rfl, ho, hb⟩
  rw [cup21] at ho
  have su := ho.isSl
  have HO := Lib.hid ho.ints; have HB := Lib.hid hb
  clear ho hb
  go_wp2_with fail
  refine (tclosure_calls 2 [1, 0, 3, 2] u W HO.out (TOk.of tok21) (by decide) (by decide) 1 close21 (close_of closeB21)).mono ?_
  rintro e V ⟨rfl, hb2⟩
  have HO2 := Lib.hid (HO.out.below hb2); have HB2 := Lib.hid (HB.out.trans (hb2.mono HB.out.size))
  have hsz := HB2.out.size
  clear hb2
  go_wp2_with (go_at_call 40; refine (equal_calls _ _ [1, 0, 3, 2] [1, 0, 3, 2] _ (HO2.out.below ((Below.refl _ _).alloc (Nat.le_refl _) _)) (ints_lit [1, 0, 3, 2] (by simp) rfl rfl (by decide))).mono ?_; rintro e Z ⟨rfl, hz⟩; have HZ := Lib.hid hz; clear hz)

  go_ret
  exact ⟨rfl, (HB2.out.alloc hsz _).trans (HZ.out.mono (by simp; omega))⟩

end Go.Proofs.Ytplekfgadbjgdaa

