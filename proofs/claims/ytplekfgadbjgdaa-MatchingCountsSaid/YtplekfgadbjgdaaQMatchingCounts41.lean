/- Elements on 6 strands: all parts together. -/
import Derived.Test.YtplekfgadbjgdaaQMatchingCounts0
import Derived.Test.YtplekfgadbjgdaaQMatchingCounts1
import Derived.Test.YtplekfgadbjgdaaQMatchingCounts10
import Derived.Test.YtplekfgadbjgdaaQMatchingCounts11
import Derived.Test.YtplekfgadbjgdaaQMatchingCounts12
import Derived.Test.YtplekfgadbjgdaaQMatchingCounts13
import Derived.Test.YtplekfgadbjgdaaQMatchingCounts14
import Derived.Test.YtplekfgadbjgdaaQMatchingCounts15
import Derived.Test.YtplekfgadbjgdaaQMatchingCounts16
import Derived.Test.YtplekfgadbjgdaaQMatchingCounts17
import Derived.Test.YtplekfgadbjgdaaQMatchingCounts18
import Derived.Test.YtplekfgadbjgdaaQMatchingCounts19
import Derived.Test.YtplekfgadbjgdaaQMatchingCounts20
import Derived.Test.YtplekfgadbjgdaaQMatchingCounts21
import Derived.Test.YtplekfgadbjgdaaQMatchingCounts22
import Derived.Test.YtplekfgadbjgdaaQMatchingCounts23
import Derived.Test.YtplekfgadbjgdaaQMatchingCounts24
import Derived.Test.YtplekfgadbjgdaaQMatchingCounts25
import Derived.Test.YtplekfgadbjgdaaQMatchingCounts26
import Derived.Test.YtplekfgadbjgdaaQMatchingCounts27
import Derived.Test.YtplekfgadbjgdaaQMatchingCounts28
import Derived.Test.YtplekfgadbjgdaaQMatchingCounts29
import Derived.Test.YtplekfgadbjgdaaQMatchingCounts36
import Derived.Test.YtplekfgadbjgdaaQMatchingCounts37
import Derived.Test.YtplekfgadbjgdaaQMatchingCounts38
import Derived.Test.YtplekfgadbjgdaaQMatchingCounts39
import Derived.Test.YtplekfgadbjgdaaQMatchingCounts40
import Derived.Deep.RegionLaw
import Derived.RangeFuncNested
import Derived.RangeFuncBound
import Derived.RangeFuncCalls
import Derived.RangeFuncLeaves
import Derived.RangeFuncBox
import Derived.Shelf.Abstract
import Derived.Shelf.RegionOpen
import Derived.OwnWalkIn
import Derived.TacticsInMore
import Derived.LoopNIn
import Derived.LoopIn
import Derived.Maps.AppendAt
namespace Go.Proofs.Ytplekfgadbjgdaa
open Go.RowKit Go.Sl Go.TL
def fillStep (k : Nat) : List (List Nat) := if Nat.beq (List.getD [0, 0, 0, 0, 0, 0, 0, 0, 0, 0, 0, 0] k 0) 0 then fillR 6 6 ((List.set [0, 0, 0, 0, 0, 0, 0, 0, 0, 0, 0, 0] 0 (k + 1)).set k (0 + 1)) else []
theorem fillStep_1 : fillStep 1 = fillP1 := by unfold fillStep; rw [if_pos (show Nat.beq (List.getD [0, 0, 0, 0, 0, 0, 0, 0, 0, 0, 0, 0] 1 0) 0 = true from rfl)]; exact fill6_1
theorem fillStep_2 : fillStep 2 = fillP2 := by unfold fillStep; rw [if_pos (show Nat.beq (List.getD [0, 0, 0, 0, 0, 0, 0, 0, 0, 0, 0, 0] 2 0) 0 = true from rfl)]; exact fill6_2
theorem fillStep_3 : fillStep 3 = fillP3 := by unfold fillStep; rw [if_pos (show Nat.beq (List.getD [0, 0, 0, 0, 0, 0, 0, 0, 0, 0, 0, 0] 3 0) 0 = true from rfl)]; exact fill6_3
theorem fillStep_4 : fillStep 4 = fillP4 := by unfold fillStep; rw [if_pos (show Nat.beq (List.getD [0, 0, 0, 0, 0, 0, 0, 0, 0, 0, 0, 0] 4 0) 0 = true from rfl)]; exact fill6_4
theorem fillStep_5 : fillStep 5 = fillP5 := by unfold fillStep; rw [if_pos (show Nat.beq (List.getD [0, 0, 0, 0, 0, 0, 0, 0, 0, 0, 0, 0] 5 0) 0 = true from rfl)]; exact fill6_5
theorem fillStep_6 : fillStep 6 = fillP6 := by unfold fillStep; rw [if_pos (show Nat.beq (List.getD [0, 0, 0, 0, 0, 0, 0, 0, 0, 0, 0, 0] 6 0) 0 = true from rfl)]; exact fill6_6
theorem fillStep_7 : fillStep 7 = fillP7 := by unfold fillStep; rw [if_pos (show Nat.beq (List.getD [0, 0, 0, 0, 0, 0, 0, 0, 0, 0, 0, 0] 7 0) 0 = true from rfl)]; exact fill6_7
theorem fillStep_8 : fillStep 8 = fillP8 := by unfold fillStep; rw [if_pos (show Nat.beq (List.getD [0, 0, 0, 0, 0, 0, 0, 0, 0, 0, 0, 0] 8 0) 0 = true from rfl)]; exact fill6_8
theorem fillStep_9 : fillStep 9 = fillP9 := by unfold fillStep; rw [if_pos (show Nat.beq (List.getD [0, 0, 0, 0, 0, 0, 0, 0, 0, 0, 0, 0] 9 0) 0 = true from rfl)]; exact fill6_9
theorem fillStep_10 : fillStep 10 = fillP10 := by unfold fillStep; rw [if_pos (show Nat.beq (List.getD [0, 0, 0, 0, 0, 0, 0, 0, 0, 0, 0, 0] 10 0) 0 = true from rfl)]; exact fill6_10
theorem fillStep_11 : fillStep 11 = fillP11 := by unfold fillStep; rw [if_pos (show Nat.beq (List.getD [0, 0, 0, 0, 0, 0, 0, 0, 0, 0, 0, 0] 11 0) 0 = true from rfl)]; exact fill6_11
theorem fillR_some {n f : Nat} {d : List Nat} {i : Nat} (h : free0 d 0 = some i) : fillR n (f + 1) d = (List.range' (i + 1) (d.length - (i + 1))).flatMap fun k => if Nat.beq (d.getD k 0) 0 then fillR n f ((d.set i (k + 1)).set k (i + 1)) else [] := by
  rw [fillR, h]
theorem fillA6 : fillA 6 = fillP1 ++ (fillP2 ++ (fillP3 ++ (fillP4 ++ (fillP5 ++ (fillP6 ++ (fillP7 ++ (fillP8 ++ (fillP9 ++ (fillP10 ++ (fillP11 ++ [])))))))))) := by
  show fillR 6 (6 + 1) [0, 0, 0, 0, 0, 0, 0, 0, 0, 0, 0, 0] = _
  rw [fillR_some (i := 0) rfl]
  show (([1, 2, 3, 4, 5, 6, 7, 8, 9, 10, 11] : List Nat).flatMap fillStep) = _
  simp only [List.flatMap_cons, List.flatMap_nil, fillStep_1, fillStep_2, fillStep_3, fillStep_4, fillStep_5, fillStep_6, fillStep_7, fillStep_8, fillStep_9, fillStep_10, fillStep_11]
theorem fill6 : fillOK 6 132 mS6 = true := by
  unfold fillOK
  rw [fillA6]
  decide +kernel
end Go.Proofs.Ytplekfgadbjgdaa

