/- The polynomial with one letter more, of either sign. Plain law. -/
import Derived.Test.YtckopilciekfbaaQJonesOne0
import Derived.Test.YtckopilciekfbaaQJonesOne1
import Derived.Test.YtckopilciekfbaaQJonesOne2
import Derived.Test.YtckopilciekfbaaQJonesOne5
import Derived.Test.YtckopilciekfbaaQJonesOne6
import Derived.Test.YtckopilciekfbaaQJonesOne7
import Derived.Test.YtckopilciekfbaaQJonesOne8
import Derived.Test.YtckopilciekfbaaQJonesOne9
import Derived.Test.YtckopilciekfbaaQJonesOne10
import Derived.Test.YtckopilciekfbaaQJonesOne11
import Derived.Test.YtckopilciekfbaaQJonesOne13
import Derived.Test.YtckopilciekfbaaQJonesOne14
import Derived.Test.YtckopilciekfbaaQJonesOne15
import Derived.Test.YtckopilciekfbaaQJonesOne16
import Derived.Test.YtckopilciekfbaaQJonesOne17
import Derived.Test.YtckopilciekfbaaQJonesOne18
import Derived.Test.YtckopilciekfbaaQJonesOne19
import Derived.Test.YtckopilciekfbaaQJonesOne20
import Derived.Test.YtckopilciekfbaaQJonesOne21
import Derived.Test.YtckopilciekfbaaQJonesOne22
import Derived.Test.YtckopilciekfbaaQJonesOne23
import Derived.Test.YtckopilciekfbaaQJonesOne24
import Derived.Test.YtckopilciekfbaaQJonesOne25
import Derived.Test.YtckopilciekfbaaQJonesOne26
import Derived.Test.YtckopilciekfbaaQJonesOne27
import Derived.Test.YtckopilciekfbaaQJonesOne28
import Derived.Test.YtckopilciekfbaaQJonesOne29
import Derived.Test.YtckopilciekfbaaQJonesOne30
import Derived.Test.YtckopilciekfbaaQJonesOne31
import Derived.Test.YtckopilciekfbaaQJonesOne32
import Derived.Test.YtckopilciekfbaaQJonesOne34
import Derived.Test.YtckopilciekfbaaQJonesOne35
import Derived.Test.YtckopilciekfbaaQJonesOne36
import Derived.Test.YtckopilciekfbaaQJonesOne37
import Derived.Test.YtckopilciekfbaaQJonesOne38
import Derived.Test.YtckopilciekfbaaQJonesOne39
import Derived.Test.YtckopilciekfbaaQJonesOne40
import Derived.Test.YtckopilciekfbaaQJonesOne41
import Derived.Test.YtckopilciekfbaaQJonesOne42
import Derived.RangeFuncNested
import Derived.RangeFuncBound
import Derived.RangeFuncCalls
import Derived.RangeFuncLeaves
import Derived.RangeFuncBox
import Derived.Shelf.Abstract
import Derived.Shelf.RegionOpen
import Derived.OwnWalkIn
import Derived.TacticsInMore
import Derived.LoopNIn
import Derived.LoopIn
import Derived.Maps.AppendAt
import Derived.OrdersIn
import Derived.OrdersHeld
import Derived.Deep.RegionHeld
import Derived.Deep.CutRange
import Derived.Deep.RegionLaw
namespace Go.Proofs.Ytckopilciekfbaa
open Go.TL

section
variable {P : List Nat} {N Tr : Nat} {t : Rat}
theorem wordJ_append (xs ys : List Int) (f : Nat → Rat) : wordJ P N t (xs ++ ys) f = wordJ P N t ys (wordJ P N t xs f) := by unfold wordJ; rw [List.foldl_append]
/-- The generator h alone. -/
def genJ (P : List Nat) (N h : Nat) (t : Rat) (f : Nat → Rat) (j : Nat) : Rat := sumQ N fun i => f i * if j = (PT P i h).1 then dl t ^ (PT P i h).2 else 0
theorem stepJ_two {n : Nat} {S : List (List Nat)} (H : MJ n N S P Tr) (x : Int) (f : Nat → Rat) (j : Nat) (hj : j < N) : stepJ P N t x f j = t ^ exJ x 0 * f j + t ^ exJ x 1 * genJ P N x.natAbs t f j := by
  unfold stepJ genJ
  rw [← sumQ_mul]
  have h1 : f j = sumQ N fun i => f i * if j = i then 1 else 0 := by
    rw [sumQ_one hj (fun i _ hi => by rw [if_neg (fun e => hi e.symm), Rat.mul_zero]), if_pos rfl, Rat.mul_one]
  rw [h1, ← sumQ_mul, ← sumQ_add]
  refine sumQ_congr fun i hi => ?_
  unfold cfJ
  have e0 := H.eno i hi
  simp only [if_true, e0, Nat.one_ne_zero, if_false, Rat.pow_zero]
  split <;> split <;> grind
end
theorem sumL_one (x : Int) : sumL [x] = sgnI x := by simp [sumL]
theorem signJ_succ (s : Int) : signJ (s + 1) = -signJ s ∧ signJ (s + -1) = -signJ s := by unfold signJ; constructor <;> split <;> split <;> omega
end Go.Proofs.Ytckopilciekfbaa

