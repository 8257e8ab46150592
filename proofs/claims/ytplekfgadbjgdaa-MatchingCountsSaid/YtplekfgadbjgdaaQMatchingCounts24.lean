/- temperleylieb.newGraph, walked. -/
import Derived.Test.YtplekfgadbjgdaaQMatchingCounts0
import Derived.Test.YtplekfgadbjgdaaQMatchingCounts1
import Derived.Test.YtplekfgadbjgdaaQMatchingCounts10
import Derived.Test.YtplekfgadbjgdaaQMatchingCounts11
import Derived.Test.YtplekfgadbjgdaaQMatchingCounts12
import Derived.Test.YtplekfgadbjgdaaQMatchingCounts13
import Derived.Test.YtplekfgadbjgdaaQMatchingCounts14
import Derived.Test.YtplekfgadbjgdaaQMatchingCounts15
import Derived.Test.YtplekfgadbjgdaaQMatchingCounts16
import Derived.Test.YtplekfgadbjgdaaQMatchingCounts17
import Derived.Test.YtplekfgadbjgdaaQMatchingCounts18
import Derived.Test.YtplekfgadbjgdaaQMatchingCounts19
import Derived.Test.YtplekfgadbjgdaaQMatchingCounts20
import Derived.Test.YtplekfgadbjgdaaQMatchingCounts21
import Derived.Test.YtplekfgadbjgdaaQMatchingCounts22
import Derived.Test.YtplekfgadbjgdaaQMatchingCounts23
import Derived.Deep.RegionLaw
import Derived.RangeFuncNested
import Derived.RangeFuncBound
import Derived.RangeFuncCalls
import Derived.RangeFuncLeaves
import Derived.RangeFuncBox
import Derived.Shelf.Abstract
import Derived.Shelf.RegionOpen
import Derived.OwnWalkIn
import Derived.TacticsInMore
import Derived.LoopNIn
import Derived.LoopIn
import Derived.Maps.AppendAt
namespace Go.Proofs.Ytplekfgadbjgdaa
open Go.RowKit Go.Sl
open Go.TL (lnAt addLn tlWalk tlLoops find)

set_option maxRecDepth 100000 in
set_option maxHeartbeats 4000000 in
theorem newGraph_calls (N : Nat) (w : World) (hN : 1 ≤ N) (hN9 : N ≤ 100) :
    Calls Try.prog 136 #[.int .i64 N] w fun e w' => ∃ g mv vs, e = .returned (.pointer (some ⟨g, 0, none⟩)) ∧ GW w' w.heap.size g mv vs (List.replicate N []) ∧ Below w.heap.size w w' := by
  go_enter Try.func136, Try.ntmps136
  go_wp2_with (at_make; refine wpList_makeV rfl _ _ rfl _ _ N rfl rfl rfl rfl (by omega) ?_; intro mv w1 ho1 hg1 hlo1 hsz; have sm := ho1.1; have hb1 := below_grown_none (Below.refl _ _) hg1; have HO := Lib.hid ho1; have HB := Lib.hid hb1; clear ho1 hg1 hb1)
  go_ret
  refine ⟨w.heap.size + 1, mv, _, rfl, ⟨?_, Go.Sl.Own.alloc HO.out _, by simp, fun i hi => ?_, fun i j hij hj k hk => ?_, by omega⟩, HB.out.alloc (by omega) _⟩
  · have := heap_alloc_new w1 (.cells #[mv] 155)
    rw [hsz] at this; exact this
  · have hi' : i < N := by simpa using hi
    have e1 : nthv (List.replicate N (Value.slice none 0 0)) i = .slice none 0 0 := by simp [nthv, hi']
    have e2 : lnAt (List.replicate N []) i = [] := by unfold lnAt; rw [List.getD_eq_getElem?_getD, List.getElem?_replicate]; split <;> rfl
    rw [e1, e2]; exact ownGI_nil _ _
  · have hi' : i < N := by simp at hj; omega
    have e1 : nthv (List.replicate N (Value.slice none 0 0)) i = .slice none 0 0 := by simp [nthv, hi']
    rw [e1] at hk
    obtain ⟨h0, _⟩ := row_eq hk
    simp at h0

end Go.Proofs.Ytplekfgadbjgdaa

