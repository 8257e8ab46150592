/- temperleylieb.newGraph, walked. -/
import Derived.Test.YtckopilciekfbaaQJonesMirror0
import Derived.Test.YtckopilciekfbaaQJonesMirror1
import Derived.Test.YtckopilciekfbaaQJonesMirror3
import Derived.Test.YtckopilciekfbaaQJonesMirror4
import Derived.Test.YtckopilciekfbaaQJonesMirror5
import Derived.Test.YtckopilciekfbaaQJonesMirror6
import Derived.Test.YtckopilciekfbaaQJonesMirror7
import Derived.Test.YtckopilciekfbaaQJonesMirror8
import Derived.Test.YtckopilciekfbaaQJonesMirror10
import Derived.Test.YtckopilciekfbaaQJonesMirror11
import Derived.Test.YtckopilciekfbaaQJonesMirror12
import Derived.Test.YtckopilciekfbaaQJonesMirror13
import Derived.Test.YtckopilciekfbaaQJonesMirror14
import Derived.Test.YtckopilciekfbaaQJonesMirror15
import Derived.Test.YtckopilciekfbaaQJonesMirror16
import Derived.Test.YtckopilciekfbaaQJonesMirror19
import Derived.Test.YtckopilciekfbaaQJonesMirror20
import Derived.Test.YtckopilciekfbaaQJonesMirror21
import Derived.Test.YtckopilciekfbaaQJonesMirror22
import Derived.Test.YtckopilciekfbaaQJonesMirror23
import Derived.Deep.RegionLaw
namespace Go.Proofs.Ytckopilciekfbaa
open Go.RowKit Go.Sl
open Go.TL (lnAt addLn tlWalk tlLoops find)

set_option maxRecDepth 100000 in
set_option maxHeartbeats 4000000 in
theorem newGraph_calls (N : Nat) (w : World) (hN : 1 ≤ N) (hN9 : N ≤ 100) :
    Calls Try.prog 119 #[.int .i64 N] w fun e w' => ∃ g mv vs, e = .returned (.pointer (some ⟨g, 0, none⟩)) ∧ GW w' w.heap.size g mv vs (List.replicate N []) ∧ Below w.heap.size w w' := by
  go_enter Try.func119, Try.ntmps119
  go_wp2_with (at_make; refine wpList_makeV rfl _ _ rfl _ _ N rfl rfl rfl rfl (by omega) ?_; intro mv w1 ho1 hg1 hlo1 hsz; have sm := ho1.1; have hb1 := below_grown_none (Below.refl _ _) hg1; have HO := Lib.hid ho1; have HB := Lib.hid hb1; clear ho1 hg1 hb1)
  go_ret
  refine ⟨w.heap.size + 1, mv, _, rfl, ⟨?_, Go.Sl.Own.alloc HO.out _, by simp, fun i hi => ?_, fun i j hij hj k hk => ?_, by omega⟩, HB.out.alloc (by omega) _⟩
  · have := heap_alloc_new w1 (.cells #[mv] 129)
    rw [hsz] at this; exact this
  · have hi' : i < N := by simpa using hi
    have e1 : nthv (List.replicate N (Value.slice none 0 0)) i = .slice none 0 0 := by simp [nthv, hi']
    have e2 : lnAt (List.replicate N []) i = [] := by unfold lnAt; rw [List.getD_eq_getElem?_getD, List.getElem?_replicate]; split <;> rfl
    rw [e1, e2]; exact ownGI_nil _ _
  · have hi' : i < N := by simp at hj; omega
    have e1 : nthv (List.replicate N (Value.slice none 0 0)) i = .slice none 0 0 := by simp [nthv, hi']
    rw [e1] at hk
    obtain ⟨h0, _⟩ := row_eq hk
    simp at h0

end Go.Proofs.Ytckopilciekfbaa

