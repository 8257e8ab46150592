/- The Alexander polynomial at 1/t, and that of the inverse word. Plain algebra. -/
import Derived.Test.YtckopilciekfbaaQColorCounts20
import Derived.Test.YtckopilciekfbaaQColorCounts21
import Derived.Test.YtckopilciekfbaaQColorCounts22
import Derived.Test.YtckopilciekfbaaQColorCounts23
import Derived.Test.YtckopilciekfbaaQColorCounts24
import Derived.Test.YtckopilciekfbaaQColorCounts25
import Derived.Test.YtckopilciekfbaaQColorCounts26
import Derived.Test.YtckopilciekfbaaQColorCounts27
import Derived.Test.YtckopilciekfbaaQColorCounts28
import Derived.Test.YtckopilciekfbaaQColorCounts210
import Derived.Test.YtckopilciekfbaaQColorCounts211
import Derived.Test.YtckopilciekfbaaQColorCounts212
import Derived.Test.YtckopilciekfbaaQColorCounts213
import Derived.Test.YtckopilciekfbaaQColorCounts214
import Derived.Test.YtckopilciekfbaaQColorCounts219
import Derived.Test.YtckopilciekfbaaQColorCounts224
import Derived.Test.YtckopilciekfbaaQColorCounts226
import Derived.Test.YtckopilciekfbaaQColorCounts227
import Derived.Test.YtckopilciekfbaaQColorCounts228
import Derived.Test.YtckopilciekfbaaQColorCounts229
import Derived.Test.YtckopilciekfbaaQColorCounts230
import Derived.Test.YtckopilciekfbaaQColorCounts231
import Derived.Test.YtckopilciekfbaaQColorCounts233
import Derived.Test.YtckopilciekfbaaQColorCounts234
import Derived.RangeFuncNested
import Derived.RangeFuncBound
import Derived.RangeFuncCalls
import Derived.RangeFuncLeaves
import Derived.RangeFuncBox
import Derived.Shelf.Abstract
import Derived.Shelf.RegionOpen
import Derived.OwnWalkIn
import Derived.TacticsInMore
import Derived.LoopNIn
import Derived.LoopIn
import Derived.Maps.AppendAt
import Derived.Deep.RegionWith
import Derived.Deep.CutRange
import Derived.Deep.RegionHeld3
namespace Go.Proofs.Ytckopilciekfbaa
open Go.RowKit Go.Sl
open Go.Det (sumN dt mul upd Alt uni)

theorem mono_trimmed {s e : Int} (hs : s = 1 ∨ s = -1) : Trimmed ⟨e, [s]⟩ := ⟨fun h => by simp at h, fun _ => by simp [nth]; omega, fun _ => by simp [nth]; omega⟩
theorem ev_mono (s e : Int) (t : Rat) : ev ⟨e, [s]⟩ t = t ^ e * s := by show t ^ e * ((s : Rat) + t * 0) = _; grind
/-- p and q differ by a unit. -/
def UnitEq (p q : LP) : Prop := ∃ s e : Int, (s = 1 ∨ s = -1) ∧ p = pmul q ⟨e, [s]⟩
theorem mono_mul {s s' e e' : Int} (hs : s = 1 ∨ s = -1) (hs' : s' = 1 ∨ s' = -1) : pmul ⟨e, [s]⟩ ⟨e', [s']⟩ = ⟨e + e', [s * s']⟩ :=
  ev_ext (pmul_trimmed _ _) (mono_trimmed (by rcases hs with rfl | rfl <;> rcases hs' with rfl | rfl <;> simp)) fun t ht => by
    rw [ev_pmul _ _ ht, ev_mono, ev_mono, ev_mono, Rat.zpow_add ht, Rat.intCast_mul]; grind
theorem pmul_assoc' (a b c : LP) : pmul (pmul a b) c = pmul a (pmul b c) :=
  ev_ext (pmul_trimmed _ _) (pmul_trimmed _ _) fun t ht => by rw [ev_pmul _ _ ht, ev_pmul _ _ ht, ev_pmul _ _ ht, ev_pmul _ _ ht]; grind
theorem UnitEq.trans {p q r : LP} (h : UnitEq p q) (k : UnitEq q r) : UnitEq p r := by
  obtain ⟨s, e, hs, rfl⟩ := h
  obtain ⟨s', e', hs', rfl⟩ := k
  refine ⟨s' * s, e' + e, by rcases hs with rfl | rfl <;> rcases hs' with rfl | rfl <;> simp, ?_⟩
  rw [pmul_assoc', mono_mul hs' hs]
end Go.Proofs.Ytckopilciekfbaa

