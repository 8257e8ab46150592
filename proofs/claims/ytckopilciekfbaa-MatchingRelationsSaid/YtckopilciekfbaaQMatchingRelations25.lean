/- Temperley and Lieb's relations, for at most 6 strands: plain law, by the kernel. -/
import Derived.Test.YtckopilciekfbaaQMatchingRelations0
import Derived.Test.YtckopilciekfbaaQMatchingRelations1
import Derived.Test.YtckopilciekfbaaQMatchingRelations2
import Derived.Test.YtckopilciekfbaaQMatchingRelations3
import Derived.Test.YtckopilciekfbaaQMatchingRelations4
import Derived.Test.YtckopilciekfbaaQMatchingRelations5
import Derived.Test.YtckopilciekfbaaQMatchingRelations6
import Derived.Test.YtckopilciekfbaaQMatchingRelations7
import Derived.Test.YtckopilciekfbaaQMatchingRelations8
import Derived.Test.YtckopilciekfbaaQMatchingRelations9
import Derived.Test.YtckopilciekfbaaQMatchingRelations10
import Derived.Test.YtckopilciekfbaaQMatchingRelations11
import Derived.Test.YtckopilciekfbaaQMatchingRelations12
import Derived.Test.YtckopilciekfbaaQMatchingRelations13
import Derived.Test.YtckopilciekfbaaQMatchingRelations14
import Derived.Test.YtckopilciekfbaaQMatchingRelations15
import Derived.Test.YtckopilciekfbaaQMatchingRelations16
import Derived.Test.YtckopilciekfbaaQMatchingRelations17
import Derived.Test.YtckopilciekfbaaQMatchingRelations18
import Derived.Test.YtckopilciekfbaaQMatchingRelations19
import Derived.Test.YtckopilciekfbaaQMatchingRelations20
import Derived.Test.YtckopilciekfbaaQMatchingRelations21
import Derived.Test.YtckopilciekfbaaQMatchingRelations22
import Derived.Test.YtckopilciekfbaaQMatchingRelations23
import Derived.RangeFuncNested
import Derived.RangeFuncBound
import Derived.RangeFuncCalls
import Derived.RangeFuncLeaves
import Derived.RangeFuncBox
import Derived.Shelf.Abstract
import Derived.Shelf.RegionOpen
import Derived.OwnWalkIn
import Derived.TacticsInMore
import Derived.LoopNIn
import Derived.LoopIn
import Derived.Maps.AppendAt
import Derived.Deep.RegionLaw
namespace Go.Proofs.Ytckopilciekfbaa
open Go.TL (putL oneL cupL)

def relB (n : Nat) (l r : List Nat) (loops : Nat) : Bool :=
  match runS n l (oneL n) 0, runS n r (oneL n) 0 with
  | some (x, p), some (y, q) => x == y && p == q + loops && tokB n x && decide (p ≤ 100)
  | _, _ => false
theorem relB_of {n : Nat} {l r : List Nat} {loops : Nat} (h : relB n l r loops = true) : ∃ x p q, runS n l (oneL n) 0 = some (x, p) ∧ runS n r (oneL n) 0 = some (x, q) ∧ p = q + loops ∧ TOk n x ∧ p ≤ 100 := by
  unfold relB at h
  split at h
  · rename_i x p y q h1 h2
    simp only [Bool.and_eq_true, beq_iff_eq, decide_eq_true_eq] at h
    obtain ⟨⟨⟨rfl, h4⟩, h5⟩, h6⟩ := h
    exact ⟨x, p, q, h1, h2, h4, TOk.of h5, h6⟩
  · cases h
theorem rel_twice : ∀ n : Fin 7, ∀ i : Fin 6, 1 ≤ i.val → i.val < n.val → relB n.val [i.val, i.val] [i.val] 1 = true := by decide +kernel
theorem rel_near : ∀ n : Fin 7, ∀ i k : Fin 6, 1 ≤ i.val → 1 ≤ k.val → i.val < n.val → k.val < n.val → (i.val + 1 = k.val ∨ k.val + 1 = i.val) → relB n.val [i.val, k.val, i.val] [i.val] 0 = true := by decide +kernel
theorem rel_far : ∀ n : Fin 7, ∀ i k : Fin 6, 1 ≤ i.val → 1 ≤ k.val → i.val < n.val → k.val < n.val → (i.val + 1 < k.val ∨ k.val + 1 < i.val) → relB n.val [i.val, k.val] [k.val, i.val] 0 = true := by decide +kernel

end Go.Proofs.Ytckopilciekfbaa

