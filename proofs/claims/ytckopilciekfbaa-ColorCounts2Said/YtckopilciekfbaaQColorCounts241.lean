/- The Alexander polynomial at 1, and modulo 2 at -1. Plain algebra. -/
import Derived.Test.YtckopilciekfbaaQColorCounts20
import Derived.Test.YtckopilciekfbaaQColorCounts21
import Derived.Test.YtckopilciekfbaaQColorCounts22
import Derived.Test.YtckopilciekfbaaQColorCounts23
import Derived.Test.YtckopilciekfbaaQColorCounts24
import Derived.Test.YtckopilciekfbaaQColorCounts25
import Derived.Test.YtckopilciekfbaaQColorCounts26
import Derived.Test.YtckopilciekfbaaQColorCounts27
import Derived.Test.YtckopilciekfbaaQColorCounts28
import Derived.Test.YtckopilciekfbaaQColorCounts210
import Derived.Test.YtckopilciekfbaaQColorCounts211
import Derived.Test.YtckopilciekfbaaQColorCounts212
import Derived.Test.YtckopilciekfbaaQColorCounts213
import Derived.Test.YtckopilciekfbaaQColorCounts214
import Derived.Test.YtckopilciekfbaaQColorCounts215
import Derived.Test.YtckopilciekfbaaQColorCounts219
import Derived.Test.YtckopilciekfbaaQColorCounts224
import Derived.Test.YtckopilciekfbaaQColorCounts226
import Derived.Test.YtckopilciekfbaaQColorCounts227
import Derived.Test.YtckopilciekfbaaQColorCounts228
import Derived.Test.YtckopilciekfbaaQColorCounts229
import Derived.Test.YtckopilciekfbaaQColorCounts230
import Derived.Test.YtckopilciekfbaaQColorCounts231
import Derived.Test.YtckopilciekfbaaQColorCounts233
import Derived.Test.YtckopilciekfbaaQColorCounts234
import Derived.Test.YtckopilciekfbaaQColorCounts235
import Derived.Test.YtckopilciekfbaaQColorCounts236
import Derived.Test.YtckopilciekfbaaQColorCounts237
import Derived.Test.YtckopilciekfbaaQColorCounts238
import Derived.Test.YtckopilciekfbaaQColorCounts239
import Derived.RangeFuncNested
import Derived.RangeFuncBound
import Derived.RangeFuncCalls
import Derived.RangeFuncLeaves
import Derived.RangeFuncBox
import Derived.Shelf.Abstract
import Derived.Shelf.RegionOpen
import Derived.OwnWalkIn
import Derived.TacticsInMore
import Derived.LoopNIn
import Derived.LoopIn
import Derived.Maps.AppendAt
import Derived.Deep.RegionWith
import Derived.OrdersIn
import Derived.OrdersHeld
import Derived.Deep.RegionHeld
import Derived.Deep.CutRange
import Derived.Deep.RegionHeld3
namespace Go.Proofs.Ytckopilciekfbaa
open Go.RowKit Go.Sl
open Go.Det (sumN dt mul upd Alt uni)

theorem sumN_ind {R : Type} [Lean.Grind.CommRing R] (m : Nat) (f : Nat → R) (a : Nat) : sumN (fun k => (if a = k then 1 else 0) * f k) m = if a < m then f a else 0 := by
  by_cases h : a < m
  · rw [if_pos h, Go.Det.sumN_one m a h (fun k _ hk => by rw [if_neg (Ne.symm hk)]; grind), if_pos rfl]; grind
  · rw [if_neg h, Go.Det.sumN_zero m (fun k hk => by rw [if_neg (by omega)]; grind)]
theorem least {P : Nat → Prop} {k : Nat} (h : P k) : ∃ k, P k ∧ ∀ j, j < k → ¬ P j := by
  induction k using Nat.strongRecOn with
  | _ k ih =>
    by_cases hj : ∃ j, j < k ∧ P j
    · obtain ⟨j, h1, h2⟩ := hj
      exact ih j h1 h2
    · exact ⟨k, h, fun j h1 h2 => hj ⟨j, h1, h2⟩⟩
theorem pickF {n : Nat} {Q : Nat → Nat → Prop} (h : ∀ j, j < n → ∃ k, Q j k) : ∃ d : Nat → Nat, ∀ j, j < n → Q j (d j) := by
  refine ⟨fun j => if hj : j < n then Classical.choose (h j hj) else 0, fun j hj => ?_⟩
  show Q j (if hj : j < n then Classical.choose (h j hj) else 0)
  rw [dif_pos hj]; exact Classical.choose_spec (h j hj)
section
variable {a : List Int} {L : List Nat} {m : Nat}
/-- Some number of applications is the identity. -/
theorem CycOK.full (h : CycOK a L) : ∃ N, 0 < N ∧ ∀ i, i < a.length → itr a N i = i :=
  ⟨lcmL L, (lcmL_bound L h.pos).1, (h.iff _).1 ((lcmL_dvd L _).1 (Nat.dvd_refl _))⟩
theorem itr_mul {N : Nat} (hN : ∀ i, i < a.length → itr a N i = i) {i : Nat} (hi : i < a.length) (q : Nat) : itr a (N * q) i = i := by
  induction q with
  | zero => rfl
  | succ q ih => rw [Nat.mul_succ, itr_add, hN i hi, ih]
theorem itr_back (ha : IsPerm a) (h : CycOK a L) {i j k : Nat} (hi : i < a.length) (hk : itr a k i = j) : ∃ k', itr a k' j = i := by
  obtain ⟨N, hN0, hN⟩ := h.full
  refine ⟨N * k - k, ?_⟩
  have h1 : k ≤ N * k := Nat.le_mul_of_pos_left k hN0
  rw [← hk, ← itr_add, Nat.sub_add_cancel h1]
  exact itr_mul hN hi k
end

end Go.Proofs.Ytckopilciekfbaa

