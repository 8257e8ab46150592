/- The images of the generators: conjugates of generators, as the permutation says; their product. -/
import Derived.Test.YtckopilciekfbaaQColorCounts20
import Derived.Test.YtckopilciekfbaaQColorCounts21
import Derived.Test.YtckopilciekfbaaQColorCounts22
import Derived.Test.YtckopilciekfbaaQColorCounts23
import Derived.Test.YtckopilciekfbaaQColorCounts24
import Derived.Test.YtckopilciekfbaaQColorCounts25
import Derived.Test.YtckopilciekfbaaQColorCounts26
import Derived.Test.YtckopilciekfbaaQColorCounts27
import Derived.Test.YtckopilciekfbaaQColorCounts210
import Derived.Test.YtckopilciekfbaaQColorCounts211
import Derived.Test.YtckopilciekfbaaQColorCounts213
import Derived.Test.YtckopilciekfbaaQColorCounts214
import Derived.Test.YtckopilciekfbaaQColorCounts215
import Derived.Test.YtckopilciekfbaaQColorCounts236
import Derived.Test.YtckopilciekfbaaQColorCounts237
import Derived.RangeFuncNested
import Derived.RangeFuncBound
import Derived.RangeFuncCalls
import Derived.RangeFuncLeaves
import Derived.RangeFuncBox
import Derived.Shelf.Abstract
import Derived.Shelf.RegionOpen
import Derived.OwnWalkIn
import Derived.TacticsInMore
import Derived.LoopNIn
import Derived.LoopIn
import Derived.Maps.AppendAt
import Derived.OrdersIn
import Derived.OrdersHeld
import Derived.Deep.RegionHeld
namespace Go.Proofs.Ytckopilciekfbaa
open Go.RowKit Go.Sl

def swp (c : Int) (j : Nat) : Nat := if j + 1 = c.natAbs then j + 1 else if j = c.natAbs then j - 1 else j
def permB (xs : List Int) (j : Nat) : Nat := xs.foldl (fun j c => swp c j) j
theorem permB_snoc (t : List Int) (c : Int) (j : Nat) : permB (t ++ [c]) j = swp c (permB t j) := by unfold permB; rw [List.foldl_append]; rfl
theorem swp_lt {c : Int} {n j : Nat} (hc : c.natAbs < n) (hj : j < n) : swp c j < n := by
  unfold swp
  split
  · omega
  · split <;> omega
theorem permB_lt {n : Nat} (xs : List Int) : ∀ {j : Nat}, (∀ c ∈ xs, c.natAbs < n) → j < n → permB xs j < n := by
  induction xs with
  | nil => exact fun _ h => h
  | cons c t ih => exact fun h hj => ih (fun d hd => h d (List.mem_cons_of_mem _ hd)) (swp_lt (h c List.mem_cons_self) hj)

/-- The word is a conjugate of the generator. -/
def Cj (r : List Int) (m : Nat) : Prop := ∃ y, IsWord y ∧ r = redL (y ++ [(m : Int) + 1] ++ invL y)
theorem Cj.word {r : List Int} {m : Nat} (h : Cj r m) (hm : m < 6) : IsWord r := by
  obtain ⟨y, hy, rfl⟩ := h
  refine ((hy.append ?_).append hy.inv).red
  intro x hx
  simp at hx
  omega
end Go.Proofs.Ytckopilciekfbaa

