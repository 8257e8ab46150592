/- Braid words: Index, Letter, Check, Inverse; the makers' Strands; walked. -/
import Derived.Test.YtckopilciekfbaaQMatchingStacks0
import Derived.Test.YtckopilciekfbaaQMatchingStacks1
import Derived.Test.YtckopilciekfbaaQMatchingStacks6
import Derived.Test.YtckopilciekfbaaQMatchingStacks8
import Derived.Test.YtckopilciekfbaaQMatchingStacks9
import Derived.Test.YtckopilciekfbaaQMatchingStacks10
import Derived.Deep.RegionLaw
import Derived.RangeFuncNested
import Derived.RangeFuncBound
import Derived.RangeFuncCalls
import Derived.RangeFuncLeaves
import Derived.RangeFuncBox
import Derived.Shelf.Abstract
import Derived.Shelf.RegionOpen
import Derived.OwnWalkIn
import Derived.TacticsInMore
import Derived.LoopNIn
import Derived.LoopIn
import Derived.Maps.AppendAt
namespace Go.Proofs.Ytckopilciekfbaa
open Go.RowKit Go.Sl

theorem strands_calls (n m : Int) (w : World) (hn : I64 n) (hm : 2 ≤ m) (hm2 : m ≤ 1000) :
    Calls Try.prog 16 #[.int .i64 n, .int .i64 m] w fun e w' => e = .returned (.int .i64 (2 + n % (m - 1))) ∧ w = w' := by
  have h1 := Int.emod_nonneg n (show m - 1 ≠ 0 by omega)
  have h2 := Int.emod_lt_of_pos n (show 0 < m - 1 by omega)
  obtain ⟨k, hk⟩ : ∃ k, n % (m - 1) = k := ⟨_, rfl⟩
  rw [hk] at h1 h2 ⊢
  have HK := Lib.hid hk; clear hk
  go_enter Try.func16, Try.ntmps16
  go_wp2_with (go_at_call 27; refine (below_calls n (m - 1) _ (by omega) (by omega) hn).mono ?_; rintro e w' ⟨rfl, rfl⟩; rw [HK.out])
  go_ret
  exact ⟨rfl, rfl⟩

/-- A right braid word. -/
def BWord (n : Int) (xs : List Int) : Prop := ∀ x ∈ xs, x ≠ 0 ∧ -n < x ∧ x < n
theorem BWord.small {n : Int} {xs : List Int} (hn : n ≤ 1000) (h : BWord n xs) : ∀ x ∈ xs, -1000 ≤ x ∧ x ≤ 1000 := fun x hx => by have := h x hx; omega
theorem BWord.inv {n : Int} {xs : List Int} (h : BWord n xs) : BWord n (invL xs) := by
  intro x hx
  unfold invL at hx
  obtain ⟨y, hy, rfl⟩ := List.mem_map.1 (List.mem_reverse.1 hx)
  have := h y hy
  omega
theorem BWord.append {n : Int} {xs ys : List Int} (h : BWord n xs) (k : BWord n ys) : BWord n (xs ++ ys) := fun x hx => (List.mem_append.1 hx).elim (h x) (k x)
end Go.Proofs.Ytckopilciekfbaa

