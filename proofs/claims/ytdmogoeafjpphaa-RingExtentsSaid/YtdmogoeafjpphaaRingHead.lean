/- RingHeads: for every input the statement returns true, and nothing that was there has changed. -/
import Derived.Test.YtdmogoeafjpphaaRung
import Derived.Test.YtdmogoeafjpphaaRingRows
import Derived.Test.YtdmogoeafjpphaaConcat
import Derived.Test.YtdmogoeafjpphaaWords
import Derived.Test.YtdmogoeafjpphaaPerm
namespace Go.Proofs.Ytdmogoeafjpphaa
open Go.RowKit Go.Sl

theorem run_iota_perm (m : Nat) (hm : m < 7) (cs : List Int) : IsPerm (runL (iota (m + 1)) cs) := runL_isPerm cs (by omega)
theorem run_compose (m : Nat) (xs ys : List Int) : runL (iota (m + 1)) (xs ++ ys) = thenL (runL (iota (m + 1)) ys) (runL (iota (m + 1)) xs) := by
  rw [runL_append, runL_from (runL (iota (m + 1)) xs) ys, run_len]
theorem permNil_calls (m : Nat) (w : World) (hm : m < 7) :
    Calls Try.prog 37 #[.int .i64 ((m : Int) + 1), .slice none 0 0] w fun e w' => ∃ v, e = .returned v ∧ OwnI w' w.heap.size v (iota (m + 1)) ∧ Below w.heap.size w w' := by
  have h := perm_calls (m + 1) _ [] w (ints_nil w) (by omega) (fun z hz => by simp at hz)
  rw [permL_nil] at h
  rwa [show ((m + 1 : Nat) : Int) = (m : Int) + 1 by omega] at h

end Go.Proofs.Ytdmogoeafjpphaa
