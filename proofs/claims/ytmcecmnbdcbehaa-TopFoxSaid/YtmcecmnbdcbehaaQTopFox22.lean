/- Words: freegroup's exported functions Reduce, Product, Inverse, walked. -/
import Derived.Test.YtmcecmnbdcbehaaQTopFox0
import Derived.Test.YtmcecmnbdcbehaaQTopFox1
import Derived.Test.YtmcecmnbdcbehaaQTopFox2
import Derived.Test.YtmcecmnbdcbehaaQTopFox3
import Derived.Test.YtmcecmnbdcbehaaQTopFox4
import Derived.Test.YtmcecmnbdcbehaaQTopFox9
import Derived.Test.YtmcecmnbdcbehaaQTopFox10
import Derived.Test.YtmcecmnbdcbehaaQTopFox11
import Derived.Test.YtmcecmnbdcbehaaQTopFox12
import Derived.Test.YtmcecmnbdcbehaaQTopFox13
import Derived.Test.YtmcecmnbdcbehaaQTopFox14

namespace Go.Proofs.Ytmcecmnbdcbehaa
open Go.RowKit Go.Sl

theorem IsWord.small {xs : List Int} (h : IsWord xs) : ∀ x ∈ xs, -1000 ≤ x ∧ x ≤ 1000 := fun x hx => by have := h x hx; omega
theorem IsWord.inv {xs : List Int} (h : IsWord xs) : IsWord (invL xs) := by
  intro x hx
  simp only [invL, List.mem_reverse, List.mem_map] at hx
  obtain ⟨y, hy, rfl⟩ := hx
  have := h y hy
  omega
theorem IsWord.red {xs : List Int} (h : IsWord xs) : IsWord (redL xs) := fun x hx => h x (redL_mem hx)
theorem IsWord.append {xs ys : List Int} (h : IsWord xs) (k : IsWord ys) : IsWord (xs ++ ys) := fun x hx => (List.mem_append.1 hx).elim (h x) (k x)
end Go.Proofs.Ytmcecmnbdcbehaa

