/- polymatrix.Expand in plain Lean: the determinant of a matrix of polynomials by its first row; its values are determinants. -/
import Derived.Test.YtckopilciekfbaaQColorCounts20
import Derived.Test.YtckopilciekfbaaQColorCounts21
import Derived.Test.YtckopilciekfbaaQColorCounts22
import Derived.Test.YtckopilciekfbaaQColorCounts23
import Derived.Test.YtckopilciekfbaaQColorCounts24
import Derived.Test.YtckopilciekfbaaQColorCounts25
import Derived.Test.YtckopilciekfbaaQColorCounts26
import Derived.Test.YtckopilciekfbaaQColorCounts27
import Derived.Test.YtckopilciekfbaaQColorCounts210
import Derived.Test.YtckopilciekfbaaQColorCounts212
import Derived.Test.YtckopilciekfbaaQColorCounts219
import Derived.Test.YtckopilciekfbaaQColorCounts224

namespace Go.Proofs.Ytckopilciekfbaa
open Go.RowKit Go.Sl

/-- Row r without column c. -/
def cutR (c : Nat) (r : List LP) : List LP := r.take c ++ r.drop (c + 1)
def restM (c : Nat) (m : List (List LP)) : List (List LP) := (m.drop 1).map (cutR c)
/-- A square matrix. -/
def SqM (n : Nat) (m : List (List LP)) : Prop := m.length = n ∧ ∀ i, i < n → (nthm m i).length = n
theorem restM_length (c : Nat) (m : List (List LP)) : (restM c m).length = m.length - 1 := by simp [restM]
theorem nthm_restM {c i : Nat} {m : List (List LP)} (h : i + 1 < m.length) : nthm (restM c m) i = cutR c (nthm m (i + 1)) := by
  rw [nthm_lt (by rw [restM_length]; omega), nthm_lt h]
  unfold restM
  rw [List.getElem_map, List.getElem_drop]
  congr 2; omega
theorem cutR_length {c : Nat} {r : List LP} (h : c < r.length) : (cutR c r).length = r.length - 1 := by simp [cutR]; omega
theorem SqM.rest {n c : Nat} {m : List (List LP)} (h : SqM (n + 1) m) (hc : c < n + 1) : SqM n (restM c m) := by
  refine ⟨by rw [restM_length, h.1]; omega, fun i hi => ?_⟩
  rw [nthm_restM (by rw [h.1]; omega), cutR_length (by rw [h.2 _ (by omega)]; exact hc), h.2 _ (by omega)]; omega

end Go.Proofs.Ytckopilciekfbaa

