/- Words: freegroup's exported functions Reduce, Product, Inverse, walked. -/
import Derived.Test.YtnkahkahcajahaaReduced
import Derived.Test.YtnkahkahcajahaaBackward
import Derived.Test.YtnkahkahcajahaaPermGroup
namespace Go.Proofs.Ytnkahkahcajahaa
open Go.RowKit Go.Sl

theorem IsWord.small {xs : List Int} (h : IsWord xs) : ∀ x ∈ xs, -1000 ≤ x ∧ x ≤ 1000 := fun x hx => by have := h x hx; omega
theorem IsWord.inv {xs : List Int} (h : IsWord xs) : IsWord (invL xs) := by
  intro x hx
  simp only [invL, List.mem_reverse, List.mem_map] at hx
  obtain ⟨y, hy, rfl⟩ := hx
  have := h y hy
  omega
theorem IsWord.red {xs : List Int} (h : IsWord xs) : IsWord (redL xs) := fun x hx => h x (redL_mem hx)
theorem IsWord.append {xs ys : List Int} (h : IsWord xs) (k : IsWord ys) : IsWord (xs ++ ys) := fun x hx => (List.mem_append.1 hx).elim (h x) (k x)
theorem invL_length (xs : List Int) : (invL xs).length = xs.length := by simp [invL]

theorem rowsV_1 {w : World} {v : Value} {xs : List Int} (h : Ints w v xs) : RowsV (w.alloc (.cells #[v] 22)) (.slice (some ⟨w.heap.size, 0, none⟩) 1 1) [v] [xs] := by
  refine ⟨sl_one w v _, rfl, fun i hi => ?_⟩
  obtain rfl : i = 0 := by simpa using hi
  exact h.alloc _
theorem sl_two (w : World) (u v : Value) (e : TypeId) : Sl (w.alloc (.cells #[u, v] e)) (.slice (some ⟨w.heap.size, 0, none⟩) 2 2) 1 [u, v] := by
  refine ⟨isSl_mk _ _ _ _ (Nat.le_refl _) (by unfold maxLen; omega), by simp, fun j x hx => ?_⟩
  match j, hx with
  | 0, hx =>
    simp at hx; subst hx
    exact cell_of_row (w.alloc (.cells #[u, v] e)) w.heap.size 0 #[u, v] e (0, 0) (heap_alloc_new w (.cells #[u, v] e))
  | 1, hx =>
    simp at hx; subst hx
    exact cell_of_row (w.alloc (.cells #[u, v] e)) w.heap.size 1 #[u, v] e (0, 0) (heap_alloc_new w (.cells #[u, v] e))
theorem rowsV_2 {w : World} {u v : Value} {xs ys : List Int} (h : Ints w u xs) (k : Ints w v ys) : RowsV (w.alloc (.cells #[u, v] 22)) (.slice (some ⟨w.heap.size, 0, none⟩) 2 2) [u, v] [xs, ys] := by
  refine ⟨sl_two w u v _, rfl, fun i hi => ?_⟩
  simp only [List.length_cons, List.length_nil] at hi
  rcases (show i = 0 ∨ i = 1 by omega) with rfl | rfl
  · exact h.alloc _
  · exact k.alloc _

theorem isWord_of {xs : List Int} (h : xs.all (fun x => x != 0 && decide (-6 ≤ x) && decide (x ≤ 6)) = true) : IsWord xs := by
  intro x hx
  have := List.all_eq_true.1 h x hx
  simp at this
  exact ⟨this.1.1, this.1.2, this.2⟩

end Go.Proofs.Ytnkahkahcajahaa
