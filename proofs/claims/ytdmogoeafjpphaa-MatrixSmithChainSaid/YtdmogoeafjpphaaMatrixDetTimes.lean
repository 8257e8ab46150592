/- MatrixDetTimes: for every input the statement returns true, and nothing that was there has changed. -/
import Derived.Test.YtdmogoeafjpphaaProduct
namespace Go.Proofs.Ytdmogoeafjpphaa
open Go.RowKit Go.Sl

theorem rows2_lit {w : World} {b : Nat} {v u : Value} {xs ys : List Int} (hv : Ints w v xs) (hu : Ints w u ys) (hb : b = w.heap.size) :
    Rows2 (w.alloc (.cells #[v, u] 25)) (.slice (some ⟨b, 0, none⟩) 2 2) [xs, ys] := by
  subst hb
  refine ⟨[v, u], ⟨isSl_mk _ _ _ _ (Nat.le_refl _) (by unfold maxLen; omega), by simp, fun j x hx => ?_⟩, rfl, fun i hi => ?_⟩
  · have hj : j < 2 := by have := (List.getElem?_eq_some_iff.1 hx).1; simpa using this
    rw [vat_mk, Nat.zero_add, cell_of_row (w.alloc (.cells #[v, u] 25)) w.heap.size j #[v, u] 25 (0, 0) (heap_alloc_new w _)]
    simpa using hx
  · match i, hi with
    | 0, _ => exact hv.alloc _
    | 1, _ => exact hu.alloc _

theorem reckoned_calls (w : World) :
    Calls Try.prog 59 #[] w fun e w' => e = .returned (.bool true) ∧ Below w.heap.size w w' := by
  have hm : IsMat [[1, 2], [3, 4]] 2 2 := ⟨rfl, by decide, by decide, by decide, by decide⟩
  have hd : detL [[1, 2], [3, 4]] 2 = -2 := by decide +kernel
  have HD := Lib.hid hd; clear hd
  go_enter Try.func59, Try.ntmps59
  go_wp2_with fail
  refine (det_calls _ [[1, 2], [3, 4]] 2 _ (rows2_lit ((ints_lit [1, 2] (by simp) rfl rfl (by decide)).alloc _) (ints_lit [3, 4] (by simp) rfl rfl (by decide)) (by simp)) hm (by decide)).mono ?_
  rintro e w1 ⟨rfl, hb1⟩
  rw [HD.out]
  go_wp2_with fail
  go_ret
  exact ⟨rfl, Below.chain ((((Below.refl _ _).alloc (Nat.le_refl _) _).alloc (by simp) _).alloc (by simp; omega) _) hb1⟩

theorem isMat_matL {n c b : Nat} (zs : List Int) (hn : n ≤ 6) (hc : c ≤ 6) (hb : b ≤ 100) : IsMat (matL n c zs b) n c := by
  have hrow : ∀ i, i < n → nthr (matL n c zs b) i = rowL zs b c (i * c) := by
    intro i hi
    rw [nthr_lt (by rw [matL_length]; exact hi)]; simp [matL]
  refine ⟨matL_length _ _ _ _, fun i hi => by rw [hrow i hi, rowL_length], fun i hi j hj => ?_, hn, hc⟩
  rw [hrow i hi, nth_rowL _ _ _ _ _ hj]
  have := ent_bounds zs b (i * c + j)
  omega
theorem matL_abs {n c b : Nat} (zs : List Int) (i j : Nat) : (ent2 (matL n c zs b) i j).natAbs ≤ b := by
  unfold ent2
  by_cases hi : i < n
  · have hrow : nthr (matL n c zs b) i = rowL zs b c (i * c) := by
      rw [nthr_lt (by rw [matL_length]; exact hi)]; simp [matL]
    rw [hrow]
    by_cases hj : j < c
    · rw [nth_rowL _ _ _ _ _ hj]
      have := ent_bounds zs b (i * c + j)
      omega
    · unfold nth; rw [List.getD_eq_getElem?_getD, List.getElem?_eq_none (by rw [rowL_length]; omega)]; simp
  · have : nthr (matL n c zs b) i = [] := by unfold nthr; rw [List.getD_eq_getElem?_getD, List.getElem?_eq_none (by rw [matL_length]; omega)]; rfl
    rw [this]; simp [nth]
theorem isMat_prodL {n : Nat} {xs ys : List (List Int)} (hn : n ≤ 4) (hx : ∀ i j, (ent2 xs i j).natAbs ≤ 5) (hy : ∀ i j, (ent2 ys i j).natAbs ≤ 5) : IsMat (prodL xs ys n) n n := by
  refine ⟨prodL_length _ _ _, fun i hi => by rw [nthr_prodL _ _ _ _ hi, rowP_length], fun i hi j hj => ?_, by omega, by omega⟩
  have h1 := ent_prodL xs ys n i j hi hj
  unfold ent2 at h1
  rw [h1]
  have h2 := sumTo_abs (f := fun k => nth (nthr xs i) k * nth (nthr ys k) j) (B := 25) (fun k => by rw [Int.natAbs_mul]; exact Nat.mul_le_mul (hx i k) (hy k j)) n
  omega

end Go.Proofs.Ytdmogoeafjpphaa
