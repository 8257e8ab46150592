/- MatrixDetTimes: for every input the statement returns true, and nothing that was there has changed. -/
import Derived.Test.YtbopcejelddooaaProduct
namespace Go.Proofs.Ytbopcejelddooaa
open Go.RowKit Go.Sl

theorem rows2_lit {w : World} {b : Nat} {v u : Value} {xs ys : List Int} (hv : Ints w v xs) (hu : Ints w u ys) (hb : b = w.heap.size) :
    Rows2 (w.alloc (.cells #[v, u] 22)) (.slice (some ⟨b, 0, none⟩) 2 2) [xs, ys] := by
  subst hb
  refine ⟨[v, u], ⟨isSl_mk _ _ _ _ (Nat.le_refl _) (by unfold maxLen; omega), by simp, fun j x hx => ?_⟩, rfl, fun i hi => ?_⟩
  · have hj : j < 2 := by have := (List.getElem?_eq_some_iff.1 hx).1; simpa using this
    rw [vat_mk, Nat.zero_add, cell_of_row (w.alloc (.cells #[v, u] 22)) w.heap.size j #[v, u] 22 (0, 0) (heap_alloc_new w _)]
    simpa using hx
  · match i, hi with
    | 0, _ => exact hv.alloc _
    | 1, _ => exact hu.alloc _

theorem reckoned_calls (w : World) :
    Calls Try.prog 20 #[] w fun e w' => e = .returned (.bool true) ∧ Below w.heap.size w w' := by
  have hm : IsMat [[1, 2], [3, 4]] 2 2 := ⟨rfl, by decide, by decide, by decide, by decide⟩
  have hd : detL [[1, 2], [3, 4]] 2 = -2 := by decide +kernel
  have HD := Lib.hid hd; clear hd
  go_enter Try.func20, Try.ntmps20
  go_wp2_with fail
  refine (det_calls _ [[1, 2], [3, 4]] 2 _ (rows2_lit ((ints_lit [1, 2] (by simp) rfl rfl (by decide)).alloc _) (ints_lit [3, 4] (by simp) rfl rfl (by decide)) (by simp)) hm (by decide)).mono ?_
  rintro e w1 ⟨rfl, hb1⟩
  rw [HD.out]
  go_wp2_with fail
  go_ret
  exact ⟨rfl, Below.chain ((((Below.refl _ _).alloc (Nat.le_refl _) _).alloc (by simp) _).alloc (by simp; omega) _) hb1⟩

theorem isMat_matL {n c b : Nat} (zs : List Int) (hn : n ≤ 6) (hc : c ≤ 6) (hb : b ≤ 100) : IsMat (matL n c zs b) n c := by
  have hrow : ∀ i, i < n → nthr (matL n c zs b) i = rowL zs b c (i * c) := by
    intro i hi
    rw [nthr_lt (by rw [matL_length]; exact hi)]; simp [matL]
  refine ⟨matL_length _ _ _ _, fun i hi => by rw [hrow i hi, rowL_length], fun i hi j hj => ?_, hn, hc⟩
  rw [hrow i hi, nth_rowL _ _ _ _ _ hj]
  have := ent_bounds zs b (i * c + j)
  omega
theorem matL_abs {n c b : Nat} (zs : List Int) (i j : Nat) : (ent2 (matL n c zs b) i j).natAbs ≤ b := by
  unfold ent2
  by_cases hi : i < n
  · have hrow : nthr (matL n c zs b) i = rowL zs b c (i * c) := by
      rw [nthr_lt (by rw [matL_length]; exact hi)]; simp [matL]
    rw [hrow]
    by_cases hj : j < c
    · rw [nth_rowL _ _ _ _ _ hj]
      have := ent_bounds zs b (i * c + j)
      omega
    · unfold nth; rw [List.getD_eq_getElem?_getD, List.getElem?_eq_none (by rw [rowL_length]; omega)]; simp
  · have : nthr (matL n c zs b) i = [] := by unfold nthr; rw [List.getD_eq_getElem?_getD, List.getElem?_eq_none (by rw [matL_length]; omega)]; rfl
    rw [this]; simp [nth]
theorem isMat_prodL {n : Nat} {xs ys : List (List Int)} (hn : n ≤ 4) (hx : ∀ i j, (ent2 xs i j).natAbs ≤ 5) (hy : ∀ i j, (ent2 ys i j).natAbs ≤ 5) : IsMat (prodL xs ys n) n n := by
  refine ⟨prodL_length _ _ _, fun i hi => by rw [nthr_prodL _ _ _ _ hi, rowP_length], fun i hi j hj => ?_, by omega, by omega⟩
  have h1 := ent_prodL xs ys n i j hi hj
  unfold ent2 at h1
  rw [h1]
  have h2 := sumTo_abs (f := fun k => nth (nthr xs i) k * nth (nthr ys k) j) (B := 25) (fun k => by rw [Int.natAbs_mul]; exact Nat.mul_le_mul (hx i k) (hy k j)) n
  omega

set_option maxHeartbeats 1000000 in
set_option maxRecDepth 100000 in
theorem matrixDetTimes_true {w0 : World} (n : Int) (hn : I64 n) (a : Value) (xs : List Int) (ha : Ints w0 a xs) (hxa : ∀ x ∈ xs, I64 x) (b : Value) (ys : List Int) (hb : Ints w0 b ys) (hyb : ∀ x ∈ ys, I64 x) (w : World) (hw : w = w0 := by rfl) :
    Calls Try.prog 3 #[.int .i64 n, a, b] w fun e w' => e = .returned (.bool true) ∧ Below w.heap.size w w' := by
  subst hw
  obtain ⟨m, hm⟩ : ∃ m : Nat, n % 4 = (m : Int) := ⟨(n % 4).toNat, by omega⟩
  have hm3 : m ≤ 3 := by omega
  have HM := Lib.hid hm; clear hm
  have HB : Below w.heap.size w w := Below.refl _ _
  have MX := Lib.hid (isMat_matL (n := 1 + m) (c := 1 + m) (b := 5) xs (by omega) (by omega) (by omega))
  have MY := Lib.hid (isMat_matL (n := 1 + m) (c := 1 + m) (b := 5) ys (by omega) (by omega) (by omega))
  have MP := Lib.hid (isMat_prodL (n := 1 + m) (by omega) (matL_abs (n := 1 + m) (c := 1 + m) (b := 5) xs) (matL_abs (n := 1 + m) (c := 1 + m) (b := 5) ys))
  have hdt := det_times (matL (1 + m) (1 + m) xs 5) (matL (1 + m) (1 + m) ys 5) (1 + m) (by omega) (by omega)
  have habs := minM_abs (m := prodL (matL (1 + m) (1 + m) xs 5) (matL (1 + m) (1 + m) ys 5) (1 + m)) (C := 1 + m) MP.out.abs (by omega) (1 + m) (full (1 + m)) (full (1 + m))
  have hpow : 600 ^ (1 + m) ≤ 600 ^ 5 := Nat.pow_le_pow_right (by omega) (by omega)
  have HXA := Lib.hid hxa; have HYB := Lib.hid hyb; clear hxa hyb
  obtain ⟨D, hD⟩ : ∃ D, D = detL (matL (1 + m) (1 + m) xs 5) (1 + m) := ⟨_, rfl⟩
  obtain ⟨F, hF⟩ : ∃ F, F = detL (matL (1 + m) (1 + m) ys 5) (1 + m) := ⟨_, rfl⟩
  have hprod : detL (prodL (matL (1 + m) (1 + m) xs 5) (matL (1 + m) (1 + m) ys 5) (1 + m)) (1 + m) = D * F := by rw [hD, hF]; exact hdt
  have hlo : -100000000000000 ≤ D * F ∧ D * F ≤ 100000000000000 := by
    rw [← hprod]
    unfold detL
    omega
  have hlo1 := hlo.1
  have hlo2 := hlo.2
  have heq : (D * F == D * F) = true := by simp
  have HD := Lib.hid hD; have HF := Lib.hid hF; have HPR := Lib.hid hprod
  clear hD hF hprod hlo habs hpow hdt
  go_enter Try.func3, Try.ntmps3
  go_wp2_with fail
  refine (below_nat n 4 m _ (by omega) (by omega) hn HM.out).mono ?_
  rintro e w' ⟨rfl, rfl⟩
  go_wp2_with fail
  rw [show (1 + (m : Int)) = ((1 + m : Nat) : Int) from by omega]
  refine (matrix_calls (1 + m) (1 + m) 5 a xs _ ha (by omega) (by omega) (by omega) HXA.out).mono ?_
  rintro e u2 ⟨x, rfl, hx0, hb2⟩
  replace ha := ha.below hb2
  replace hb := hb.below hb2
  replace HB := Below.chain HB hb2; clear hb2
  have hx := hx0.own.rows
  have s_hx := hx.isSl
  go_wp2_with fail
  refine (matrix_calls (1 + m) (1 + m) 5 b ys _ hb (by omega) (by omega) (by omega) HYB.out).mono ?_
  rintro e u3 ⟨y, rfl, hy0, hb3⟩
  replace ha := ha.below hb3
  replace hb := hb.below hb3
  replace hx := hx.below hb3
  replace HB := Below.chain HB hb3; clear hb3
  have hy := hy0.own.rows
  have s_hy := hy.isSl
  go_wp2_with fail
  refine (det_calls _ _ (1 + m) _ hx MX.out (by omega)).mono ?_
  rw [← HD.out]
  rintro e u4 ⟨rfl, hb4⟩
  replace ha := ha.below hb4
  replace hb := hb.below hb4
  replace hx := hx.below hb4
  replace hy := hy.below hb4
  replace HB := Below.chain HB hb4; clear hb4
  go_wp2_with fail
  refine (det_calls _ _ (1 + m) _ hy MY.out (by omega)).mono ?_
  rw [← HF.out]
  rintro e u5 ⟨rfl, hb5⟩
  replace ha := ha.below hb5
  replace hb := hb.below hb5
  replace hx := hx.below hb5
  replace hy := hy.below hb5
  replace HB := Below.chain HB hb5; clear hb5
  go_wp2_with fail
  refine (product_calls _ _ _ _ (1 + m) _ hx hy MX.out MY.out (by omega)).mono ?_
  rintro e u6 ⟨p, rfl, hp0, hb6⟩
  replace ha := ha.below hb6
  replace hb := hb.below hb6
  replace hx := hx.below hb6
  replace hy := hy.below hb6
  replace HB := Below.chain HB hb6; clear hb6
  have hp := hp0.own.rows
  have s_hp := hp.isSl
  go_wp2_with fail
  refine (det_calls _ _ (1 + m) _ hp MP.out (by omega)).mono ?_
  rw [HPR.out]
  rintro e u7 ⟨rfl, hb7⟩
  replace ha := ha.below hb7
  replace hb := hb.below hb7
  replace hx := hx.below hb7
  replace hy := hy.below hb7
  replace hp := hp.below hb7
  replace HB := Below.chain HB hb7; clear hb7
  go_wp2_with fail
  refine (reckoned_calls _).mono ?_
  rintro e u8 ⟨rfl, hb8⟩
  replace ha := ha.below hb8
  replace hb := hb.below hb8
  replace hx := hx.below hb8
  replace hy := hy.below hb8
  replace hp := hp.below hb8
  replace HB := Below.chain HB hb8; clear hb8
  go_wp2_with fail
  go_ret
  exact ⟨rfl, HB⟩

end Go.Proofs.Ytbopcejelddooaa
