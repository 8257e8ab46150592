/- MatrixTurned: for every input the statement returns true, and nothing that was there has changed. -/
import Derived.Test.YtbopcejelddooaaTurned
import Derived.Test.YtbopcejelddooaaMatrixDetTimes
namespace Go.Proofs.Ytbopcejelddooaa
open Go.RowKit Go.Sl

theorem swapped_rows {W0 z1 W : World} {x s : Value} {vs : List Value} {xss : List (List Int)} {i y : Nat} (hx : RowsV W0 x vs xss) (hs : Own z1 W0.heap.size 22 1 s vs) (hz : Below W0.heap.size W0 z1) (hb : Below z1.heap.size z1 W)
    (hiy : i ≠ y) (hi : i < xss.length) (hy : y < xss.length) :
    Rows2 ((W.setCell (vat s i) (nthv vs y)).setCell (vat s y) (nthv vs i)) s (swapL xss i y) ∧ Below W0.heap.size W0 ((W.setCell (vat s i) (nthv vs y)).setCell (vat s y) (nthv vs i)) := by
  have hvl := hx.2.1
  have h1 := (hs.below hb).set (j := i) (by omega) (nthv vs y)
  have h2 := h1.set (j := y) (by simp; omega) (nthv vs i)
  have hbb : Below W0.heap.size W0 ((W.setCell (vat s i) (nthv vs y)).setCell (vat s y) (nthv vs i)) :=
    ((hz.trans (hb.mono hz.size)).setCell (hs.ge (j := i) (by omega)) _).setCell (hs.ge (j := y) (by omega)) _
  refine ⟨⟨(vs.set i (nthv vs y)).set y (nthv vs i), h2.sl, by simp [swapL, hvl], fun k hk => ?_⟩, hbb⟩
  rw [swapL_length] at hk
  rw [nthr_swapL xss hiy hi hy k hk]
  have hv : nthv ((vs.set i (nthv vs y)).set y (nthv vs i)) k = nthv vs (swap i y k) := by
    rw [nthv_lt (by simp; omega), List.getElem_set]
    unfold swap
    by_cases e1 : y = k
    · subst e1; rw [if_pos rfl, if_neg (fun h => hiy h.symm), if_pos rfl]
    · rw [if_neg e1, List.getElem_set]
      by_cases e2 : i = k
      · subst e2; rw [if_pos rfl, if_pos rfl]
      · rw [if_neg e2, if_neg (fun h => e2 h.symm), if_neg (fun h => e1 h.symm)]
        exact (nthv_lt (by omega)).symm
  rw [hv]
  exact (hx.row (swap_lt hi hy hk)).below hbb

set_option maxHeartbeats 1000000 in
set_option maxRecDepth 100000 in
theorem matrixTurned_true {w0 : World} (n : Int) (hn : I64 n) (a : Value) (xs : List Int) (ha : Ints w0 a xs) (hxa : ∀ x ∈ xs, I64 x) (h : Int) (hh : I64 h) (g : Int) (hg : I64 g) (w : World) (hw : w = w0 := by rfl) :
    Calls Try.prog 5 #[.int .i64 n, a, .int .i64 h, .int .i64 g] w fun e w' => e = .returned (.bool true) ∧ Below w.heap.size w w' := by
  subst hw
  obtain ⟨m, hm⟩ : ∃ m : Nat, n % 4 = (m : Int) := ⟨(n % 4).toNat, by omega⟩
  have hm3 : m ≤ 3 := by omega
  have HM := Lib.hid hm; clear hm
  obtain ⟨i0, hi⟩ : ∃ i0 : Nat, h % (2 + (m : Int)) = (i0 : Int) := ⟨(h % (2 + (m : Int))).toNat, by have := Int.emod_nonneg h (b := 2 + (m : Int)) (by omega); omega⟩
  have hi2 : i0 < 2 + m := by have := Int.emod_lt_of_pos h (b := 2 + (m : Int)) (by omega); omega
  obtain ⟨k0, hk⟩ : ∃ k0 : Nat, g % (2 + (m : Int) - 1) = (k0 : Int) := ⟨(g % (2 + (m : Int) - 1)).toNat, by have := Int.emod_nonneg g (b := 2 + (m : Int) - 1) (by omega); omega⟩
  have hk2 : k0 < 1 + m := by have := Int.emod_lt_of_pos g (b := 2 + (m : Int) - 1) (by omega); omega
  obtain ⟨y, hy⟩ : ∃ y : Nat, ((i0 : Int) + 1 + (k0 : Int)) % (2 + (m : Int)) = (y : Int) := ⟨(((i0 : Int) + 1 + (k0 : Int)) % (2 + (m : Int))).toNat, by have := Int.emod_nonneg ((i0 : Int) + 1 + (k0 : Int)) (b := 2 + (m : Int)) (by omega); omega⟩
  have hy2 : y < 2 + m := by have := Int.emod_lt_of_pos ((i0 : Int) + 1 + (k0 : Int)) (b := 2 + (m : Int)) (by omega); omega
  have hyi : y ≠ i0 := by
    intro e
    rcases (show m = 0 ∨ m = 1 ∨ m = 2 ∨ m = 3 from by omega) with rfl | rfl | rfl | rfl <;> omega
  have HI := Lib.hid hi; have HK := Lib.hid hk; clear hi hk
  have HB : Below w.heap.size w w := Below.refl _ _
  have MX := Lib.hid (isMat_matL (n := 2 + m) (c := 2 + m) (b := 20) xs (by omega) (by omega) (by omega))
  have MT := Lib.hid (isMat_turn MX.out)
  have HXA := Lib.hid hxa; clear hxa
  obtain ⟨D, hD⟩ : ∃ D, D = detL (matL (2 + m) (2 + m) xs 20) (2 + m) := ⟨_, rfl⟩
  have hdt : detL (turnL (matL (2 + m) (2 + m) xs 20) (2 + m) (2 + m)) (2 + m) = D := by rw [hD]; exact det_turn _ (by omega)
  have hst : smithL (matL (2 + m) (2 + m) xs 20) (2 + m) (2 + m) = smithL (turnL (matL (2 + m) (2 + m) xs 20) (2 + m) (2 + m)) (2 + m) (2 + m) := (smith_turn _ (by omega)).symm
  have hsw : detL (swapL (matL (2 + m) (2 + m) xs 20) i0 y) (2 + m) = -D := by rw [hD]; exact det_swap _ (matL_length _ _ _ _) (by omega) (by omega) (fun e => hyi e.symm) hi2 hy2
  have hab : D.natAbs ≤ 600 ^ (2 + m) := by rw [hD]; exact minM_abs (fun i j => Nat.le_trans (matL_abs xs i j) (by omega)) (by omega) _ _ _
  have hab2 : 600 ^ (2 + m) ≤ 600 ^ 5 := Nat.pow_le_pow_right (by omega) (by omega)
  have hd1 : -1000000000000000000 ≤ D := by omega
  have hd2 : D ≤ 1000000000000000000 := by omega
  have hd3 : (-D == -D) = true := by simp
  have hd4 : (D == D) = true := by simp
  have HSW := Lib.hid hsw; clear hsw hab hab2
  have MS := Lib.hid (isMat_swap MX.out (x := i0) (y := y) (fun e => hyi e.symm) hi2 hy2)
  have hml : (matL (2 + m) (2 + m) xs 20).length = 2 + m := matL_length _ _ _ _
  have HML := Lib.hid hml; clear hml
  have HD := Lib.hid hD; have HDT := Lib.hid hdt; have HST := Lib.hid hst; clear hD hdt hst
  go_enter Try.func5, Try.ntmps5
  go_wp2_with fail
  refine (below_nat n 4 m _ (by omega) (by omega) hn HM.out).mono ?_
  rintro e w' ⟨rfl, rfl⟩
  go_wp2_with fail
  rw [show (2 + (m : Int)) = ((2 + m : Nat) : Int) from by omega]
  refine (matrix_calls (2 + m) (2 + m) 20 a xs _ ha (by omega) (by omega) (by omega) HXA.out).mono ?_
  rintro e u2 ⟨x, rfl, hx0, hb2⟩
  replace ha := ha.below hb2
  replace HB := Below.chain HB hb2; clear hb2
  have hx := hx0.own.rows
  have s_hx := hx.isSl
  clear hx0
  go_wp2_with fail
  refine (det_calls _ _ (2 + m) _ hx MX.out (by omega)).mono ?_
  rintro e u3 ⟨rfl, hb3⟩
  replace ha := ha.below hb3
  replace hx := hx.below hb3
  replace HB := Below.chain HB hb3; clear hb3
  rw [← HD.out]
  go_wp2_with fail
  refine (turn_calls _ _ (2 + m) (2 + m) _ hx MX.out (by omega)).mono ?_
  rintro e u4 ⟨t1, rfl, ht0, hb4⟩
  replace ha := ha.below hb4
  replace hx := hx.below hb4
  replace HB := Below.chain HB hb4; clear hb4
  have ht1 := ht0.own.rows
  have s_ht1 := ht1.isSl
  clear ht0
  go_wp2_with fail
  refine (det_calls _ _ (2 + m) _ ht1 MT.out (by omega)).mono ?_
  rintro e u5 ⟨rfl, hb5⟩
  replace ha := ha.below hb5
  replace hx := hx.below hb5
  replace ht1 := ht1.below hb5
  replace HB := Below.chain HB hb5; clear hb5
  rw [HDT.out]
  go_wp2_with fail
  refine (smithE_calls _ _ (2 + m) (2 + m) _ hx MX.out (by omega) (by omega)).mono ?_
  rintro e u6 ⟨p, rfl, hp0, hb6⟩
  replace ha := ha.below hb6
  replace hx := hx.below hb6
  replace ht1 := ht1.below hb6
  replace HB := Below.chain HB hb6; clear hb6
  have hp := hp0.ints
  have s_hp := hp.isSl
  clear hp0
  go_wp2_with fail
  refine (turn_calls _ _ (2 + m) (2 + m) _ hx MX.out (by omega)).mono ?_
  rintro e u7 ⟨t2, rfl, ht0, hb7⟩
  replace ha := ha.below hb7
  replace hx := hx.below hb7
  replace ht1 := ht1.below hb7
  replace hp := hp.below hb7
  replace HB := Below.chain HB hb7; clear hb7
  have ht2 := ht0.own.rows
  have s_ht2 := ht2.isSl
  clear ht0
  go_wp2_with fail
  refine (smithE_calls _ _ (2 + m) (2 + m) _ ht2 MT.out (by omega) (by omega)).mono ?_
  rintro e u8 ⟨q, rfl, hq0, hb8⟩
  replace ha := ha.below hb8
  replace hx := hx.below hb8
  replace ht1 := ht1.below hb8
  replace hp := hp.below hb8
  replace ht2 := ht2.below hb8
  replace HB := Below.chain HB hb8; clear hb8
  have hq := hq0.ints
  have s_hq := hq.isSl
  clear hq0
  go_wp2_with fail
  refine (below_nat h _ i0 _ (by omega) (by omega) hh HI.out).mono ?_
  rintro e w' ⟨rfl, rfl⟩
  go_wp2_with fail
  refine (below_nat g _ k0 _ (by omega) (by omega) hg HK.out).mono ?_
  rintro e w' ⟨rfl, rfl⟩
  go_wp2_with fail
  obtain ⟨vs, hxv⟩ := hx
  refine (cloneRows_calls x vs _ _ hxv (by rw [HML.out]; omega) (by rw [HML.out]; omega)).mono ?_
  rintro e z1 ⟨s, rfl, hs, hz1⟩
  have sx := hxv.isSl
  have lx := hxv.len
  have ss := hs.isSl
  have ls := hs.sl.2.1
  have hvl := hxv.2.1
  rw [hvl] at ls
  rw [HML.out] at lx ls hvl
  rw [Nat.mul_one] at ls
  have cy := (hxv.below hz1).cell (i := y) (by rw [HML.out]; exact hy2)
  have cx := (hxv.below hz1).cell (i := i0) (by rw [HML.out]; exact hi2)
  have ox : z1.cell? (vat s i0) = some (nthv vs i0) := by rw [nthv_lt (by omega)]; exact hs.cell (by omega)
  have oy : z1.cell? (vat s y) = some (nthv vs y) := by rw [nthv_lt (by omega)]; exact hs.cell (by omega)
  have fx := hs.frozen (j := i0) (by omega)
  have fy := hs.frozen (j := y) (by omega)
  have sy1 := (hxv.row (i := y) (by rw [HML.out]; exact hy2)).isSl
  have sx1 := (hxv.row (i := i0) (by rw [HML.out]; exact hi2)).isSl
  have HF := Lib.hid (fun W hb => swapped_rows (W := W) hxv hs hz1 hb (fun e => hyi e.symm) (by rw [HML.out]; exact hi2) (by rw [HML.out]; exact hy2))
  have fy' : (z1.setCell (vat s i0) (nthv vs y)).frozen? (vat s y) = false := by rw [World.frozen?_setCell]; exact fy
  have hy' : (z1.setCell (vat s i0) (nthv vs y)).cell? (vat s y) = some (nthv vs y) := by
    rw [World.cell?_setCell_other _ _ _ _ (fun e => hyi (vat_inj.1 e).symm)]; exact oy
  have q1 : (i0 : Int) < 2 + (m : Int) := by omega
  have q2 : (y : Int) < 2 + (m : Int) := by omega
  have ls' : vlen s = 2 + m := ls.symm
  have HXV := Lib.hid hxv; have HSS := Lib.hid hs
  have LS := Lib.hid ls; have HVL := Lib.hid hvl
  clear hxv hs ls hvl
  go_wp2_with fail
  go_region
  go_wp2_with fail
  obtain ⟨F1, F2⟩ := HF.out z1 (Below.refl _ _)
  refine (det_calls _ _ (2 + m) _ (F1.below (Below.refl _ _).drew) MS.out (by omega)).mono ?_
  rintro e z4 ⟨rfl, hz4⟩
  rw [HSW.out]
  have hz5 := Below.chain F2.drew hz4
  replace hp := hp.below hz5
  replace hq := hq.below hz5
  replace HB := Below.chain HB hz5
  clear F1 F2 hz4 hz5 ox oy fx fy hy' fy' cx cy
  go_wp2_with fail
  refine (reckoned_calls _).mono ?_
  rintro e z6 ⟨rfl, hz6⟩
  replace hp := hp.below hz6
  replace hq := hq.below hz6
  replace HB := Below.chain HB hz6
  clear hz6
  go_wp2_with fail
  refine (equal_yes _ _ _ _ _ hp hq HST.out).mono ?_
  rintro e z7 ⟨rfl, hz7⟩
  replace HB := Below.chain HB hz7
  clear hz7
  go_wp2_with fail
  go_ret
  exact ⟨rfl, HB⟩

end Go.Proofs.Ytbopcejelddooaa
