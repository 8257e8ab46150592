/- MatrixSmithChain: for every input the statement returns true, and nothing that was there has changed. -/
import Derived.Test.YtdmogoeafjpphaaRank
import Derived.Test.YtdmogoeafjpphaaDelFunc
import Derived.Test.YtdmogoeafjpphaaTurned
import Derived.Test.YtdmogoeafjpphaaMatrixDetTimes
import Derived.Test.YtdmogoeafjpphaaClip
import Derived.Test.YtdmogoeafjpphaaTrim
import Derived.StillTailTactics
namespace Go.Proofs.Ytdmogoeafjpphaa
open Go.RowKit Go.Sl

theorem prod_bd (m : List (List Int)) {R C : Nat} (hE : ∀ r c, (ent2 m r c).natAbs ≤ 100) (hR : R ≤ 4) (hC : C ≤ 4) {k : Nat} (hk : k ≤ min R C) : 0 ≤ prodTo (smithL m R C) k ∧ prodTo (smithL m R C) k ≤ 129600000000 := by
  rw [prod_smith m hR hC k hk]
  have h1 : ∀ r c, (minM m C k r c).natAbs ≤ 129600000000 := fun r c => Nat.le_trans (minM_abs hE (by omega) k r c) (Nat.le_trans (Nat.pow_le_pow_right (by omega) (show k ≤ 4 by omega)) (by decide))
  have := rowsG_le h1 (2 ^ R)
  omega
theorem nz_calls (x : Int) (W : World) : Calls Try.prog 65 #[.int .i64 x] W fun e W' => e = .returned (.bool (x != 0)) ∧ W = W' := by
  go_enter Try.func65, Try.ntmps65
  go_wp2
  go_ret
  exact ⟨rfl, rfl⟩
theorem enters_s {k : FuncId} (h : Go.Proofs.Enters Try.prog k) : ∀ args w, (callFunc k args).run Try.prog w = .ok (.enter k args) w := h
/-- The row x, where the first j elements have those of the row y added. -/
def addTo (m : List (List Int)) (x y C j : Nat) : List Int := (List.range C).map fun q => if q < j then ent2 m x q + ent2 m y q else ent2 m x q
theorem addTo_length (m : List (List Int)) (x y C j : Nat) : (addTo m x y C j).length = C := by simp [addTo]
theorem nth_addTo (m : List (List Int)) (x y C j : Nat) {q : Nat} (hq : q < C) : nth (addTo m x y C j) q = if q < j then ent2 m x q + ent2 m y q else ent2 m x q := by
  rw [nth_lt (by rw [addTo_length]; exact hq)]; simp [addTo]
theorem addTo_zero (m : List (List Int)) {x y C : Nat} (h : (nthr m x).length = C) : addTo m x y C 0 = nthr m x := by
  refine ext_nth (by rw [addTo_length, h]) fun q hq => ?_
  rw [addTo_length] at hq
  rw [nth_addTo m x y C 0 hq]; simp [ent2]
theorem addTo_step (m : List (List Int)) {x y C j : Nat} (hj : j < C) : (addTo m x y C j).set j (ent2 m x j + ent2 m y j) = addTo m x y C (j + 1) := by
  refine ext_nth (by simp [addTo_length]) fun q hq => ?_
  have hq' : q < C := by simpa [addTo_length] using hq
  rw [nth_addTo m x y C (j + 1) hq']
  by_cases e : j = q
  · subst e
    rw [nth_set_same _ (by rw [addTo_length]; exact hj), if_pos (by omega)]
  · rw [nth_set_other _ e, nth_addTo m x y C j hq']
    by_cases h : q < j
    · rw [if_pos h, if_pos (by omega)]
    · rw [if_neg h, if_neg (by omega)]
theorem addTo_all (m : List (List Int)) {x y C : Nat} : addTo m x y C C = (List.range C).map fun j => ent2 m x j + ent2 m y j := by
  unfold addTo
  refine List.map_congr_left fun q hq => ?_
  rw [if_pos (List.mem_range.1 hq)]

theorem rows_end {W0 w : World} {m s u : Value} {vs : List Value} {M : List (List Int)} {B B' R x y C : Nat} (hx : RowsV W0 m vs M) (hb : Below W0.heap.size W0 w) (hs : Own w B 25 1 s (vs.set x u)) (hu : OwnI w B' u (addTo M x y C C)) (hl : M.length = R) (hxR : x < R) :
    Rows2 w s (addL M x y C) := by
  have hvl := hx.2.1
  refine ⟨vs.set x u, hs.sl, by rw [List.length_set, addL_length, hvl], fun i hi => ?_⟩
  rw [addL_length] at hi
  rw [nthr_addL M i hi, nthv_lt (by rw [List.length_set]; omega), List.getElem_set]
  by_cases e : x = i
  · subst e
    rw [if_pos rfl, if_pos rfl, ← addTo_all]
    exact hu.ints
  · rw [if_neg e, if_neg (Ne.symm e), ← nthv_lt (by omega)]
    exact (hx.below hb).row hi

set_option maxHeartbeats 4000000 in
set_option maxRecDepth 100000 in
theorem matrixSmithChain_true {w0 : World} (n : Int) (hn : I64 n) (cc : Int) (hcc : I64 cc) (a : Value) (xs : List Int) (ha : Ints w0 a xs) (hxa : ∀ x ∈ xs, I64 x) (h : Int) (hh : I64 h) (g : Int) (hg : I64 g) (w : World) (hw : w = w0 := by rfl) :
    Calls Try.prog 13 #[.int .i64 n, .int .i64 cc, a, .int .i64 h, .int .i64 g] w fun e w' => e = .returned (.bool true) ∧ Below w.heap.size w w' := by
  subst hw
  obtain ⟨r, hr⟩ : ∃ r : Nat, n % 3 = (r : Int) := ⟨(n % 3).toNat, by omega⟩
  have hr2 : r ≤ 2 := by omega
  obtain ⟨c, hc⟩ : ∃ c : Nat, cc % 4 = (c : Int) := ⟨(cc % 4).toNat, by omega⟩
  have hc3 : c ≤ 3 := by omega
  obtain ⟨R, hRe⟩ : ∃ R : Nat, R = 2 + r := ⟨_, rfl⟩
  obtain ⟨C, hCe⟩ : ∃ C : Nat, C = 1 + c := ⟨_, rfl⟩
  have hR4 : R ≤ 4 := by omega
  have hC4 : C ≤ 4 := by omega
  have hR0 : 2 ≤ R := by omega
  have hC0 : 0 < C := by omega
  have eR : (2 : Int) + (r : Int) = (R : Int) := by omega
  have eC : (1 : Int) + (c : Int) = (C : Int) := by omega
  obtain ⟨x0, hx0⟩ : ∃ x0 : Nat, h % (R : Int) = (x0 : Int) := ⟨(h % (R : Int)).toNat, by have := Int.emod_nonneg h (b := (R : Int)) (by omega); omega⟩
  have hx2 : x0 < R := by have := Int.emod_lt_of_pos h (b := (R : Int)) (by omega); omega
  obtain ⟨k0, hk⟩ : ∃ k0 : Nat, g % ((R : Int) - 1) = (k0 : Int) := ⟨(g % ((R : Int) - 1)).toNat, by have := Int.emod_nonneg g (b := (R : Int) - 1) (by omega); omega⟩
  have hk2 : k0 + 1 < R := by have := Int.emod_lt_of_pos g (b := (R : Int) - 1) (by omega); omega
  obtain ⟨y, hy⟩ : ∃ y : Nat, ((x0 : Int) + 1 + (k0 : Int)) % (R : Int) = (y : Int) := ⟨(((x0 : Int) + 1 + (k0 : Int)) % (R : Int)).toNat, by have := Int.emod_nonneg ((x0 : Int) + 1 + (k0 : Int)) (b := (R : Int)) (by omega); omega⟩
  have hy2 : y < R := by have := Int.emod_lt_of_pos ((x0 : Int) + 1 + (k0 : Int)) (b := (R : Int)) (by omega); omega
  have hyx : x0 ≠ y := by
    intro e
    rcases (show R = 2 ∨ R = 3 ∨ R = 4 from by omega) with rfl | rfl | rfl <;> omega
  have HB : Below w.heap.size w w := Below.refl _ _
  have MX0 := isMat_matL (n := R) (c := C) (b := 30) xs (by omega) (by omega) (by omega)
  have ME0 := fun i j => Nat.le_trans (matL_abs (n := R) (c := C) (b := 30) xs i j) (show 30 ≤ 100 by omega)
  have MB0 := matL_abs (n := R) (c := C) (b := 30) xs
  obtain ⟨M, hM⟩ : ∃ M, M = matL R C xs 30 := ⟨_, rfl⟩
  rw [← hM] at MX0 ME0 MB0
  have hML : M.length = R := MX0.rows
  obtain ⟨L, hL⟩ : ∃ L, L = smithL M R C := ⟨_, rfl⟩
  obtain ⟨K, hK⟩ : ∃ K, K = min R C := ⟨_, rfl⟩
  have hKL : L.length = K := by rw [hL, smithL_length, hK]
  have kmin : (K : Int) = min (R : Int) (C : Int) := by omega
  have hK4 : K ≤ 4 := by omega
  have Lnn : ∀ k, k < K → 0 ≤ nth L k := fun k hk => by rw [hL]; exact smith_nonneg M (by omega)
  have Lnx : ∀ k, k + 1 < K → (nth L k = 0 → nth L (k + 1) = 0) ∧ (nth L k ≠ 0 → (nth L (k + 1)).tmod (nth L k) = 0) := fun k hk => by rw [hL]; exact smith_next M hR4 hC4 (by omega)
  have Lbd : ∀ k, (nth L k).natAbs ≤ 46656000000000000 := fun k => by rw [hL]; exact smithL_le MX0 k
  have Lpr : ∀ k, k ≤ K → 0 ≤ prodTo L k ∧ prodTo L k ≤ 129600000000 := fun k hk => by rw [hL]; exact prod_bd M ME0 hR4 hC4 (by omega)
  have Lad : smithL (addL M x0 y C) R C = L := by rw [hL]; exact smith_add M hML hR4 hC4 hyx hy2
  have MA0 : IsMat (addL M x0 y C) R C := by
    refine ⟨by rw [addL_length]; exact hML, fun i hi => ?_, fun i hi j hj => ?_, by omega, by omega⟩
    · rw [nthr_addL M i (by omega)]
      split
      · simp
      · exact MX0.cols i hi
    · have e1 : nth (nthr (addL M x0 y C) i) j = rowAdd (ent2 M) x0 y 1 i j := ent_addL M (x := x0) (y := y) i j (by omega) hj
      rw [e1, rowAdd_at]
      have u1 := MB0 x0 j; have u2 := MB0 y j; have u3 := MB0 i j
      split <;> omega
  have MXH := Lib.hid MX0; have MAH := Lib.hid MA0; have MBH := Lib.hid MB0; have HMM := Lib.hid hM; have HML := Lib.hid hML
  have HL := Lib.hid hL.symm; have HK := Lib.hid hK; have HKL := Lib.hid hKL; have LNN := Lib.hid Lnn; have LNX := Lib.hid Lnx; have LBD := Lib.hid Lbd; have LPR := Lib.hid Lpr; have LAD := Lib.hid Lad
  have HRr := Lib.hid hr; have HCc := Lib.hid hc; have HX0 := Lib.hid hx0; have HK0 := Lib.hid hk; have HYY := Lib.hid hy
  have ER := Lib.hid eR; have EC := Lib.hid eC; have KMIN := Lib.hid kmin
  have HXA := Lib.hid hxa
  clear MX0 MA0 MB0 ME0 hM hML hL hK hKL Lnn Lnx Lbd Lpr Lad hr hc hx0 hk hy eR eC hRe hCe hxa kmin
  have sa := ha.isSl
  have HA := Lib.hid ha; have HB0 := Lib.hid HB
  clear ha HB
  go_enter Try.func13, Try.ntmps13
  go_wp2_with fail
  refine (below_nat n 3 r _ (by omega) (by omega) hn HRr.out).mono ?_
  rintro e w' ⟨rfl, rfl⟩
  go_wp2_with fail
  refine (below_nat cc 4 c _ (by omega) (by omega) hcc HCc.out).mono ?_
  rintro e w' ⟨rfl, rfl⟩
  rw [ER.out]
  go_wp2_with fail
  rw [EC.out]
  refine (matrix_calls R C 30 a xs _ HA.out (by omega) (by omega) (by omega) HXA.out).mono ?_
  rintro e u2 ⟨m, rfl, hm0, hb2⟩
  rw [← HMM.out] at hm0
  have hm := hm0.own.rows
  have sm := hm.isSl
  have HM := Lib.hid hm; have HB2 := Lib.hid hb2
  clear hm0 hm hb2
  go_wp2_with fail
  refine (smithE_calls _ _ R C _ HM.out MXH.out (by omega) (by omega)).mono ?_
  rw [HL.out]
  rintro e u3 ⟨l, rfl, hl, hb⟩
  have sl := hl.isSl
  have ll := hl.len
  rw [HKL.out] at ll
  have HM3 := Lib.hid (HM.out.below hb); have HB3 := Lib.hid (Below.chain HB2.out hb); have HLI := Lib.hid hl.ints
  clear hl hb HM HB2
  go_wp2_with fail
  refine (reckoned_calls _).mono ?_
  rintro e u4 ⟨rfl, hb⟩
  have HM4 := Lib.hid (HM3.out.below hb); have HB4 := Lib.hid (Below.chain HB3.out hb); have HL4 := Lib.hid (HLI.out.below hb)
  clear hb HM3 HB3 HLI
  have hcase : (R < C ∧ K = R) ∨ (R = C ∧ K = R) ∨ (C < R ∧ K = C) := by have := HK.out; omega
  rcases hcase with ⟨hc1, hc2⟩ | ⟨hc1, hc2⟩ | ⟨hc1, hc2⟩
  · have n1 : ((K : Int) != (R : Int)) = false := by simp [hc2]
    have n2 : ((R : Int) == (C : Int)) = false := by simp; omega
    have HC1 := Lib.hid hc1; have HC2 := Lib.hid hc2
    clear hc2
    go_wp2_with fail
    go_loop [14, 58] (fun p j => ∃ k : Nat, k ≤ K ∧ j = .int .i64 k ∧ p = .int .i64 (prodTo L k)) (fun _ j => K - (intOf j).toNat)
    case atStart => exact ⟨0, Nat.zero_le _, rfl, rfl⟩
    case round =>
      obtain ⟨k, hk, rfl, rfl⟩ := hrel
      by_cases hlt : k < K
      · have ck := HL4.out.cell (k := k) (by rw [HKL.out]; exact hlt)
        have hnn := LNN.out k hlt
        have hbd := LBD.out k
        have hp1 := LPR.out k hk
        have hp2 := LPR.out (k + 1) (by omega)
        have hps : prodTo L (k + 1) = prodTo L k * nth L k := rfl
        obtain ⟨x, hx⟩ : ∃ x, nth L k = x := ⟨_, rfl⟩
        obtain ⟨P, hP⟩ : ∃ P, prodTo L k = P := ⟨_, rfl⟩
        obtain ⟨Q, hQ⟩ : ∃ Q, prodTo L (k + 1) = Q := ⟨_, rfl⟩
        rw [hx, hP, hQ] at hps
        rw [hx] at ck hnn hbd
        rw [hP] at hp1 ⊢
        rw [hQ] at hp2
        have wq : IntKind.i64.wrap (P * x) = Q := by rw [← hps]; exact IntWalk.i64_in _ ⟨by omega, by omega⟩
        have nx : ¬ x < 0 := by omega
        have HQ := Lib.hid hQ
        by_cases h0 : k = 0
        · subst h0
          clear hx hP hQ hps hp1 hp2 hbd
          go_wp2_with fail
          go_round
          case rel => exact ⟨0 + 1, by omega, by go_num, by rw [HQ.out]⟩
          case measure => simp [intOf]; omega
        · have cp := HL4.out.cell (k := k - 1) (by rw [HKL.out]; omega)
          obtain ⟨k1, rfl⟩ : ∃ k1, k = k1 + 1 := ⟨k - 1, by omega⟩
          have hnxt := LNX.out k1 (by omega)
          rw [hx] at hnxt
          rw [Nat.add_sub_cancel] at cp
          obtain ⟨y1, hy1⟩ : ∃ y1, nth L k1 = y1 := ⟨_, rfl⟩
          rw [hy1] at cp hnxt
          have yb := LBD.out k1
          rw [hy1] at yb
          have hNX := Lib.hid hnxt
          clear hx hP hQ hps hp1 hp2 hy1 hnxt h0
          by_cases hz : y1 = 0
          · have hx0 := hNX.out.1 hz
            have b1 : (y1 == 0) = true := by simp [hz]
            have b2 : (y1 != 0) = false := by simp [hz]
            have b3 : (x != 0) = false := by simp [hx0]
            clear hx0 hz
            go_wp2_with fail
            go_round
            case rel => exact ⟨k1 + 1 + 1, by omega, by go_num, by rw [HQ.out]⟩
            case measure => simp [intOf]; omega
          · have hm0 := hNX.out.2 hz
            have b1 : (y1 == 0) = false := by simp [hz]
            have b2 : (y1 != 0) = true := by simp [hz]
            have b3 : (x.tmod y1 != 0) = false := by simp [hm0]
            have hm1 : x % y1 = 0 := by rw [← Int.tmod_eq_emod_of_nonneg hnn]; exact hm0
            have b4 : (x % y1 != 0) = false := by simp [hm1]
            clear hm1
            clear hm0
            go_wp2_with fail
            refine ⟨⟨k1 + 1 + 1, by omega, by go_num, by rw [HQ.out]⟩, by simp [intOf]; omega⟩
      · obtain rfl : k = K := by omega
        go_wp2_with fail
        refine (below_nat h R x0 _ (by omega) (by omega) hh HX0.out).mono ?_
        rintro e w' ⟨rfl, rfl⟩
        go_wp2_with fail
        refine (below_nat g ((R : Int) - 1) k0 _ (by omega) (by omega) hg HK0.out).mono ?_
        rintro e w' ⟨rfl, rfl⟩
        go_wp2_with fail
        rw [HYY.out]
        obtain ⟨vs, hxv⟩ := HM4.out
        refine (cloneRows_calls m vs M _ hxv (by rw [HML.out]; omega) (by rw [HML.out]; omega)).mono ?_
        rintro e z1 ⟨s, rfl, hs, hz1⟩
        have ss := hs.isSl
        have ls := hs.sl.2.1
        have hvl := hxv.2.1
        rw [HML.out] at hvl
        rw [hvl, Nat.mul_one] at ls
        have ls' : vlen s = R := ls.symm
        have lm := hxv.len
        rw [HML.out] at lm
        have cx := (hxv.below hz1).cell (i := x0) (by rw [HML.out]; exact hx2)
        have sx1 := (hxv.row (i := x0) (by rw [HML.out]; exact hx2)).isSl
        have rx := (hxv.below hz1).row (i := x0) (by rw [HML.out]; exact hx2)
        have hrl := MXH.out.cols x0 hx2
        have q1 : (x0 : Int) < (R : Int) := by omega
        have q2 : (y : Int) < (R : Int) := by omega
        have HXV := Lib.hid hxv; have HSS := Lib.hid hs; have HZ1 := Lib.hid hz1; have HRX := Lib.hid rx; have HRL := Lib.hid hrl; have HVL := Lib.hid hvl
        clear hxv hs ls hvl hz1 rx hrl
        go_wp2_with fail
        refine (clone_calls _ _ _ HRX.out (by rw [HRL.out]; omega)).mono ?_
        rintro e z2 ⟨u, rfl, hu, hz2⟩
        have su := hu.isSl
        have lu := hu.len
        rw [HRL.out] at lu
        have hs2 := HSS.out.below hz2
        have ox : z2.cell? (vat s x0) = some (nthv vs x0) := by rw [nthv_lt (by rw [HVL.out]; exact hx2)]; exact hs2.cell (by rw [HVL.out]; exact hx2)
        have fx := hs2.frozen (j := x0) (by rw [HVL.out]; exact hx2)
        have HU := Lib.hid hu; have HZ2 := Lib.hid hz2
        clear hu hz2 hs2 cx
        have hz3 : Below u4.heap.size u4 (z2.setCell (vat s x0) u) := (Below.chain HZ1.out HZ2.out).setCell (HSS.out.ge (by rw [HVL.out]; exact hx2)) _
        have hu3 : OwnI (z2.setCell (vat s x0) u) z1.heap.size u (nthr M x0) := HU.out.setOther (fun b hb e => by have h1 := (HU.out.lt b hb).1; have h2 := (HSS.out.lt (vblk s) (row_some (by have := HSS.out.1.le; omega))).2; rw [vat_block] at e; omega) u
        have hs3 : Own (z2.setCell (vat s x0) u) u4.heap.size 25 1 s (vs.set x0 u) := (HSS.out.below HZ2.out).set (by rw [HVL.out]; exact hx2) u
        rw [← addTo_zero M (y := y) HRL.out] at hu3
        have hcu : vlen u = C := lu
        have HU3 := Lib.hid hu3; have HS3 := Lib.hid hs3; have HZ3 := Lib.hid hz3
        have hs1 := HZ1.out.size
        have hb12 : vblk s < z1.heap.size := (HSS.out.lt (vblk s) (row_some (by have := HSS.out.1.le; omega))).2
        clear hz3 hu3 hs3
        go_wp2_with fail
        clear ox fx
        go_loopw [144] (fun j wr => ∃ k : Nat, k ≤ C ∧ j = .int .i64 k ∧ OwnI wr z1.heap.size u (addTo M x0 y C k) ∧ Own wr u4.heap.size 25 1 s (vs.set x0 u) ∧ Below u4.heap.size u4 wr) (fun j _ => C - (intOf j).toNat)
        case atStart => exact ⟨0, by omega, rfl, HU3.out, HS3.out, HZ3.out⟩
        case round =>
          obtain ⟨j, hj, rfl, ho, hsr, hb⟩ := hrel
          by_cases hjC : j < C
          · have c1 : wr.cell? (vat s x0) = some u := by have := hsr.cell (j := x0) (by simp; rw [HVL.out]; exact hx2); simpa using this
            have hxr := HXV.out.below hb
            have c2 := ho.cell (k := j) (by rw [addTo_length]; exact hjC)
            rw [nth_addTo M x0 y C j hjC, if_neg (by omega)] at c2
            have c3 := hxr.cell (i := y) (by rw [HML.out]; exact hy2)
            have ry := hxr.row (i := y) (by rw [HML.out]; exact hy2)
            have sy := ry.isSl
            have ly := ry.len
            rw [MXH.out.cols y hy2] at ly
            have c4 := ry.cell (k := j) (by rw [MXH.out.cols y hy2]; exact hjC)
            rw [show nth (nthr M y) j = ent2 M y j from rfl] at c4
            have f2 := ho.frozen (k := j) (by rw [addTo_length]; exact hjC)
            have g2 := ho.ge (k := j) (by rw [addTo_length]; exact hjC)
            have b1 := MBH.out x0 j; have b2 := MBH.out y j
            have hset := ho.set (k := j) (by rw [addTo_length]; exact hjC) (ent2 M x0 j + ent2 M y j)
            rw [addTo_step M hjC] at hset
            obtain ⟨p, hp⟩ : ∃ p, ent2 M x0 j = p := ⟨_, rfl⟩
            obtain ⟨q, hq⟩ : ∃ q, ent2 M y j = q := ⟨_, rfl⟩
            rw [hp] at c2 b1
            rw [hq] at c4 b2
            rw [hp, hq] at hset
            have hsn := hsr.setOther (p := vat u j) (fun b hb e => by rw [vat_block] at e g2; have := (row_eq hb).2; omega) (.int .i64 (p + q))
            have hbn := hb.setCell (p := vat u j) (by rw [vat_block] at g2 ⊢; omega) (.int .i64 (p + q))
            have HSET := Lib.hid hset; have HSN := Lib.hid hsn; have HBN := Lib.hid hbn
            clear ho hsr hb hxr ry hset hsn hbn hp hq g2
            go_wp2_with fail
            go_still_tail 16, (by kernel_rfl)
            go_wp2_with fail
            refine ⟨⟨j + 1, by omega, by go_num, HSET.out.below (Below.refl _ _).drew, HSN.out.below (Below.refl _ _).drew, HBN.out.drew⟩, by simp [intOf]; omega⟩
          · obtain rfl : j = C := by omega
            have HO := Lib.hid ho; have HSR := Lib.hid hsr; have HBR := Lib.hid hb
            have hre := rows_end HXV.out hb hsr ho HML.out hx2
            have HRE := Lib.hid hre; have HX5 := Lib.hid (HM4.out.below hb); have HL5 := Lib.hid (HL4.out.below hb); have HB5 := Lib.hid (Below.chain HB4.out hb)
            clear ho hsr hb hre
            go_wp2_with fail
            refine (smithE_calls s _ R j _ HRE.out MAH.out (by omega) (by omega)).mono ?_
            rw [LAD.out]
            rintro e u5 ⟨o, rfl, ho, hb⟩
            have so := ho.isSl
            have HO5 := Lib.hid ho.ints; have HX6 := Lib.hid (HX5.out.below hb); have HL6 := Lib.hid (HL5.out.below hb); have HB6 := Lib.hid (Below.chain HB5.out hb)
            clear ho hb HX5 HL5 HB5
            go_wp2_with fail
            refine (mrank_calls m M R j _ HX6.out MXH.out (by omega) (by omega)).mono ?_
            rw [HL.out]
            rintro e u6 ⟨rfl, hb⟩
            have HO7 := Lib.hid (HO5.out.below hb); have HL7 := Lib.hid (HL6.out.below hb); have HB7 := Lib.hid (Below.chain HB6.out hb)
            clear hb HX6 HL6 HB6 HO5
            go_wp2_with fail
            refine (equal_yes _ _ L L _ HO7.out HL7.out rfl).mono ?_
            rintro e u7 ⟨rfl, hb⟩
            have HL8 := Lib.hid (HL7.out.below hb); have HB8 := Lib.hid (Below.chain HB7.out hb)
            clear hb HO7 HL7 HB7
            go_wp2_with fail
            refine (clone_calls _ L _ HL8.out (by rw [HKL.out]; omega)).mono ?_
            rintro e u8 ⟨o2, rfl, ho2, hb⟩
            have so2 := ho2.isSl
            have HO9 := Lib.hid ho2; have HB9 := Lib.hid (Below.chain HB8.out hb)
            have hz9 := hb.size
            have hB8 := HB8.out.size
            clear hb ho2 HL8 HB8
            go_wp2_with fail
            refine (deleteFunc_calls o2 L (fun x => x != 0) _ (enters_s (Go.Proofs.enters_of Try.func65 (by kernel_rfl) rfl)) _ _ HO9.out hz9 (by rw [HKL.out]; omega) (fun x W _ => nz_calls x W)).mono ?_
            rintro e u9 ⟨o3, rfl, so3, lo3, hb⟩
            have HBE := Lib.hid (HB9.out.trans (hb.mono (by omega)))
            have hfl := filter_two L
            have hzz := nzTo_filter L L.length (Nat.le_refl _)
            rw [List.take_length] at hzz
            rw [← hzz, ← lo3, HKL.out] at hfl
            rw [HKL.out]
            have hr1 : (nzTo L k : Int) = (k : Int) - (vlen o3 : Int) := by rw [HKL.out] at hzz; omega
            clear hb lo3 hzz
            go_wp2_with fail
            go_ret
            exact ⟨rfl, HBE.out⟩
  · have n1 : ((K : Int) != (R : Int)) = false := by simp [hc2]
    have n1' : ((K : Int) != (C : Int)) = false := by simp; omega
    have n2 : ((R : Int) == (C : Int)) = true := by simp; omega
    have hle : R ≤ C := by omega
    have HC1 := Lib.hid hc1; have HC2 := Lib.hid hc2
    clear hc2 hc1
    go_wp2_with fail
    go_loop [14, 58] (fun p j => ∃ k : Nat, k ≤ K ∧ j = .int .i64 k ∧ p = .int .i64 (prodTo L k)) (fun _ j => K - (intOf j).toNat)
    case atStart => exact ⟨0, Nat.zero_le _, rfl, rfl⟩
    case round =>
      obtain ⟨k, hk, rfl, rfl⟩ := hrel
      by_cases hlt : k < K
      · have ck := HL4.out.cell (k := k) (by rw [HKL.out]; exact hlt)
        have hnn := LNN.out k hlt
        have hbd := LBD.out k
        have hp1 := LPR.out k hk
        have hp2 := LPR.out (k + 1) (by omega)
        have hps : prodTo L (k + 1) = prodTo L k * nth L k := rfl
        obtain ⟨x, hx⟩ : ∃ x, nth L k = x := ⟨_, rfl⟩
        obtain ⟨P, hP⟩ : ∃ P, prodTo L k = P := ⟨_, rfl⟩
        obtain ⟨Q, hQ⟩ : ∃ Q, prodTo L (k + 1) = Q := ⟨_, rfl⟩
        rw [hx, hP, hQ] at hps
        rw [hx] at ck hnn hbd
        rw [hP] at hp1 ⊢
        rw [hQ] at hp2
        have wq : IntKind.i64.wrap (P * x) = Q := by rw [← hps]; exact IntWalk.i64_in _ ⟨by omega, by omega⟩
        have nx : ¬ x < 0 := by omega
        have HQ := Lib.hid hQ
        by_cases h0 : k = 0
        · subst h0
          clear hx hP hQ hps hp1 hp2 hbd
          go_wp2_with fail
          go_round
          case rel => exact ⟨0 + 1, by omega, by go_num, by rw [HQ.out]⟩
          case measure => simp [intOf]; omega
        · have cp := HL4.out.cell (k := k - 1) (by rw [HKL.out]; omega)
          obtain ⟨k1, rfl⟩ : ∃ k1, k = k1 + 1 := ⟨k - 1, by omega⟩
          have hnxt := LNX.out k1 (by omega)
          rw [hx] at hnxt
          rw [Nat.add_sub_cancel] at cp
          obtain ⟨y1, hy1⟩ : ∃ y1, nth L k1 = y1 := ⟨_, rfl⟩
          rw [hy1] at cp hnxt
          have yb := LBD.out k1
          rw [hy1] at yb
          have hNX := Lib.hid hnxt
          clear hx hP hQ hps hp1 hp2 hy1 hnxt h0
          by_cases hz : y1 = 0
          · have hx0 := hNX.out.1 hz
            have b1 : (y1 == 0) = true := by simp [hz]
            have b2 : (y1 != 0) = false := by simp [hz]
            have b3 : (x != 0) = false := by simp [hx0]
            clear hx0 hz
            go_wp2_with fail
            go_round
            case rel => exact ⟨k1 + 1 + 1, by omega, by go_num, by rw [HQ.out]⟩
            case measure => simp [intOf]; omega
          · have hm0 := hNX.out.2 hz
            have b1 : (y1 == 0) = false := by simp [hz]
            have b2 : (y1 != 0) = true := by simp [hz]
            have b3 : (x.tmod y1 != 0) = false := by simp [hm0]
            have hm1 : x % y1 = 0 := by rw [← Int.tmod_eq_emod_of_nonneg hnn]; exact hm0
            have b4 : (x % y1 != 0) = false := by simp [hm1]
            clear hm1
            clear hm0
            go_wp2_with fail
            refine ⟨⟨k1 + 1 + 1, by omega, by go_num, by rw [HQ.out]⟩, by simp [intOf]; omega⟩
      · obtain rfl : k = K := by omega
        go_wp2_with fail
        have MXR : IsMat M R R := by have := MXH.out; rwa [← HC1.out] at this
        have hdet : (prodTo L k : Int) = ((detL M R).natAbs : Int) := by
          have h1 := prod_smith M hR4 hC4 k (by have := HK.out; omega)
          have h2 := prod_det M hR4
          rw [HL.out] at h1
          have e : k = R := HC2.out
          have e2 : C = R := HC1.out.symm
          rw [h1, e2, e, h2]
        have hDB := LPR.out k (Nat.le_refl _)
        refine (det_calls m M R _ HM4.out MXR (by omega)).mono ?_
        rintro e v4 ⟨rfl, hb⟩
        replace HM4 := Lib.hid (HM4.out.below hb); replace HL4 := Lib.hid (HL4.out.below hb); replace HB4 := Lib.hid (Below.chain HB4.out hb)
        obtain ⟨D, hD⟩ : ∃ D, detL M R = D := ⟨_, rfl⟩
        rw [hD] at hdet ⊢
        rw [hdet] at hDB ⊢
        have HD := Lib.hid hD
        clear hb hD hdet MXR
        rcases Int.lt_or_le D 0 with hs | hs
        · have hs' : -D > D := by omega
          have hm1 : ((D.natAbs : Int) != -D) = false := by simp; omega
          go_wp2_with fail
          refine (below_nat h R x0 _ (by omega) (by omega) hh HX0.out).mono ?_
          rintro e w' ⟨rfl, rfl⟩
          go_wp2_with fail
          refine (below_nat g ((R : Int) - 1) k0 _ (by omega) (by omega) hg HK0.out).mono ?_
          rintro e w' ⟨rfl, rfl⟩
          go_wp2_with fail
          rw [HYY.out]
          obtain ⟨vs, hxv⟩ := HM4.out
          refine (cloneRows_calls m vs M _ hxv (by rw [HML.out]; omega) (by rw [HML.out]; omega)).mono ?_
          rintro e z1 ⟨s, rfl, hs, hz1⟩
          have ss := hs.isSl
          have ls := hs.sl.2.1
          have hvl := hxv.2.1
          rw [HML.out] at hvl
          rw [hvl, Nat.mul_one] at ls
          have ls' : vlen s = R := ls.symm
          have lm := hxv.len
          rw [HML.out] at lm
          have cx := (hxv.below hz1).cell (i := x0) (by rw [HML.out]; exact hx2)
          have sx1 := (hxv.row (i := x0) (by rw [HML.out]; exact hx2)).isSl
          have rx := (hxv.below hz1).row (i := x0) (by rw [HML.out]; exact hx2)
          have hrl := MXH.out.cols x0 hx2
          have q1 : (x0 : Int) < (R : Int) := by omega
          have q2 : (y : Int) < (R : Int) := by omega
          have HXV := Lib.hid hxv; have HSS := Lib.hid hs; have HZ1 := Lib.hid hz1; have HRX := Lib.hid rx; have HRL := Lib.hid hrl; have HVL := Lib.hid hvl
          clear hxv hs ls hvl hz1 rx hrl
          go_wp2_with fail
          refine (clone_calls _ _ _ HRX.out (by rw [HRL.out]; omega)).mono ?_
          rintro e z2 ⟨u, rfl, hu, hz2⟩
          have su := hu.isSl
          have lu := hu.len
          rw [HRL.out] at lu
          have hs2 := HSS.out.below hz2
          have ox : z2.cell? (vat s x0) = some (nthv vs x0) := by rw [nthv_lt (by rw [HVL.out]; exact hx2)]; exact hs2.cell (by rw [HVL.out]; exact hx2)
          have fx := hs2.frozen (j := x0) (by rw [HVL.out]; exact hx2)
          have HU := Lib.hid hu; have HZ2 := Lib.hid hz2
          clear hu hz2 hs2 cx
          have hz3 : Below v4.heap.size v4 (z2.setCell (vat s x0) u) := (Below.chain HZ1.out HZ2.out).setCell (HSS.out.ge (by rw [HVL.out]; exact hx2)) _
          have hu3 : OwnI (z2.setCell (vat s x0) u) z1.heap.size u (nthr M x0) := HU.out.setOther (fun b hb e => by have h1 := (HU.out.lt b hb).1; have h2 := (HSS.out.lt (vblk s) (row_some (by have := HSS.out.1.le; omega))).2; rw [vat_block] at e; omega) u
          have hs3 : Own (z2.setCell (vat s x0) u) v4.heap.size 25 1 s (vs.set x0 u) := (HSS.out.below HZ2.out).set (by rw [HVL.out]; exact hx2) u
          rw [← addTo_zero M (y := y) HRL.out] at hu3
          have hcu : vlen u = C := lu
          have HU3 := Lib.hid hu3; have HS3 := Lib.hid hs3; have HZ3 := Lib.hid hz3
          have hs1 := HZ1.out.size
          have hb12 : vblk s < z1.heap.size := (HSS.out.lt (vblk s) (row_some (by have := HSS.out.1.le; omega))).2
          clear hz3 hu3 hs3
          go_wp2_with fail
          clear ox fx
          go_loopw [144] (fun j wr => ∃ k : Nat, k ≤ C ∧ j = .int .i64 k ∧ OwnI wr z1.heap.size u (addTo M x0 y C k) ∧ Own wr v4.heap.size 25 1 s (vs.set x0 u) ∧ Below v4.heap.size v4 wr) (fun j _ => C - (intOf j).toNat)
          case atStart => exact ⟨0, by omega, rfl, HU3.out, HS3.out, HZ3.out⟩
          case round =>
            obtain ⟨j, hj, rfl, ho, hsr, hb⟩ := hrel
            by_cases hjC : j < C
            · have c1 : wr.cell? (vat s x0) = some u := by have := hsr.cell (j := x0) (by simp; rw [HVL.out]; exact hx2); simpa using this
              have hxr := HXV.out.below hb
              have c2 := ho.cell (k := j) (by rw [addTo_length]; exact hjC)
              rw [nth_addTo M x0 y C j hjC, if_neg (by omega)] at c2
              have c3 := hxr.cell (i := y) (by rw [HML.out]; exact hy2)
              have ry := hxr.row (i := y) (by rw [HML.out]; exact hy2)
              have sy := ry.isSl
              have ly := ry.len
              rw [MXH.out.cols y hy2] at ly
              have c4 := ry.cell (k := j) (by rw [MXH.out.cols y hy2]; exact hjC)
              rw [show nth (nthr M y) j = ent2 M y j from rfl] at c4
              have f2 := ho.frozen (k := j) (by rw [addTo_length]; exact hjC)
              have g2 := ho.ge (k := j) (by rw [addTo_length]; exact hjC)
              have b1 := MBH.out x0 j; have b2 := MBH.out y j
              have hset := ho.set (k := j) (by rw [addTo_length]; exact hjC) (ent2 M x0 j + ent2 M y j)
              rw [addTo_step M hjC] at hset
              obtain ⟨p, hp⟩ : ∃ p, ent2 M x0 j = p := ⟨_, rfl⟩
              obtain ⟨q, hq⟩ : ∃ q, ent2 M y j = q := ⟨_, rfl⟩
              rw [hp] at c2 b1
              rw [hq] at c4 b2
              rw [hp, hq] at hset
              have hsn := hsr.setOther (p := vat u j) (fun b hb e => by rw [vat_block] at e g2; have := (row_eq hb).2; omega) (.int .i64 (p + q))
              have hbn := hb.setCell (p := vat u j) (by rw [vat_block] at g2 ⊢; omega) (.int .i64 (p + q))
              have HSET := Lib.hid hset; have HSN := Lib.hid hsn; have HBN := Lib.hid hbn
              clear ho hsr hb hxr ry hset hsn hbn hp hq g2
              go_wp2_with fail
              go_still_tail 16, (by kernel_rfl)
              go_wp2_with fail
              refine ⟨⟨j + 1, by omega, by go_num, HSET.out.below (Below.refl _ _).drew, HSN.out.below (Below.refl _ _).drew, HBN.out.drew⟩, by simp [intOf]; omega⟩
            · obtain rfl : j = C := by omega
              have HO := Lib.hid ho; have HSR := Lib.hid hsr; have HBR := Lib.hid hb
              have hre := rows_end HXV.out hb hsr ho HML.out hx2
              have HRE := Lib.hid hre; have HX5 := Lib.hid (HM4.out.below hb); have HL5 := Lib.hid (HL4.out.below hb); have HB5 := Lib.hid (Below.chain HB4.out hb)
              clear ho hsr hb hre
              go_wp2_with fail
              refine (smithE_calls s _ R j _ HRE.out MAH.out (by omega) (by omega)).mono ?_
              rw [LAD.out]
              rintro e u5 ⟨o, rfl, ho, hb⟩
              have so := ho.isSl
              have HO5 := Lib.hid ho.ints; have HX6 := Lib.hid (HX5.out.below hb); have HL6 := Lib.hid (HL5.out.below hb); have HB6 := Lib.hid (Below.chain HB5.out hb)
              clear ho hb HX5 HL5 HB5
              go_wp2_with fail
              refine (mrank_calls m M R j _ HX6.out MXH.out (by omega) (by omega)).mono ?_
              rw [HL.out]
              rintro e u6 ⟨rfl, hb⟩
              have HO7 := Lib.hid (HO5.out.below hb); have HL7 := Lib.hid (HL6.out.below hb); have HB7 := Lib.hid (Below.chain HB6.out hb)
              clear hb HX6 HL6 HB6 HO5
              go_wp2_with fail
              refine (equal_yes _ _ L L _ HO7.out HL7.out rfl).mono ?_
              rintro e u7 ⟨rfl, hb⟩
              have HL8 := Lib.hid (HL7.out.below hb); have HB8 := Lib.hid (Below.chain HB7.out hb)
              clear hb HO7 HL7 HB7
              go_wp2_with fail
              refine (clone_calls _ L _ HL8.out (by rw [HKL.out]; omega)).mono ?_
              rintro e u8 ⟨o2, rfl, ho2, hb⟩
              have so2 := ho2.isSl
              have HO9 := Lib.hid ho2; have HB9 := Lib.hid (Below.chain HB8.out hb)
              have hz9 := hb.size
              have hB8 := HB8.out.size
              clear hb ho2 HL8 HB8
              go_wp2_with fail
              refine (deleteFunc_calls o2 L (fun x => x != 0) _ (enters_s (Go.Proofs.enters_of Try.func65 (by kernel_rfl) rfl)) _ _ HO9.out hz9 (by rw [HKL.out]; omega) (fun x W _ => nz_calls x W)).mono ?_
              rintro e u9 ⟨o3, rfl, so3, lo3, hb⟩
              have HBE := Lib.hid (HB9.out.trans (hb.mono (by omega)))
              have hfl := filter_two L
              have hzz := nzTo_filter L L.length (Nat.le_refl _)
              rw [List.take_length] at hzz
              rw [← hzz, ← lo3, HKL.out] at hfl
              rw [HKL.out]
              have hr1 : (nzTo L k : Int) = (k : Int) - (vlen o3 : Int) := by rw [HKL.out] at hzz; omega
              clear hb lo3 hzz
              go_wp2_with fail
              go_ret
              exact ⟨rfl, HBE.out⟩
        · have hs' : ¬ -D > D := by omega
          have hm1 : ((D.natAbs : Int) != D) = false := by simp; omega
          go_wp2_with fail
          refine (below_nat h R x0 _ (by omega) (by omega) hh HX0.out).mono ?_
          rintro e w' ⟨rfl, rfl⟩
          go_wp2_with fail
          refine (below_nat g ((R : Int) - 1) k0 _ (by omega) (by omega) hg HK0.out).mono ?_
          rintro e w' ⟨rfl, rfl⟩
          go_wp2_with fail
          rw [HYY.out]
          obtain ⟨vs, hxv⟩ := HM4.out
          refine (cloneRows_calls m vs M _ hxv (by rw [HML.out]; omega) (by rw [HML.out]; omega)).mono ?_
          rintro e z1 ⟨s, rfl, hs, hz1⟩
          have ss := hs.isSl
          have ls := hs.sl.2.1
          have hvl := hxv.2.1
          rw [HML.out] at hvl
          rw [hvl, Nat.mul_one] at ls
          have ls' : vlen s = R := ls.symm
          have lm := hxv.len
          rw [HML.out] at lm
          have cx := (hxv.below hz1).cell (i := x0) (by rw [HML.out]; exact hx2)
          have sx1 := (hxv.row (i := x0) (by rw [HML.out]; exact hx2)).isSl
          have rx := (hxv.below hz1).row (i := x0) (by rw [HML.out]; exact hx2)
          have hrl := MXH.out.cols x0 hx2
          have q1 : (x0 : Int) < (R : Int) := by omega
          have q2 : (y : Int) < (R : Int) := by omega
          have HXV := Lib.hid hxv; have HSS := Lib.hid hs; have HZ1 := Lib.hid hz1; have HRX := Lib.hid rx; have HRL := Lib.hid hrl; have HVL := Lib.hid hvl
          clear hxv hs ls hvl hz1 rx hrl
          go_wp2_with fail
          refine (clone_calls _ _ _ HRX.out (by rw [HRL.out]; omega)).mono ?_
          rintro e z2 ⟨u, rfl, hu, hz2⟩
          have su := hu.isSl
          have lu := hu.len
          rw [HRL.out] at lu
          have hs2 := HSS.out.below hz2
          have ox : z2.cell? (vat s x0) = some (nthv vs x0) := by rw [nthv_lt (by rw [HVL.out]; exact hx2)]; exact hs2.cell (by rw [HVL.out]; exact hx2)
          have fx := hs2.frozen (j := x0) (by rw [HVL.out]; exact hx2)
          have HU := Lib.hid hu; have HZ2 := Lib.hid hz2
          clear hu hz2 hs2 cx
          have hz3 : Below v4.heap.size v4 (z2.setCell (vat s x0) u) := (Below.chain HZ1.out HZ2.out).setCell (HSS.out.ge (by rw [HVL.out]; exact hx2)) _
          have hu3 : OwnI (z2.setCell (vat s x0) u) z1.heap.size u (nthr M x0) := HU.out.setOther (fun b hb e => by have h1 := (HU.out.lt b hb).1; have h2 := (HSS.out.lt (vblk s) (row_some (by have := HSS.out.1.le; omega))).2; rw [vat_block] at e; omega) u
          have hs3 : Own (z2.setCell (vat s x0) u) v4.heap.size 25 1 s (vs.set x0 u) := (HSS.out.below HZ2.out).set (by rw [HVL.out]; exact hx2) u
          rw [← addTo_zero M (y := y) HRL.out] at hu3
          have hcu : vlen u = C := lu
          have HU3 := Lib.hid hu3; have HS3 := Lib.hid hs3; have HZ3 := Lib.hid hz3
          have hs1 := HZ1.out.size
          have hb12 : vblk s < z1.heap.size := (HSS.out.lt (vblk s) (row_some (by have := HSS.out.1.le; omega))).2
          clear hz3 hu3 hs3
          go_wp2_with fail
          clear ox fx
          go_loopw [144] (fun j wr => ∃ k : Nat, k ≤ C ∧ j = .int .i64 k ∧ OwnI wr z1.heap.size u (addTo M x0 y C k) ∧ Own wr v4.heap.size 25 1 s (vs.set x0 u) ∧ Below v4.heap.size v4 wr) (fun j _ => C - (intOf j).toNat)
          case atStart => exact ⟨0, by omega, rfl, HU3.out, HS3.out, HZ3.out⟩
          case round =>
            obtain ⟨j, hj, rfl, ho, hsr, hb⟩ := hrel
            by_cases hjC : j < C
            · have c1 : wr.cell? (vat s x0) = some u := by have := hsr.cell (j := x0) (by simp; rw [HVL.out]; exact hx2); simpa using this
              have hxr := HXV.out.below hb
              have c2 := ho.cell (k := j) (by rw [addTo_length]; exact hjC)
              rw [nth_addTo M x0 y C j hjC, if_neg (by omega)] at c2
              have c3 := hxr.cell (i := y) (by rw [HML.out]; exact hy2)
              have ry := hxr.row (i := y) (by rw [HML.out]; exact hy2)
              have sy := ry.isSl
              have ly := ry.len
              rw [MXH.out.cols y hy2] at ly
              have c4 := ry.cell (k := j) (by rw [MXH.out.cols y hy2]; exact hjC)
              rw [show nth (nthr M y) j = ent2 M y j from rfl] at c4
              have f2 := ho.frozen (k := j) (by rw [addTo_length]; exact hjC)
              have g2 := ho.ge (k := j) (by rw [addTo_length]; exact hjC)
              have b1 := MBH.out x0 j; have b2 := MBH.out y j
              have hset := ho.set (k := j) (by rw [addTo_length]; exact hjC) (ent2 M x0 j + ent2 M y j)
              rw [addTo_step M hjC] at hset
              obtain ⟨p, hp⟩ : ∃ p, ent2 M x0 j = p := ⟨_, rfl⟩
              obtain ⟨q, hq⟩ : ∃ q, ent2 M y j = q := ⟨_, rfl⟩
              rw [hp] at c2 b1
              rw [hq] at c4 b2
              rw [hp, hq] at hset
              have hsn := hsr.setOther (p := vat u j) (fun b hb e => by rw [vat_block] at e g2; have := (row_eq hb).2; omega) (.int .i64 (p + q))
              have hbn := hb.setCell (p := vat u j) (by rw [vat_block] at g2 ⊢; omega) (.int .i64 (p + q))
              have HSET := Lib.hid hset; have HSN := Lib.hid hsn; have HBN := Lib.hid hbn
              clear ho hsr hb hxr ry hset hsn hbn hp hq g2
              go_wp2_with fail
              go_still_tail 16, (by kernel_rfl)
              go_wp2_with fail
              refine ⟨⟨j + 1, by omega, by go_num, HSET.out.below (Below.refl _ _).drew, HSN.out.below (Below.refl _ _).drew, HBN.out.drew⟩, by simp [intOf]; omega⟩
            · obtain rfl : j = C := by omega
              have HO := Lib.hid ho; have HSR := Lib.hid hsr; have HBR := Lib.hid hb
              have hre := rows_end HXV.out hb hsr ho HML.out hx2
              have HRE := Lib.hid hre; have HX5 := Lib.hid (HM4.out.below hb); have HL5 := Lib.hid (HL4.out.below hb); have HB5 := Lib.hid (Below.chain HB4.out hb)
              clear ho hsr hb hre
              go_wp2_with fail
              refine (smithE_calls s _ R j _ HRE.out MAH.out (by omega) (by omega)).mono ?_
              rw [LAD.out]
              rintro e u5 ⟨o, rfl, ho, hb⟩
              have so := ho.isSl
              have HO5 := Lib.hid ho.ints; have HX6 := Lib.hid (HX5.out.below hb); have HL6 := Lib.hid (HL5.out.below hb); have HB6 := Lib.hid (Below.chain HB5.out hb)
              clear ho hb HX5 HL5 HB5
              go_wp2_with fail
              refine (mrank_calls m M R j _ HX6.out MXH.out (by omega) (by omega)).mono ?_
              rw [HL.out]
              rintro e u6 ⟨rfl, hb⟩
              have HO7 := Lib.hid (HO5.out.below hb); have HL7 := Lib.hid (HL6.out.below hb); have HB7 := Lib.hid (Below.chain HB6.out hb)
              clear hb HX6 HL6 HB6 HO5
              go_wp2_with fail
              refine (equal_yes _ _ L L _ HO7.out HL7.out rfl).mono ?_
              rintro e u7 ⟨rfl, hb⟩
              have HL8 := Lib.hid (HL7.out.below hb); have HB8 := Lib.hid (Below.chain HB7.out hb)
              clear hb HO7 HL7 HB7
              go_wp2_with fail
              refine (clone_calls _ L _ HL8.out (by rw [HKL.out]; omega)).mono ?_
              rintro e u8 ⟨o2, rfl, ho2, hb⟩
              have so2 := ho2.isSl
              have HO9 := Lib.hid ho2; have HB9 := Lib.hid (Below.chain HB8.out hb)
              have hz9 := hb.size
              have hB8 := HB8.out.size
              clear hb ho2 HL8 HB8
              go_wp2_with fail
              refine (deleteFunc_calls o2 L (fun x => x != 0) _ (enters_s (Go.Proofs.enters_of Try.func65 (by kernel_rfl) rfl)) _ _ HO9.out hz9 (by rw [HKL.out]; omega) (fun x W _ => nz_calls x W)).mono ?_
              rintro e u9 ⟨o3, rfl, so3, lo3, hb⟩
              have HBE := Lib.hid (HB9.out.trans (hb.mono (by omega)))
              have hfl := filter_two L
              have hzz := nzTo_filter L L.length (Nat.le_refl _)
              rw [List.take_length] at hzz
              rw [← hzz, ← lo3, HKL.out] at hfl
              rw [HKL.out]
              have hr1 : (nzTo L k : Int) = (k : Int) - (vlen o3 : Int) := by rw [HKL.out] at hzz; omega
              clear hb lo3 hzz
              go_wp2_with fail
              go_ret
              exact ⟨rfl, HBE.out⟩
  · have n1 : ((K : Int) != (C : Int)) = false := by simp [hc2]
    have n2 : ((R : Int) == (C : Int)) = false := by simp; omega
    have HC1 := Lib.hid hc1; have HC2 := Lib.hid hc2
    clear hc2
    go_wp2_with fail
    go_loop [14, 58] (fun p j => ∃ k : Nat, k ≤ K ∧ j = .int .i64 k ∧ p = .int .i64 (prodTo L k)) (fun _ j => K - (intOf j).toNat)
    case atStart => exact ⟨0, Nat.zero_le _, rfl, rfl⟩
    case round =>
      obtain ⟨k, hk, rfl, rfl⟩ := hrel
      by_cases hlt : k < K
      · have ck := HL4.out.cell (k := k) (by rw [HKL.out]; exact hlt)
        have hnn := LNN.out k hlt
        have hbd := LBD.out k
        have hp1 := LPR.out k hk
        have hp2 := LPR.out (k + 1) (by omega)
        have hps : prodTo L (k + 1) = prodTo L k * nth L k := rfl
        obtain ⟨x, hx⟩ : ∃ x, nth L k = x := ⟨_, rfl⟩
        obtain ⟨P, hP⟩ : ∃ P, prodTo L k = P := ⟨_, rfl⟩
        obtain ⟨Q, hQ⟩ : ∃ Q, prodTo L (k + 1) = Q := ⟨_, rfl⟩
        rw [hx, hP, hQ] at hps
        rw [hx] at ck hnn hbd
        rw [hP] at hp1 ⊢
        rw [hQ] at hp2
        have wq : IntKind.i64.wrap (P * x) = Q := by rw [← hps]; exact IntWalk.i64_in _ ⟨by omega, by omega⟩
        have nx : ¬ x < 0 := by omega
        have HQ := Lib.hid hQ
        by_cases h0 : k = 0
        · subst h0
          clear hx hP hQ hps hp1 hp2 hbd
          go_wp2_with fail
          go_round
          case rel => exact ⟨0 + 1, by omega, by go_num, by rw [HQ.out]⟩
          case measure => simp [intOf]; omega
        · have cp := HL4.out.cell (k := k - 1) (by rw [HKL.out]; omega)
          obtain ⟨k1, rfl⟩ : ∃ k1, k = k1 + 1 := ⟨k - 1, by omega⟩
          have hnxt := LNX.out k1 (by omega)
          rw [hx] at hnxt
          rw [Nat.add_sub_cancel] at cp
          obtain ⟨y1, hy1⟩ : ∃ y1, nth L k1 = y1 := ⟨_, rfl⟩
          rw [hy1] at cp hnxt
          have yb := LBD.out k1
          rw [hy1] at yb
          have hNX := Lib.hid hnxt
          clear hx hP hQ hps hp1 hp2 hy1 hnxt h0
          by_cases hz : y1 = 0
          · have hx0 := hNX.out.1 hz
            have b1 : (y1 == 0) = true := by simp [hz]
            have b2 : (y1 != 0) = false := by simp [hz]
            have b3 : (x != 0) = false := by simp [hx0]
            clear hx0 hz
            go_wp2_with fail
            go_round
            case rel => exact ⟨k1 + 1 + 1, by omega, by go_num, by rw [HQ.out]⟩
            case measure => simp [intOf]; omega
          · have hm0 := hNX.out.2 hz
            have b1 : (y1 == 0) = false := by simp [hz]
            have b2 : (y1 != 0) = true := by simp [hz]
            have b3 : (x.tmod y1 != 0) = false := by simp [hm0]
            have hm1 : x % y1 = 0 := by rw [← Int.tmod_eq_emod_of_nonneg hnn]; exact hm0
            have b4 : (x % y1 != 0) = false := by simp [hm1]
            clear hm1
            clear hm0
            go_wp2_with fail
            refine ⟨⟨k1 + 1 + 1, by omega, by go_num, by rw [HQ.out]⟩, by simp [intOf]; omega⟩
      · obtain rfl : k = K := by omega
        go_wp2_with fail
        refine (below_nat h R x0 _ (by omega) (by omega) hh HX0.out).mono ?_
        rintro e w' ⟨rfl, rfl⟩
        go_wp2_with fail
        refine (below_nat g ((R : Int) - 1) k0 _ (by omega) (by omega) hg HK0.out).mono ?_
        rintro e w' ⟨rfl, rfl⟩
        go_wp2_with fail
        rw [HYY.out]
        obtain ⟨vs, hxv⟩ := HM4.out
        refine (cloneRows_calls m vs M _ hxv (by rw [HML.out]; omega) (by rw [HML.out]; omega)).mono ?_
        rintro e z1 ⟨s, rfl, hs, hz1⟩
        have ss := hs.isSl
        have ls := hs.sl.2.1
        have hvl := hxv.2.1
        rw [HML.out] at hvl
        rw [hvl, Nat.mul_one] at ls
        have ls' : vlen s = R := ls.symm
        have lm := hxv.len
        rw [HML.out] at lm
        have cx := (hxv.below hz1).cell (i := x0) (by rw [HML.out]; exact hx2)
        have sx1 := (hxv.row (i := x0) (by rw [HML.out]; exact hx2)).isSl
        have rx := (hxv.below hz1).row (i := x0) (by rw [HML.out]; exact hx2)
        have hrl := MXH.out.cols x0 hx2
        have q1 : (x0 : Int) < (R : Int) := by omega
        have q2 : (y : Int) < (R : Int) := by omega
        have HXV := Lib.hid hxv; have HSS := Lib.hid hs; have HZ1 := Lib.hid hz1; have HRX := Lib.hid rx; have HRL := Lib.hid hrl; have HVL := Lib.hid hvl
        clear hxv hs ls hvl hz1 rx hrl
        go_wp2_with fail
        refine (clone_calls _ _ _ HRX.out (by rw [HRL.out]; omega)).mono ?_
        rintro e z2 ⟨u, rfl, hu, hz2⟩
        have su := hu.isSl
        have lu := hu.len
        rw [HRL.out] at lu
        have hs2 := HSS.out.below hz2
        have ox : z2.cell? (vat s x0) = some (nthv vs x0) := by rw [nthv_lt (by rw [HVL.out]; exact hx2)]; exact hs2.cell (by rw [HVL.out]; exact hx2)
        have fx := hs2.frozen (j := x0) (by rw [HVL.out]; exact hx2)
        have HU := Lib.hid hu; have HZ2 := Lib.hid hz2
        clear hu hz2 hs2 cx
        have hz3 : Below u4.heap.size u4 (z2.setCell (vat s x0) u) := (Below.chain HZ1.out HZ2.out).setCell (HSS.out.ge (by rw [HVL.out]; exact hx2)) _
        have hu3 : OwnI (z2.setCell (vat s x0) u) z1.heap.size u (nthr M x0) := HU.out.setOther (fun b hb e => by have h1 := (HU.out.lt b hb).1; have h2 := (HSS.out.lt (vblk s) (row_some (by have := HSS.out.1.le; omega))).2; rw [vat_block] at e; omega) u
        have hs3 : Own (z2.setCell (vat s x0) u) u4.heap.size 25 1 s (vs.set x0 u) := (HSS.out.below HZ2.out).set (by rw [HVL.out]; exact hx2) u
        rw [← addTo_zero M (y := y) HRL.out] at hu3
        have hcu : vlen u = C := lu
        have HU3 := Lib.hid hu3; have HS3 := Lib.hid hs3; have HZ3 := Lib.hid hz3
        have hs1 := HZ1.out.size
        have hb12 : vblk s < z1.heap.size := (HSS.out.lt (vblk s) (row_some (by have := HSS.out.1.le; omega))).2
        clear hz3 hu3 hs3
        go_wp2_with fail
        clear ox fx
        go_loopw [144] (fun j wr => ∃ k : Nat, k ≤ C ∧ j = .int .i64 k ∧ OwnI wr z1.heap.size u (addTo M x0 y C k) ∧ Own wr u4.heap.size 25 1 s (vs.set x0 u) ∧ Below u4.heap.size u4 wr) (fun j _ => C - (intOf j).toNat)
        case atStart => exact ⟨0, by omega, rfl, HU3.out, HS3.out, HZ3.out⟩
        case round =>
          obtain ⟨j, hj, rfl, ho, hsr, hb⟩ := hrel
          by_cases hjC : j < C
          · have c1 : wr.cell? (vat s x0) = some u := by have := hsr.cell (j := x0) (by simp; rw [HVL.out]; exact hx2); simpa using this
            have hxr := HXV.out.below hb
            have c2 := ho.cell (k := j) (by rw [addTo_length]; exact hjC)
            rw [nth_addTo M x0 y C j hjC, if_neg (by omega)] at c2
            have c3 := hxr.cell (i := y) (by rw [HML.out]; exact hy2)
            have ry := hxr.row (i := y) (by rw [HML.out]; exact hy2)
            have sy := ry.isSl
            have ly := ry.len
            rw [MXH.out.cols y hy2] at ly
            have c4 := ry.cell (k := j) (by rw [MXH.out.cols y hy2]; exact hjC)
            rw [show nth (nthr M y) j = ent2 M y j from rfl] at c4
            have f2 := ho.frozen (k := j) (by rw [addTo_length]; exact hjC)
            have g2 := ho.ge (k := j) (by rw [addTo_length]; exact hjC)
            have b1 := MBH.out x0 j; have b2 := MBH.out y j
            have hset := ho.set (k := j) (by rw [addTo_length]; exact hjC) (ent2 M x0 j + ent2 M y j)
            rw [addTo_step M hjC] at hset
            obtain ⟨p, hp⟩ : ∃ p, ent2 M x0 j = p := ⟨_, rfl⟩
            obtain ⟨q, hq⟩ : ∃ q, ent2 M y j = q := ⟨_, rfl⟩
            rw [hp] at c2 b1
            rw [hq] at c4 b2
            rw [hp, hq] at hset
            have hsn := hsr.setOther (p := vat u j) (fun b hb e => by rw [vat_block] at e g2; have := (row_eq hb).2; omega) (.int .i64 (p + q))
            have hbn := hb.setCell (p := vat u j) (by rw [vat_block] at g2 ⊢; omega) (.int .i64 (p + q))
            have HSET := Lib.hid hset; have HSN := Lib.hid hsn; have HBN := Lib.hid hbn
            clear ho hsr hb hxr ry hset hsn hbn hp hq g2
            go_wp2_with fail
            go_still_tail 16, (by kernel_rfl)
            go_wp2_with fail
            refine ⟨⟨j + 1, by omega, by go_num, HSET.out.below (Below.refl _ _).drew, HSN.out.below (Below.refl _ _).drew, HBN.out.drew⟩, by simp [intOf]; omega⟩
          · obtain rfl : j = C := by omega
            have HO := Lib.hid ho; have HSR := Lib.hid hsr; have HBR := Lib.hid hb
            have hre := rows_end HXV.out hb hsr ho HML.out hx2
            have HRE := Lib.hid hre; have HX5 := Lib.hid (HM4.out.below hb); have HL5 := Lib.hid (HL4.out.below hb); have HB5 := Lib.hid (Below.chain HB4.out hb)
            clear ho hsr hb hre
            go_wp2_with fail
            refine (smithE_calls s _ R j _ HRE.out MAH.out (by omega) (by omega)).mono ?_
            rw [LAD.out]
            rintro e u5 ⟨o, rfl, ho, hb⟩
            have so := ho.isSl
            have HO5 := Lib.hid ho.ints; have HX6 := Lib.hid (HX5.out.below hb); have HL6 := Lib.hid (HL5.out.below hb); have HB6 := Lib.hid (Below.chain HB5.out hb)
            clear ho hb HX5 HL5 HB5
            go_wp2_with fail
            refine (mrank_calls m M R j _ HX6.out MXH.out (by omega) (by omega)).mono ?_
            rw [HL.out]
            rintro e u6 ⟨rfl, hb⟩
            have HO7 := Lib.hid (HO5.out.below hb); have HL7 := Lib.hid (HL6.out.below hb); have HB7 := Lib.hid (Below.chain HB6.out hb)
            clear hb HX6 HL6 HB6 HO5
            go_wp2_with fail
            refine (equal_yes _ _ L L _ HO7.out HL7.out rfl).mono ?_
            rintro e u7 ⟨rfl, hb⟩
            have HL8 := Lib.hid (HL7.out.below hb); have HB8 := Lib.hid (Below.chain HB7.out hb)
            clear hb HO7 HL7 HB7
            go_wp2_with fail
            refine (clone_calls _ L _ HL8.out (by rw [HKL.out]; omega)).mono ?_
            rintro e u8 ⟨o2, rfl, ho2, hb⟩
            have so2 := ho2.isSl
            have HO9 := Lib.hid ho2; have HB9 := Lib.hid (Below.chain HB8.out hb)
            have hz9 := hb.size
            have hB8 := HB8.out.size
            clear hb ho2 HL8 HB8
            go_wp2_with fail
            refine (deleteFunc_calls o2 L (fun x => x != 0) _ (enters_s (Go.Proofs.enters_of Try.func65 (by kernel_rfl) rfl)) _ _ HO9.out hz9 (by rw [HKL.out]; omega) (fun x W _ => nz_calls x W)).mono ?_
            rintro e u9 ⟨o3, rfl, so3, lo3, hb⟩
            have HBE := Lib.hid (HB9.out.trans (hb.mono (by omega)))
            have hfl := filter_two L
            have hzz := nzTo_filter L L.length (Nat.le_refl _)
            rw [List.take_length] at hzz
            rw [← hzz, ← lo3, HKL.out] at hfl
            rw [HKL.out]
            have hr1 : (nzTo L k : Int) = (k : Int) - (vlen o3 : Int) := by rw [HKL.out] at hzz; omega
            clear hb lo3 hzz
            go_wp2_with fail
            go_ret
            exact ⟨rfl, HBE.out⟩

end Go.Proofs.Ytdmogoeafjpphaa
