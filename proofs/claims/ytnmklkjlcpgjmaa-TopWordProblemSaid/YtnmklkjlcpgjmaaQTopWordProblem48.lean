/- TopWordProblem: for every input the statement returns true, and nothing that was there has changed. -/
import Derived.Test.YtnmklkjlcpgjmaaQTopWordProblem0
import Derived.Test.YtnmklkjlcpgjmaaQTopWordProblem1
import Derived.Test.YtnmklkjlcpgjmaaQTopWordProblem2
import Derived.Test.YtnmklkjlcpgjmaaQTopWordProblem3
import Derived.Test.YtnmklkjlcpgjmaaQTopWordProblem4
import Derived.Test.YtnmklkjlcpgjmaaQTopWordProblem5
import Derived.Test.YtnmklkjlcpgjmaaQTopWordProblem6
import Derived.Test.YtnmklkjlcpgjmaaQTopWordProblem7
import Derived.Test.YtnmklkjlcpgjmaaQTopWordProblem8
import Derived.Test.YtnmklkjlcpgjmaaQTopWordProblem9
import Derived.Test.YtnmklkjlcpgjmaaQTopWordProblem10
import Derived.Test.YtnmklkjlcpgjmaaQTopWordProblem11
import Derived.Test.YtnmklkjlcpgjmaaQTopWordProblem12
import Derived.Test.YtnmklkjlcpgjmaaQTopWordProblem13
import Derived.Test.YtnmklkjlcpgjmaaQTopWordProblem14
import Derived.Test.YtnmklkjlcpgjmaaQTopWordProblem15
import Derived.Test.YtnmklkjlcpgjmaaQTopWordProblem16
import Derived.Test.YtnmklkjlcpgjmaaQTopWordProblem17
import Derived.Test.YtnmklkjlcpgjmaaQTopWordProblem18
import Derived.Test.YtnmklkjlcpgjmaaQTopWordProblem19
import Derived.Test.YtnmklkjlcpgjmaaQTopWordProblem20
import Derived.Test.YtnmklkjlcpgjmaaQTopWordProblem21
import Derived.Test.YtnmklkjlcpgjmaaQTopWordProblem22
import Derived.Test.YtnmklkjlcpgjmaaQTopWordProblem23
import Derived.Test.YtnmklkjlcpgjmaaQTopWordProblem24
import Derived.Test.YtnmklkjlcpgjmaaQTopWordProblem25
import Derived.Test.YtnmklkjlcpgjmaaQTopWordProblem26
import Derived.Test.YtnmklkjlcpgjmaaQTopWordProblem27
import Derived.Test.YtnmklkjlcpgjmaaQTopWordProblem28
import Derived.Test.YtnmklkjlcpgjmaaQTopWordProblem29
import Derived.Test.YtnmklkjlcpgjmaaQTopWordProblem30
import Derived.Test.YtnmklkjlcpgjmaaQTopWordProblem31
import Derived.Test.YtnmklkjlcpgjmaaQTopWordProblem32
import Derived.Test.YtnmklkjlcpgjmaaQTopWordProblem33
import Derived.Test.YtnmklkjlcpgjmaaQTopWordProblem34
import Derived.Test.YtnmklkjlcpgjmaaQTopWordProblem35
import Derived.Test.YtnmklkjlcpgjmaaQTopWordProblem36
import Derived.Test.YtnmklkjlcpgjmaaQTopWordProblem37
import Derived.Test.YtnmklkjlcpgjmaaQTopWordProblem38
import Derived.Test.YtnmklkjlcpgjmaaQTopWordProblem39
import Derived.Test.YtnmklkjlcpgjmaaQTopWordProblem40
import Derived.Test.YtnmklkjlcpgjmaaQTopWordProblem41
import Derived.Test.YtnmklkjlcpgjmaaQTopWordProblem42
import Derived.Test.YtnmklkjlcpgjmaaQTopWordProblem43
import Derived.Test.YtnmklkjlcpgjmaaQTopWordProblem44
import Derived.Test.YtnmklkjlcpgjmaaQTopWordProblem45
import Derived.Test.YtnmklkjlcpgjmaaQTopWordProblem46
import Derived.Test.YtnmklkjlcpgjmaaQTopWordProblem47
import Derived.OrdersHeld
import Derived.Deep.RegionHeld
namespace Go.Proofs.Ytnmklkjlcpgjmaa
open Go.RowKit Go.Sl

theorem rows_three_b {w : World} {b : Nat} {u v x : Value} {xs ys zs : List Int} (hb : b = w.heap.size) (h : Ints w u xs) (k : Ints w v ys) (l : Ints w x zs) : RowsV (w.alloc (.cells #[u, v, x] 22)) (.slice (some ⟨b, 0, none⟩) 3 3) [u, v, x] [xs, ys, zs] := by
  subst hb; exact rows_three h k l
theorem ok12 {n : Nat} (h6 : n ≤ 6) {X Y : List Int} (hx : LtW n X) (hy : LtW n Y) (lx : X.length ≤ 6) (ly : Y.length ≤ 6) : RedOK (invL X ++ Y) :=
  redOK12 (((inv_lt' hx).app hy).mono h6) (Nat.le_trans (redL_length _) (by rw [List.length_append, invL_len]; omega))
theorem ok21 {X Y : List Int} (hx : LtW 3 X) (hy : LtW 3 Y) (lx : X.length ≤ 15) (ly : Y.length ≤ 6) : RedOK (invL X ++ Y) :=
  redOK21 ((inv_lt' hx).app hy) (Nat.le_trans (redL_length _) (by rw [List.length_append, invL_len]; omega))

set_option maxHeartbeats 8000000 in
set_option maxRecDepth 100000 in
theorem topWord_main {w0 : World} (n0 : Int) (hn0 : I64 n0) (av : Value) (al : List Int) (ha0 : Ints w0 av al) (hza : ∀ x ∈ al, I64 x) (bv : Value) (bl : List Int) (hb0 : Ints w0 bv bl) (hzb : ∀ x ∈ bl, I64 x) (i : Int) (_hi : I64 i) (w : World) (hw : w = w0 := by rfl) :
    Calls Try.prog 3 #[.int .i64 n0, av, bv, .int .i64 i, .bool false] w fun e w' => e = .returned (.bool true) ∧ Below w.heap.size w w' := by
  subst hw
  have sav := ha0.isSl
  have sbv := hb0.isSl
  obtain ⟨n, hN⟩ : ∃ n : Nat, 2 + n0 % (6 - 1) = (n : Int) := ⟨(2 + n0 % (6 - 1)).toNat, by omega⟩
  have hn2 : 2 ≤ n := by omega
  have hn6 : n ≤ 6 := by omega
  have q1 : IntKind.i64.wrap ((n : Int) - 1) = (n : Int) - 1 := IntWalk.i64_in _ ⟨by omega, by omega⟩
  have HN := Lib.hid hN; have HaR := Lib.hid ha0; have HaZ := Lib.hid hza; have HbR := Lib.hid hb0; have HbZ := Lib.hid hzb
  clear hN ha0 hza hb0 hzb
  go_enter Try.func3, Try.ntmps3
  go_wp2_with fail
  refine (strands_calls n0 6 _ hn0 (by decide) (by decide)).mono ?_
  rw [HN.out]
  rintro e w' ⟨rfl, rfl⟩
  go_wp2_with fail
  refine (word_calls ((n : Int) - 1) av al 6 _ HaR.out HaZ.out (by omega) (by omega) (by decide)).mono ?_
  obtain ⟨X, hL⟩ : ∃ X, wordL ((n : Int) - 1) al 6 = X := ⟨_, rfl⟩
  have hXb : BWord ((n : Int)) X := by rw [← hL]; exact wordL_bw (n := (n : Int)) (by omega) al 6
  have h6 : X.length ≤ 6 := by rw [← hL]; exact wordL_length _ _ _
  rw [hL]
  rintro e w1 ⟨xv, rfl, hx, hb⟩
  have sX := hx.isSl
  have HX := Lib.hid hx.ints; have HXB := Lib.hid hXb; have HX6 := Lib.hid h6
  clear hL hx hXb h6
  replace HbR := Lib.hid (HbR.out.below hb)
  have HB := Lib.hid hb
  clear hb
  go_wp2_with fail
  refine (word_calls ((n : Int) - 1) bv bl 6 _ HbR.out HbZ.out (by omega) (by omega) (by decide)).mono ?_
  obtain ⟨Y, hL⟩ : ∃ Y, wordL ((n : Int) - 1) bl 6 = Y := ⟨_, rfl⟩
  have hXb : BWord ((n : Int)) Y := by rw [← hL]; exact wordL_bw (n := (n : Int)) (by omega) bl 6
  have h6 : Y.length ≤ 6 := by rw [← hL]; exact wordL_length _ _ _
  rw [hL]
  rintro e w2 ⟨yv, rfl, hx, hb⟩
  have sY := hx.isSl
  have HY := Lib.hid hx.ints; have HYB := Lib.hid hXb; have HY6 := Lib.hid h6
  clear hL hx hXb h6
  replace HX := Lib.hid (HX.out.below hb)
  replace HB := Lib.hid (Below.chain HB.out hb)
  clear hb
  have HXL := Lib.hid (bw_lt HXB.out); have HYL := Lib.hid (bw_lt HYB.out)
  have HXs := Lib.hid (Nat.le_trans HX6.out (show 6 ≤ 30 by decide)); have HYs := Lib.hid (Nat.le_trans HY6.out (show 6 ≤ 30 by decide))
  have HNX := Lib.hid (not_long6 (n := n) HX6.out); have HNY := Lib.hid (not_long6 (n := n) HY6.out)
  have HOK := Lib.hid (ok12 hn6 HXL.out HYL.out HX6.out HY6.out)
  go_wp2_with fail
  refine (aequal_ok n xv yv X Y _ HX.out HY.out (by omega) (by omega) HXB.out HYB.out HXs.out HYs.out HNX.out HNY.out).mono ?_
  rintro e w3 ⟨rfl, hb⟩
  obtain ⟨P, hP⟩ : ∃ P, decide (imagesA n X = imagesA n Y) = P := ⟨_, rfl⟩
  rw [hP]
  have HP := Lib.hid hP
  replace HX := Lib.hid (HX.out.below hb); replace HY := Lib.hid (HY.out.below hb)
  replace HB := Lib.hid (Below.chain HB.out hb)
  clear hP hb
  go_wp2_with fail
  refine (gequal_calls n _ _ X Y _ HX.out HY.out (by omega) (by omega) HXB.out HYB.out HXs.out HYs.out).mono ?_
  rintro e w4 ⟨c, d, rfl, hc, hd, hb⟩
  obtain ⟨Q, hQ⟩ : ∃ Q, decide (c = d) = Q := ⟨_, rfl⟩
  rw [hQ]
  have HQ := Lib.hid hQ; have HC := Lib.hid hc; have HD := Lib.hid hd
  replace HX := Lib.hid (HX.out.below hb); replace HY := Lib.hid (HY.out.below hb)
  replace HB := Lib.hid (Below.chain HB.out hb)
  clear hc hd hQ hb
  go_wp2_with fail
  refine (dCompare_calls n _ _ X Y _ HX.out HY.out (by omega) (by omega) HXL.out HYL.out HXs.out HYs.out HOK.out).mono ?_
  rintro e w5 ⟨s, rfl, hr, hs, hb⟩
  obtain ⟨k, hk⟩ : ∃ k, -s = k := ⟨_, rfl⟩
  obtain ⟨t1, t2, t3⟩ := three_ways (n := n) (by omega) (by omega) HXL.out HYL.out hs HC.out HD.out
  have hQP : Q = P := by rw [← HQ.out, ← HP.out, decide_eq_decide, t2, t1]
  have hKP : (k == 0) = P := by
    rw [← HP.out, ← hk]
    have e1 : (-s == 0) = decide (s = 0) := by
      rw [Bool.eq_iff_iff, beq_iff_eq, decide_eq_true_iff]; omega
    rw [e1, decide_eq_decide, t3, t1]
  rw [hk]
  replace HB := Lib.hid (Below.chain HB.out hb)
  clear hr hs hb hk t1 t2 t3 HC HD HQ HP
  subst hQP
  go_wp2_with fail
  refine (tequal_calls _).mono ?_
  rintro e w6 ⟨rfl, hb⟩
  replace HB := Lib.hid (Below.chain HB.out hb)
  clear hb
  cases Q
  · go_wp2_with fail
    go_ret
    exact ⟨rfl, HB.out⟩
  · go_wp2_with fail
    go_ret
    exact ⟨rfl, HB.out⟩

set_option maxHeartbeats 8000000 in
set_option maxRecDepth 100000 in
theorem topWord_alike {w0 : World} (n0 : Int) (hn0 : I64 n0) (av : Value) (al : List Int) (ha0 : Ints w0 av al) (hza : ∀ x ∈ al, I64 x) (bv : Value) (bl : List Int) (hb0 : Ints w0 bv bl) (hzb : ∀ x ∈ bl, I64 x) (i : Int) (hi : I64 i) (w : World) (hw : w = w0 := by rfl) :
    Calls Try.prog 3 #[.int .i64 n0, av, bv, .int .i64 i, .bool true] w fun e w' => e = .returned (.bool true) ∧ Below w.heap.size w w' := by
  subst hw
  have sav := ha0.isSl
  have sbv := hb0.isSl
  obtain ⟨n, hN⟩ : ∃ n : Nat, 2 + n0 % (6 - 1) = (n : Int) := ⟨(2 + n0 % (6 - 1)).toNat, by omega⟩
  have hn2 : 2 ≤ n := by omega
  have hn6 : n ≤ 6 := by omega
  have q1 : IntKind.i64.wrap ((n : Int) - 1) = (n : Int) - 1 := IntWalk.i64_in _ ⟨by omega, by omega⟩
  have HN := Lib.hid hN; have HaR := Lib.hid ha0; have HaZ := Lib.hid hza; have HbR := Lib.hid hb0; have HbZ := Lib.hid hzb
  clear hN ha0 hza hb0 hzb
  go_enter Try.func3, Try.ntmps3
  go_wp2_with fail
  refine (strands_calls n0 6 _ hn0 (by decide) (by decide)).mono ?_
  rw [HN.out]
  rintro e w' ⟨rfl, rfl⟩
  go_wp2_with fail
  refine (word_calls ((n : Int) - 1) av al 6 _ HaR.out HaZ.out (by omega) (by omega) (by decide)).mono ?_
  obtain ⟨X0, hL⟩ : ∃ X0, wordL ((n : Int) - 1) al 6 = X0 := ⟨_, rfl⟩
  have hXb : BWord ((n : Int)) X0 := by rw [← hL]; exact wordL_bw (n := (n : Int)) (by omega) al 6
  have h6 : X0.length ≤ 6 := by rw [← hL]; exact wordL_length _ _ _
  rw [hL]
  rintro e w1 ⟨xv0, rfl, hx, hb⟩
  have sX0 := hx.isSl
  have HX0 := Lib.hid hx.ints; have HX0B := Lib.hid hXb; have HX06 := Lib.hid h6
  clear hL hx hXb h6
  replace HaR := Lib.hid (HaR.out.below hb); replace HbR := Lib.hid (HbR.out.below hb)
  have HB := Lib.hid hb
  clear hb
  go_wp2_with fail
  refine (word_calls ((n : Int) - 1) bv bl 6 _ HbR.out HbZ.out (by omega) (by omega) (by decide)).mono ?_
  obtain ⟨Y0, hL⟩ : ∃ Y0, wordL ((n : Int) - 1) bl 6 = Y0 := ⟨_, rfl⟩
  have hXb : BWord ((n : Int)) Y0 := by rw [← hL]; exact wordL_bw (n := (n : Int)) (by omega) bl 6
  have h6 : Y0.length ≤ 6 := by rw [← hL]; exact wordL_length _ _ _
  rw [hL]
  rintro e w2 ⟨yv0, rfl, hx, hb⟩
  have sY0 := hx.isSl
  have HY0 := Lib.hid hx.ints; have HY0B := Lib.hid hXb; have HY06 := Lib.hid h6
  clear hL hx hXb h6
  replace HaR := Lib.hid (HaR.out.below hb)
  replace HB := Lib.hid (Below.chain HB.out hb)
  clear hb HbR HX0 HX0B HX06 HY0 HY0B HY06 HbZ
  go_wp2_with fail
  refine (word_calls ((2 : Int)) av al 4 _ HaR.out HaZ.out (by omega) (by omega) (by decide)).mono ?_
  obtain ⟨X, hL⟩ : ∃ X, wordL ((2 : Int)) al 4 = X := ⟨_, rfl⟩
  have hXb : BWord ((3 : Int)) X := by rw [← hL]; exact wordL_bw (n := 3) (by omega) al 4
  have h6 : X.length ≤ 4 := by rw [← hL]; exact wordL_length _ _ _
  rw [hL]
  rintro e w3 ⟨xv, rfl, hx, hb⟩
  have sX := hx.isSl
  have HX := Lib.hid hx.ints; have HXB := Lib.hid hXb; have HX6 := Lib.hid h6
  clear hL hx hXb h6
  replace HB := Lib.hid (Below.chain HB.out hb)
  clear hb HaR HaZ
  have HXL := Lib.hid (bw_lt (n := 3) HXB.out)
  go_wp2_with fail
  refine (binverse_calls 3 xv X _ HX.out (by omega) (by omega) HXB.out (by have := HX6.out; omega)).mono ?_
  rintro e w4 ⟨iv, rfl, ho, hb⟩
  have sI := ho.isSl
  obtain ⟨x1, x2, x3, rfl, -⟩ := sX.cases
  obtain ⟨i1, i2, i3, rfl, -⟩ := sI.cases
  have lX := HX.out.below hb
  have lI := ho.ints
  replace HB := Lib.hid (Below.chain HB.out hb)
  have lF : Ints (w4.alloc (.cells #[.int .i64 1, .int .i64 2, .int .i64 1, .int .i64 1, .int .i64 2, .int .i64 1] 3)) (.slice (some ⟨w4.heap.size, 0, none⟩) 6 6) fullT := ints_lit fullT rfl rfl rfl (by decide)
  obtain ⟨W6, hW6⟩ : ∃ W6, W6 = ((w4.alloc (.cells #[.int .i64 1, .int .i64 2, .int .i64 1, .int .i64 1, .int .i64 2, .int .i64 1] 3)).alloc (.cells #[.slice x1 x2 x3, .slice (some ⟨w4.heap.size, 0, none⟩) 6 6, .slice i1 i2 i3] 22)) := ⟨_, rfl⟩
  have r3 : RowsV W6 (.slice (some ⟨w4.heap.size + 1, 0, none⟩) 3 3) [.slice x1 x2 x3, .slice (some ⟨w4.heap.size, 0, none⟩) 6 6, .slice i1 i2 i3] [X, fullT, invL X] := by
    rw [hW6]; exact rows_three_b (by simp) (lX.alloc _) lF (lI.alloc _)
  have lF6 : Ints W6 (.slice (some ⟨w4.heap.size, 0, none⟩) 6 6) fullT := by rw [hW6]; exact lF.alloc _
  have b6 : Below w4.heap.size w4 W6 := by rw [hW6]; exact ((Below.refl _ _).alloc (Nat.le_refl _) _).alloc (by simp) _
  have HSZ : RowKit.Hid (w4.heap.size < W6.heap.size) := Lib.hid (by rw [hW6]; simp; omega)
  have HW := Lib.hid hW6.symm; have HR := Lib.hid r3; have HY := Lib.hid lF6
  replace HB := Lib.hid (Below.chain HB.out b6)
  clear ho hb lX lI lF hW6 r3 lF6 b6 HX
  go_wp2_with fail
  rw [HW.out]
  refine (concat_calls _ _ [X, fullT, invL X] _ HR.out (by have := HX6.out; simp [invL_len, fullT]; omega)).mono ?_
  rintro e w7 ⟨kv, rfl, ho, hb⟩
  have sK := ho.isSl
  have ho2 : OwnI w7 W6.heap.size kv (X ++ (fullT ++ invL X)) := by simpa using ho
  have HK := Lib.hid ho2; have HBK := Lib.hid hb
  have hs5 := hb.size
  replace HY := Lib.hid (HY.out.below hb)
  clear ho ho2 hb HW HR
  have HYL := Lib.hid fullT_lt
  have HYB : RowKit.Hid (BWord 3 fullT) := Lib.hid (lt_bw (n := 3) fullT_lt)
  have HYs := Lib.hid (show fullT.length ≤ 30 by decide)
  have HNY := Lib.hid full_short'
  by_cases hm : i.tmod 2 = 0
  · have g1 : (i.tmod 2 != 0) = false := by rw [hm]; rfl
    have g2 : (i.tmod 2 == 0) = true := by rw [hm]; rfl
    clear hm
    obtain ⟨K, hK⟩ : ∃ K, K = X ++ (fullT ++ invL X) := ⟨_, rfl⟩
    rw [← hK] at HK
    have l1 : LtW 3 K := by rw [hK]; exact HXL.out.app (fullT_lt.app (inv_lt' HXL.out))
    have l2 : K.length ≤ 15 := by rw [hK]; have := HX6.out; simp [invL_len, fullT]; omega
    have l3 : ¬ TooLong 3 K := by
      have := full_short (v := []) HXL.out HX6.out (by simp)
      rw [List.append_nil] at this
      rw [hK]; exact this
    have l4 : BE 3 K fullT := by rw [hK]; exact full_same HXL.out
    have HKL := Lib.hid l1; have HKB : RowKit.Hid (BWord 3 K) := Lib.hid (lt_bw (n := 3) l1)
    have HKs := Lib.hid (Nat.le_trans l2 (show 15 ≤ 30 by decide)); have HNX := Lib.hid l3; have HE := Lib.hid l4
    have HOK := Lib.hid (ok21 l1 fullT_lt l2 (by decide))
    replace HK := Lib.hid HK.out.ints
    replace HB := Lib.hid (Below.chain HB.out HBK.out)
    clear hK l1 l2 l3 l4 HXL HX6 HXB HBK
    go_wp2_with fail
    refine (aequal_ok 3 kv _ K fullT _ HK.out HY.out (by omega) (by omega) HKB.out HYB.out HKs.out HYs.out HNX.out HNY.out).mono ?_
    rintro e w8 ⟨rfl, hb⟩
    obtain ⟨P, hP⟩ : ∃ P, decide (imagesA 3 K = imagesA 3 fullT) = P := ⟨_, rfl⟩
    rw [hP]
    have HP := Lib.hid hP
    replace HK := Lib.hid (HK.out.below hb); replace HY := Lib.hid (HY.out.below hb)
    replace HB := Lib.hid (Below.chain HB.out hb)
    clear hP hb
    go_wp2_with fail
    refine (gequal_calls 3 _ _ K fullT _ HK.out HY.out (by omega) (by omega) HKB.out HYB.out HKs.out HYs.out).mono ?_
    rintro e w9 ⟨c, d, rfl, hc, hd, hb⟩
    obtain ⟨Q, hQ⟩ : ∃ Q, decide (c = d) = Q := ⟨_, rfl⟩
    rw [hQ]
    have HQ := Lib.hid hQ; have HC := Lib.hid hc; have HD := Lib.hid hd
    replace HK := Lib.hid (HK.out.below hb); replace HY := Lib.hid (HY.out.below hb)
    replace HB := Lib.hid (Below.chain HB.out hb)
    clear hc hd hQ hb
    go_wp2_with fail
    refine (dCompare_calls 3 _ _ K fullT _ HK.out HY.out (by omega) (by omega) HKL.out HYL.out HKs.out HYs.out HOK.out).mono ?_
    rintro e w10 ⟨s, rfl, hr, hs, hb⟩
    obtain ⟨k, hk⟩ : ∃ k, -s = k := ⟨_, rfl⟩
    obtain ⟨t1, t2, t3⟩ := three_ways (n := 3) (by omega) (by omega) HKL.out HYL.out hs HC.out HD.out
    have hQP : Q = P := by rw [← HQ.out, ← HP.out, decide_eq_decide, t2, t1]
    have hKP : (k == 0) = P := by
      rw [← HP.out, ← hk]
      have e1 : (-s == 0) = decide (s = 0) := by
        rw [Bool.eq_iff_iff, beq_iff_eq, decide_eq_true_iff]; omega
      rw [e1, decide_eq_decide, t3, t1]
    obtain rfl : P = true := by rw [← HP.out, decide_eq_true_iff, t1]; exact HE.out
    rw [hk]
    replace HB := Lib.hid (Below.chain HB.out hb)
    clear hr hs hb hk t1 t2 t3 HC HD HQ HP
    subst hQP
    go_wp2_with fail
    refine (tequal_calls _).mono ?_
    rintro e w11 ⟨rfl, hb⟩
    replace HB := Lib.hid (Below.chain HB.out hb)
    clear hb
    go_wp2_with fail
    go_ret
    exact ⟨rfl, HB.out⟩
  · have g1 : (i.tmod 2 != 0) = true := by rw [bne_iff_ne]; exact hm
    have g2 : (i.tmod 2 == 0) = false := by rw [beq_eq_false_iff_ne]; exact hm
    clear hm
    go_wp2_with fail
    refine (letter_calls i 2 _ hi (by decide) (by decide)).mono ?_
    obtain ⟨z, hz⟩ : ∃ z, letterOf 2 i = z := ⟨_, rfl⟩
    have hz3 : LtB 3 z := by rw [← hz]; have := letter_bw (top := 2) (by decide) i; exact ⟨this.1, by omega⟩
    rw [hz]
    rintro e w' ⟨rfl, rfl⟩
    have HZ := Lib.hid hz3
    clear hz hz3
    go_wp2_with (at_builtin; refine wpList_push (v := kv) rfl _ _ rfl rfl rfl HK.out hs5 (by have := HX6.out; simp [invL_len, fullT]; omega) ?_; intro kv2 w8 ho hg hr; have sK2 := ho.isSl)
    have hb8 : Below W6.heap.size W6 w8 := Below_of_grown HBK.out hg hs5 (fun k hk => (HK.out.lt k hk).1)
    obtain ⟨K, hK⟩ : ∃ K, K = X ++ (fullT ++ (invL X ++ [z])) := ⟨_, rfl⟩
    have e1 : X ++ (fullT ++ invL X) ++ [z] = K := by rw [hK]; simp
    rw [e1] at ho
    have l1 : LtW 3 K := by rw [hK]; exact HXL.out.app (fullT_lt.app ((inv_lt' HXL.out).app (fun y hy => by rw [List.mem_singleton] at hy; rw [hy]; exact HZ.out)))
    have l2 : K.length ≤ 15 := by rw [hK]; have := HX6.out; simp [invL_len, fullT]; omega
    have l3 : ¬ TooLong 3 K := by
      rw [hK]; exact full_short (v := [z]) HXL.out HX6.out (by simp)
    have l4 : ¬ BE 3 K fullT := by rw [hK]; exact full_more HZ.out HXL.out
    have HKL := Lib.hid l1; have HKB : RowKit.Hid (BWord 3 K) := Lib.hid (lt_bw (n := 3) l1)
    have HKs := Lib.hid (Nat.le_trans l2 (show 15 ≤ 30 by decide)); have HNX := Lib.hid l3; have HE := Lib.hid l4
    have HOK := Lib.hid (ok21 l1 fullT_lt l2 (by decide))
    have hY8 := HY.out.grown hg (fun k hk => by have h1 := (HK.out.lt k hk).1; have h2 := HSZ.out; show w4.heap.size ≠ k; omega)
    replace HK := Lib.hid ho.ints
    replace HY := Lib.hid hY8
    replace HB := Lib.hid (Below.chain HB.out hb8)
    clear hK e1 l1 l2 l3 l4 HXL HX6 HXB HBK hb8 hg hr ho HZ hY8
    go_wp2_with fail
    refine (aequal_ok 3 kv2 _ K fullT _ HK.out HY.out (by omega) (by omega) HKB.out HYB.out HKs.out HYs.out HNX.out HNY.out).mono ?_
    rintro e w9 ⟨rfl, hb⟩
    obtain ⟨P, hP⟩ : ∃ P, decide (imagesA 3 K = imagesA 3 fullT) = P := ⟨_, rfl⟩
    rw [hP]
    have HP := Lib.hid hP
    replace HK := Lib.hid (HK.out.below hb); replace HY := Lib.hid (HY.out.below hb)
    replace HB := Lib.hid (Below.chain HB.out hb)
    clear hP hb
    go_wp2_with fail
    refine (gequal_calls 3 _ _ K fullT _ HK.out HY.out (by omega) (by omega) HKB.out HYB.out HKs.out HYs.out).mono ?_
    rintro e w10 ⟨c, d, rfl, hc, hd, hb⟩
    obtain ⟨Q, hQ⟩ : ∃ Q, decide (c = d) = Q := ⟨_, rfl⟩
    rw [hQ]
    have HQ := Lib.hid hQ; have HC := Lib.hid hc; have HD := Lib.hid hd
    replace HK := Lib.hid (HK.out.below hb); replace HY := Lib.hid (HY.out.below hb)
    replace HB := Lib.hid (Below.chain HB.out hb)
    clear hc hd hQ hb
    go_wp2_with fail
    refine (dCompare_calls 3 _ _ K fullT _ HK.out HY.out (by omega) (by omega) HKL.out HYL.out HKs.out HYs.out HOK.out).mono ?_
    rintro e w11 ⟨s, rfl, hr, hs, hb⟩
    obtain ⟨k, hk⟩ : ∃ k, -s = k := ⟨_, rfl⟩
    obtain ⟨t1, t2, t3⟩ := three_ways (n := 3) (by omega) (by omega) HKL.out HYL.out hs HC.out HD.out
    have hQP : Q = P := by rw [← HQ.out, ← HP.out, decide_eq_decide, t2, t1]
    have hKP : (k == 0) = P := by
      rw [← HP.out, ← hk]
      have e1 : (-s == 0) = decide (s = 0) := by
        rw [Bool.eq_iff_iff, beq_iff_eq, decide_eq_true_iff]; omega
      rw [e1, decide_eq_decide, t3, t1]
    obtain rfl : P = false := by rw [← HP.out, decide_eq_false_iff_not, t1]; exact HE.out
    rw [hk]
    replace HB := Lib.hid (Below.chain HB.out hb)
    clear hr hs hb hk t1 t2 t3 HC HD HQ HP
    subst hQP
    go_wp2_with fail
    refine (tequal_calls _).mono ?_
    rintro e w12 ⟨rfl, hb⟩
    replace HB := Lib.hid (Below.chain HB.out hb)
    clear hb
    go_wp2_with fail
    go_ret
    exact ⟨rfl, HB.out⟩

theorem topWord_true {w0 : World} (n0 : Int) (hn0 : I64 n0) (av : Value) (al : List Int) (ha0 : Ints w0 av al) (hza : ∀ x ∈ al, I64 x) (bv : Value) (bl : List Int) (hb0 : Ints w0 bv bl) (hzb : ∀ x ∈ bl, I64 x) (i : Int) (hi : I64 i) (alike : Bool) (w : World) (hw : w = w0 := by rfl) :
    Calls Try.prog 3 #[.int .i64 n0, av, bv, .int .i64 i, .bool alike] w fun e w' => e = .returned (.bool true) ∧ Below w.heap.size w w' := by
  cases alike
  · exact topWord_main n0 hn0 av al ha0 hza bv bl hb0 hzb i hi w hw
  · exact topWord_alike n0 hn0 av al ha0 hza bv bl hb0 hzb i hi w hw
end Go.Proofs.Ytnmklkjlcpgjmaa

