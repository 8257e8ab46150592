/- DehornoyRelations: for every input the statement returns true, and nothing that was there has changed. -/
import Derived.Test.YtnmklkjlcpgjmaaQDehornoyRelations0
import Derived.Test.YtnmklkjlcpgjmaaQDehornoyRelations1
import Derived.Test.YtnmklkjlcpgjmaaQDehornoyRelations2
import Derived.Test.YtnmklkjlcpgjmaaQDehornoyRelations3
import Derived.Test.YtnmklkjlcpgjmaaQDehornoyRelations4
import Derived.Test.YtnmklkjlcpgjmaaQDehornoyRelations5
import Derived.Test.YtnmklkjlcpgjmaaQDehornoyRelations6
import Derived.Test.YtnmklkjlcpgjmaaQDehornoyRelations7
import Derived.Test.YtnmklkjlcpgjmaaQDehornoyRelations8
import Derived.Test.YtnmklkjlcpgjmaaQDehornoyRelations9
import Derived.Test.YtnmklkjlcpgjmaaQDehornoyRelations10
import Derived.Test.YtnmklkjlcpgjmaaQDehornoyRelations11
import Derived.Test.YtnmklkjlcpgjmaaQDehornoyRelations12
import Derived.Test.YtnmklkjlcpgjmaaQDehornoyRelations13
import Derived.Test.YtnmklkjlcpgjmaaQDehornoyRelations14
import Derived.Test.YtnmklkjlcpgjmaaQDehornoyRelations15
import Derived.Test.YtnmklkjlcpgjmaaQDehornoyRelations16
import Derived.Test.YtnmklkjlcpgjmaaQDehornoyRelations17
import Derived.Test.YtnmklkjlcpgjmaaQDehornoyRelations18
import Derived.Test.YtnmklkjlcpgjmaaQDehornoyRelations19
import Derived.Test.YtnmklkjlcpgjmaaQDehornoyRelations20
import Derived.Test.YtnmklkjlcpgjmaaQDehornoyRelations21
import Derived.Test.YtnmklkjlcpgjmaaQDehornoyRelations22
import Derived.Test.YtnmklkjlcpgjmaaQDehornoyRelations23
import Derived.Test.YtnmklkjlcpgjmaaQDehornoyRelations24
import Derived.Test.YtnmklkjlcpgjmaaQDehornoyRelations25
import Derived.Test.YtnmklkjlcpgjmaaQDehornoyRelations26
import Derived.Test.YtnmklkjlcpgjmaaQDehornoyRelations27
import Derived.Test.YtnmklkjlcpgjmaaQDehornoyRelations28
import Derived.OrdersHeld
import Derived.Deep.RegionHeld
import Derived.Deep.RegionHeld3
import Derived.RangeFuncNested
import Derived.RangeFuncCalls
import Derived.OrdersIn
import Derived.Deep.RegionLaw
import Derived.Deep.QuietTactic
import Derived.BigQuiet
import Derived.IntWalk
namespace Go.Proofs.Ytnmklkjlcpgjmaa
open Go.RowKit Go.Sl

set_option maxHeartbeats 8000000 in
set_option maxRecDepth 100000 in
theorem dehornoyRelations_true {w0 : World} (n0 : Int) (hn0 : I64 n0) (uv : Value) (ul : List Int) (hu0 : Ints w0 uv ul) (hzu : ∀ x ∈ ul, I64 x) (vv : Value) (vl : List Int) (hv0 : Ints w0 vv vl) (hzv : ∀ x ∈ vl, I64 x) (i : Int) (hi : I64 i) (k : Int) (hk : I64 k) (w : World) (hw : w = w0 := by rfl) :
    Calls Try.prog 4 #[.int .i64 n0, uv, vv, .int .i64 i, .int .i64 k] w fun e w' => e = .returned (.bool true) ∧ Below w.heap.size w w' := by
  subst hw
  have suv := hu0.isSl
  have svv := hv0.isSl
  obtain ⟨n, hN⟩ : ∃ n : Nat, 2 + n0 % (6 - 1) = (n : Int) := ⟨(2 + n0 % (6 - 1)).toNat, by omega⟩
  have hn2 : 2 ≤ n := by omega
  have hn6 : n ≤ 6 := by omega
  obtain ⟨X, hX⟩ : ∃ X, wordL ((n : Int) - 1) ul 7 = X := ⟨_, rfl⟩
  obtain ⟨Y, hY⟩ : ∃ Y, wordL ((n : Int) - 1) vl 7 = Y := ⟨_, rfl⟩
  obtain ⟨P, hP⟩ : ∃ P, (sidesL (1 + i % ((n : Int) - 1)) (1 + k % ((n : Int) - 1))).1 = P := ⟨_, rfl⟩
  obtain ⟨Q, hQ⟩ : ∃ Q, (sidesL (1 + i % ((n : Int) - 1)) (1 + k % ((n : Int) - 1))).2 = Q := ⟨_, rfl⟩
  have lX : LtW n X := by rw [← hX]; exact bw_lt (wordL_bw (n := (n : Int)) (by omega) ul 7)
  have lY : LtW n Y := by rw [← hY]; exact bw_lt (wordL_bw (n := (n : Int)) (by omega) vl 7)
  have nX : X.length ≤ 7 := by rw [← hX]; exact wordL_length _ _ _
  have nY : Y.length ≤ 7 := by rw [← hY]; exact wordL_length _ _ _
  have i1 := Int.emod_nonneg i (show (n : Int) - 1 ≠ 0 by omega)
  have i2 := Int.emod_lt_of_pos i (show 0 < (n : Int) - 1 by omega)
  have k1 := Int.emod_nonneg k (show (n : Int) - 1 ≠ 0 by omega)
  have k2 := Int.emod_lt_of_pos k (show 0 < (n : Int) - 1 by omega)
  have hR : RelT n P Q := by rw [← hP, ← hQ]; exact rel_sides ⟨by omega, by omega⟩ ⟨by omega, by omega⟩
  have hR6 := hR.mono hn6
  have nP : P.length ≤ 3 ∧ Q.length ≤ 3 := by cases hR <;> simp
  obtain ⟨o1, o2⟩ := sign_ok1 hR6 (lX.mono hn6) (lY.mono hn6) nX nY
  obtain ⟨o3, o4⟩ := cmp_ok (x := X) hR6 (lY.mono hn6) nY
  have hvals := fun {s t c d : Int} => rel_vals (s := s) (t := t) (c := c) (d := d) hn2 hR lX lY
  have eA : (aroundL n ul vl i k 7).1 = X ++ P ++ Y := by unfold aroundL; rw [hX, hY, hP]
  have eB : (aroundL n ul vl i k 7).2 = X ++ Q ++ Y := by unfold aroundL; rw [hX, hY, hQ]
  have lA : LtW n (X ++ P ++ Y) := (lX.app hR.lt.1).app lY
  have lB : LtW n (X ++ Q ++ Y) := (lX.app hR.lt.2).app lY
  have nA : (X ++ P ++ Y).length ≤ 17 := by simp only [List.length_append]; omega
  have nB : (X ++ Q ++ Y).length ≤ 17 := by simp only [List.length_append]; omega
  obtain ⟨A, hA⟩ : ∃ A, X ++ P ++ Y = A := ⟨_, rfl⟩
  obtain ⟨B, hB⟩ : ∃ B, X ++ Q ++ Y = B := ⟨_, rfl⟩
  rw [hA] at o1 o3 o4 eA lA nA hvals
  rw [hB] at o2 o3 o4 eB lB nB hvals
  have lB1 : LtW n (B ++ [1]) := lB.app (lw1 ⟨by decide, by omega⟩)
  have HO1 := Lib.hid o1; have HO2 := Lib.hid o2; have HO3 := Lib.hid o3; have HO4 := Lib.hid o4
  have HEA := Lib.hid eA; have HEB := Lib.hid eB; have HLA := Lib.hid lA; have HLB := Lib.hid lB; have HLB1 := Lib.hid lB1; have HNA := Lib.hid nA; have HNB := Lib.hid nB
  have HV := Lib.hid (fun (s t c d : Int) => hvals (s := s) (t := t) (c := c) (d := d))
  have HN := Lib.hid hN; have HuR := Lib.hid hu0; have HuZ := Lib.hid hzu; have HvR := Lib.hid hv0; have HvZ := Lib.hid hzv
  clear hX hY hP hQ lX lY nX nY i1 i2 k1 k2 hR hR6 nP o1 o2 o3 o4 hvals eA eB lA lB nA nB hA hB lB1 hN hu0 hzu hv0 hzv
  clear X Y P Q
  go_enter Try.func4, Try.ntmps4
  go_wp2_with fail
  refine (strands_calls n0 6 _ hn0 (by decide) (by decide)).mono ?_
  rw [HN.out]
  rintro e w' ⟨rfl, rfl⟩
  go_wp2_with fail
  refine (around_calls n 7 uv vv ul vl i k _ HuR.out HuZ.out HvR.out HvZ.out hn2 hn6 hi hk (by omega)).mono ?_
  rintro e w1 ⟨av, bv, rfl, ha, hb, hb1⟩
  rw [HEA.out] at ha
  rw [HEB.out] at hb
  have sA := ha.isSl
  have sB := hb.isSl
  obtain ⟨a1, a2, a3, rfl, -⟩ := sA.cases
  obtain ⟨b1, b2, b3, rfl, -⟩ := sB.cases
  have HA := Lib.hid ha; have HB := Lib.hid hb; have HW := Lib.hid hb1
  clear ha hb hb1 HuR HvR HuZ HvZ HEA HEB
  go_wp2_with fail
  refine (dSign_calls n _ A _ HA.out (by omega) hn6 HLA.out (Nat.le_trans HNA.out (by decide)) HO1.out).mono ?_
  rintro e w2 ⟨s, rfl, hr1, hs1, hb⟩
  have hs2 : -1 ≤ s ∧ s ≤ 1 := by rcases hr1 with h | h | h <;> omega
  have HS := Lib.hid hs1
  replace HA := Lib.hid (HA.out.below hb); replace HB := Lib.hid (HB.out.below hb); replace HW := Lib.hid (Below.chain HW.out hb)
  clear hb hs1 hr1
  go_wp2_with fail
  refine (dSign_calls n _ B _ HB.out (by omega) hn6 HLB.out (Nat.le_trans HNB.out (by decide)) HO2.out).mono ?_
  rintro e w3 ⟨t, rfl, hr1, ht1, hb⟩
  have HT := Lib.hid ht1
  replace HA := Lib.hid (HA.out.below hb); replace HB := Lib.hid (HB.out.below hb); replace HW := Lib.hid (Below.chain HW.out hb)
  clear hb ht1 hr1
  go_wp2_with fail
  refine (clone_calls _ B _ HB.out (Nat.le_trans HNB.out (by decide))).mono ?_
  rintro e w4 ⟨cv, rfl, hc, hb⟩
  have sC := hc.isSl
  have HC := Lib.hid hc; have HB4 := Lib.hid hb; have HA3 := HA; have HB3 := HB
  have hs5 := hb.size
  replace HA := Lib.hid (HA.out.below hb); replace HB := Lib.hid (HB.out.below hb)
  clear hc hb
  go_wp2_with (at_builtin; refine wpList_push (v := cv) rfl _ _ rfl rfl rfl HC.out hs5 (Nat.le_trans HNB.out (by decide)) ?_; intro cv2 w5 ho hg hr; have sC2 := ho.isSl)
  have hb5 : Below w3.heap.size w3 w5 := Below_of_grown HB4.out hg hs5 (fun k hk => (HC.out.lt k hk).1)
  have HC2 := Lib.hid ho.ints
  have HG := Lib.hid hg; have HCO := Lib.hid HC.out
  clear ho hr hg
  have hA5 : Ints w5 (.slice a1 a2 a3) A := HA3.out.below hb5
  have hB5 : Ints w5 (.slice b1 b2 b3) B := HB3.out.below hb5
  replace HA := Lib.hid hA5; replace HB := Lib.hid hB5
  replace HW := Lib.hid (Below.chain HW.out hb5)
  clear hA5 hB5 hb5 HG HCO HB4 HC hs5 HA3 HB3
  refine (dCompare_calls n _ _ A (B ++ [1]) _ HA.out HC2.out (by omega) hn6 HLA.out HLB1.out (Nat.le_trans HNA.out (by decide)) (by have := HNB.out; rw [List.length_append]; simp; omega) HO4.out).mono ?_
  rintro e w6 ⟨c, rfl, hr1, hc1, hb⟩
  have HCS := Lib.hid hc1
  replace HA := Lib.hid (HA.out.below hb); replace HB := Lib.hid (HB.out.below hb); replace HW := Lib.hid (Below.chain HW.out hb)
  obtain ⟨pc, hpc⟩ : ∃ pc, -c = pc := ⟨_, rfl⟩
  rw [hpc]
  have HPC := Lib.hid hpc
  clear hb hc1 hr1 hpc HC2
  go_wp2_with fail
  refine (dCompare_calls n _ _ A B _ HA.out HB.out (by omega) hn6 HLA.out HLB.out (Nat.le_trans HNA.out (by decide)) (Nat.le_trans HNB.out (by decide)) HO3.out).mono ?_
  rintro e w7 ⟨d, rfl, hr1, hd1, hb⟩
  obtain ⟨q1, q2, q3⟩ := HV.out s t c d HS.out HT.out HCS.out hd1
  obtain ⟨pd, hpd⟩ : ∃ pd, -d = pd := ⟨_, rfl⟩
  rw [hpd]
  have q4 : pc = -1 := by rw [← HPC.out, q2]
  have q5 : pd = 0 := by rw [← hpd, q3]; rfl
  replace HW := Lib.hid (Below.chain HW.out hb)
  clear hb hd1 hr1 hpd HPC HCS HS HT HV q2 q3 HO1 HO2 HO3 HO4
  subst q4 q5 q1
  go_wp2_with fail
  refine (ordered_calls _).mono ?_
  rintro e w8 ⟨rfl, hb⟩
  replace HW := Lib.hid (Below.chain HW.out hb)
  clear hb
  have e0 : (s == s) = true := beq_self_eq_true s
  go_wp2_with fail
  go_ret
  exact ⟨rfl, HW.out⟩
end Go.Proofs.Ytnmklkjlcpgjmaa

