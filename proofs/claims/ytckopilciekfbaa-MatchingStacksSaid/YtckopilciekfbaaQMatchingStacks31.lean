/- matchingStacks: for every input the statement returns true, and nothing that was there has changed. -/
import Derived.Test.YtckopilciekfbaaQMatchingStacks0
import Derived.Test.YtckopilciekfbaaQMatchingStacks1
import Derived.Test.YtckopilciekfbaaQMatchingStacks2
import Derived.Test.YtckopilciekfbaaQMatchingStacks3
import Derived.Test.YtckopilciekfbaaQMatchingStacks4
import Derived.Test.YtckopilciekfbaaQMatchingStacks5
import Derived.Test.YtckopilciekfbaaQMatchingStacks6
import Derived.Test.YtckopilciekfbaaQMatchingStacks7
import Derived.Test.YtckopilciekfbaaQMatchingStacks8
import Derived.Test.YtckopilciekfbaaQMatchingStacks9
import Derived.Test.YtckopilciekfbaaQMatchingStacks10
import Derived.Test.YtckopilciekfbaaQMatchingStacks11
import Derived.Test.YtckopilciekfbaaQMatchingStacks12
import Derived.Test.YtckopilciekfbaaQMatchingStacks13
import Derived.Test.YtckopilciekfbaaQMatchingStacks14
import Derived.Test.YtckopilciekfbaaQMatchingStacks15
import Derived.Test.YtckopilciekfbaaQMatchingStacks16
import Derived.Test.YtckopilciekfbaaQMatchingStacks17
import Derived.Test.YtckopilciekfbaaQMatchingStacks18
import Derived.Test.YtckopilciekfbaaQMatchingStacks19
import Derived.Test.YtckopilciekfbaaQMatchingStacks20
import Derived.Test.YtckopilciekfbaaQMatchingStacks21
import Derived.Test.YtckopilciekfbaaQMatchingStacks22
import Derived.Test.YtckopilciekfbaaQMatchingStacks23
import Derived.Test.YtckopilciekfbaaQMatchingStacks24
import Derived.Test.YtckopilciekfbaaQMatchingStacks25
import Derived.Test.YtckopilciekfbaaQMatchingStacks26
import Derived.Test.YtckopilciekfbaaQMatchingStacks27
import Derived.Test.YtckopilciekfbaaQMatchingStacks28
import Derived.Test.YtckopilciekfbaaQMatchingStacks29
import Derived.Test.YtckopilciekfbaaQMatchingStacks30
import Derived.Deep.RegionLaw
import Derived.RangeFuncNested
import Derived.RangeFuncBound
import Derived.RangeFuncCalls
import Derived.RangeFuncLeaves
import Derived.RangeFuncBox
import Derived.Shelf.Abstract
import Derived.Shelf.RegionOpen
import Derived.OwnWalkIn
import Derived.TacticsInMore
import Derived.LoopNIn
import Derived.LoopIn
import Derived.Maps.AppendAt
namespace Go.Proofs.Ytckopilciekfbaa
open Go.RowKit Go.Sl
open Go.TL (PT dg closeL putL oneL cupL)

theorem MT.ok {n N : Nat} {S : List (List Nat)} {P : List Nat} {Tr : Nat} (H : MT n N S P Tr) {i : Nat} (hi : i < N) : TOk n (S.getD i []) := TOk.of (H.right i hi).2.2
theorem MT.prod {n N : Nat} {S : List (List Nat)} {P : List Nat} {Tr : Nat} (H : MT n N S P Tr) {i j : Nat} (hi : i < N) (hj : j < N) (h1 : 1 ≤ n) (h6 : n ≤ 6) (va vb : Value) (w : World) (ha : Ints w va (iz (S.getD i []))) (hb : Ints w vb (iz (S.getD j []))) :
    Calls Try.prog 47 #[.int .i64 n, va, vb] w fun e w' => ∃ u, e = .returned (.tuple #[u, .int .i64 ((PT P i j).2 : Nat), .int .i64 0]) ∧ OwnI w' w.heap.size u (iz (S.getD (PT P i j).1 [])) ∧ Below w.heap.size w w' :=
  tproduct_calls n _ _ va vb w ha hb h1 h6 (H.ok hi) (H.ok hj) _ _ (H.tab.put i j hi hj).1 (H.tab.put i j hi hj).2
theorem MT.clos {n N : Nat} {S : List (List Nat)} {P : List Nat} {Tr : Nat} (H : MT n N S P Tr) {i : Nat} (hi : i < N) (h1 : 1 ≤ n) (h6 : n ≤ 6) (dv : Value) (w : World) (hd : Ints w dv (iz (S.getD i []))) :
    Calls Try.prog 48 #[.int .i64 n, dv] w fun e w' => e = .returned (.tuple #[.int .i64 (dg Tr i : Nat), .int .i64 0]) ∧ Below w.heap.size w w' :=
  tclosure_calls n _ dv w hd (H.ok hi) h1 h6 _ (H.right i hi).1 (close_of (H.right i hi).2.1)
theorem pt2_le (P : List Nat) (i j : Nat) : (PT P i j).2 ≤ 3 := by show Go.TL.pv P i j % 4 ≤ 3; omega
theorem dg_le (T i : Nat) : dg T i ≤ 4095 := by
  have : (T >>> (12 * i)) % 4096 < 4096 := Nat.mod_lt _ (by decide)
  have e : dg T i = (T >>> (12 * i)) % 4096 := rfl
  omega

set_option maxHeartbeats 8000000 in
set_option maxRecDepth 100000 in
theorem matchingStacks_true {w0 : World} (n : Int) (hn : I64 n) (a : Value) (as1 : List Int) (hra : Ints w0 a as1) (hxa : ∀ x ∈ as1, I64 x) (b : Value) (bs1 : List Int) (hrb : Ints w0 b bs1) (hxb : ∀ x ∈ bs1, I64 x) (c : Value) (cs1 : List Int) (hrc : Ints w0 c cs1) (hxc : ∀ x ∈ cs1, I64 x) (w : World) (hw : w = w0 := by rfl) :
    Calls Try.prog 12 #[.int .i64 n, a, b, c] w fun e w' => e = .returned (.bool true) ∧ Below w.heap.size w w' := by
  subst hw
  obtain ⟨N, hN⟩ : ∃ N : Nat, 2 + n % (6 - 1) = (N : Int) := ⟨(2 + n % (6 - 1)).toNat, by omega⟩
  have hN1 : 2 ≤ N := by omega
  have hN2 : N ≤ 6 := by omega
  have hN3 : 1 ≤ N := by omega
  have sa := hra.isSl
  have sb := hrb.isSl
  have sc := hrc.isSl
  obtain ⟨M, S, P, Tr, H⟩ := mt_all N hN1 hN2
  obtain ⟨par, gn, hm⟩ := H.mul
  have h0M : 0 < M := by have := hm.gN; omega
  obtain ⟨x, CX, xM, cX, rX⟩ := run_tab H (gensL N as1 8) (gens_in N as1 8 hN1) 0 0 h0M (by have := gens_length N as1 8; omega)
  rw [H.one] at rX
  obtain ⟨y, CY, yM, cY, rY⟩ := run_tab H (gensL N bs1 8) (gens_in N bs1 8 hN1) 0 0 h0M (by have := gens_length N bs1 8; omega)
  rw [H.one] at rY
  obtain ⟨z, CZ, zM, cZ, rZ⟩ := run_tab H (gensL N cs1 8) (gens_in N cs1 8 hN1) 0 0 h0M (by have := gens_length N cs1 8; omega)
  rw [H.one] at rZ
  have uM := hm.lt x y xM yM
  have vM := hm.lt y z yM zM
  have tM := hm.lt y x yM xM
  have lM := hm.lt _ z uM zM
  obtain ⟨as1', as2⟩ := Go.TL.assoc hm xM yM zM
  have tr := Go.TL.trace hm (T := fun i => dg Tr i) H.trace y yM x xM
  have GX := Lib.hid (fun (W : World) (hW : Ints W a as1) => generators_calls N a as1 8 W hW hxa hN1 (by omega) (by omega))
  have KX := Lib.hid (fun (W : World) (v : Value) hv => stacked_calls N (gensL N as1 8) v W hv (by have := gens_length N as1 8; omega) hN3 hN2 _ _ rX)
  have GY := Lib.hid (fun (W : World) (hW : Ints W b bs1) => generators_calls N b bs1 8 W hW hxb hN1 (by omega) (by omega))
  have KY := Lib.hid (fun (W : World) (v : Value) hv => stacked_calls N (gensL N bs1 8) v W hv (by have := gens_length N bs1 8; omega) hN3 hN2 _ _ rY)
  have GZ := Lib.hid (fun (W : World) (hW : Ints W c cs1) => generators_calls N c cs1 8 W hW hxc hN1 (by omega) (by omega))
  have KZ := Lib.hid (fun (W : World) (v : Value) hv => stacked_calls N (gensL N cs1 8) v W hv (by have := gens_length N cs1 8; omega) hN3 hN2 _ _ rZ)
  have P1 := Lib.hid (fun va vb W ha hb => H.prod xM yM hN3 hN2 va vb W ha hb)
  have P2 := Lib.hid (fun va vb W ha hb => H.prod uM zM hN3 hN2 va vb W ha hb)
  have P3 := Lib.hid (fun va vb W ha hb => H.prod yM zM hN3 hN2 va vb W ha hb)
  have P4 := Lib.hid (fun va vb W ha hb => H.prod xM vM hN3 hN2 va vb W ha hb)
  have P5 := Lib.hid (fun va vb W ha hb => H.prod yM xM hN3 hN2 va vb W ha hb)
  have T1 := Lib.hid (fun dv W hd => H.clos uM hN3 hN2 dv W hd)
  have T2 := Lib.hid (fun dv W hd => H.clos tM hN3 hN2 dv W hd)
  have OKL := Lib.hid (H.ok lM)
  have RA := Lib.hid hra; have RB := Lib.hid hrb; have RC := Lib.hid hrc; have HN := Lib.hid hN
  have q1 := pt2_le P x y
  have q2 := pt2_le P (PT P x y).1 z
  have q3 := pt2_le P y z
  have q4 := pt2_le P x (PT P y z).1
  have q5 := pt2_le P y x
  have q6 := dg_le Tr (PT P x y).1
  have q7 := dg_le Tr (PT P y x).1
  have z1 : IntKind.i64.wrap (((PT P x y).2 : Nat) + ((PT P (PT P x y).1 z).2 : Nat) : Int) = (((PT P x y).2 : Nat) + ((PT P (PT P x y).1 z).2 : Nat) : Int) := IntWalk.i64_in _ ⟨by omega, by omega⟩
  have z2 : IntKind.i64.wrap (((PT P y z).2 : Nat) + ((PT P x (PT P y z).1).2 : Nat) : Int) = (((PT P y z).2 : Nat) + ((PT P x (PT P y z).1).2 : Nat) : Int) := IntWalk.i64_in _ ⟨by omega, by omega⟩
  have z3 : IntKind.i64.wrap ((dg Tr (PT P x y).1 : Nat) + ((PT P x y).2 : Nat) : Int) = ((dg Tr (PT P x y).1 : Nat) + ((PT P x y).2 : Nat) : Int) := IntWalk.i64_in _ ⟨by omega, by omega⟩
  have z4 : IntKind.i64.wrap ((dg Tr (PT P y x).1 : Nat) + ((PT P y x).2 : Nat) : Int) = ((dg Tr (PT P y x).1 : Nat) + ((PT P y x).2 : Nat) : Int) := IntWalk.i64_in _ ⟨by omega, by omega⟩
  have z5 : ((((PT P x y).2 : Nat) + ((PT P (PT P x y).1 z).2 : Nat) : Int) == (((PT P y z).2 : Nat) + ((PT P x (PT P y z).1).2 : Nat) : Int)) = true := by rw [beq_iff_eq]; omega
  have z6 : (((dg Tr (PT P x y).1 : Nat) + ((PT P x y).2 : Nat) : Int) == ((dg Tr (PT P y x).1 : Nat) + ((PT P y x).2 : Nat) : Int)) = true := by rw [beq_iff_eq]; omega
  clear as2 tr
  obtain ⟨lx, hlx⟩ : ∃ s, S.getD (PT P x (PT P y z).1).1 [] = s := ⟨_, rfl⟩
  rw [as1'] at P2 OKL
  rw [hlx] at P2 P4 OKL
  clear hra hrb hrc hN hxa hxb hxc rX rY rZ
  go_enter Try.func12, Try.ntmps12
  go_wp2_with fail
  refine (strands_calls n 6 w hn (by decide) (by decide)).mono ?_
  rw [HN.out]
  rintro e w' ⟨rfl, rfl⟩
  go_wp2_with fail
  refine (GX.out _ RA.out).mono ?_
  rintro e u1 ⟨gx, rfl, ho, hb⟩
  have sgx := ho.isSl
  have UX0 := ho.ints
  clear ho
  have UX := Lib.hid (UX0)
  replace RA := Lib.hid (RA.out.below hb)
  replace RB := Lib.hid (RB.out.below hb)
  replace RC := Lib.hid (RC.out.below hb)
  have HB := Lib.hid hb
  clear hb
  go_wp2_with fail
  refine (KX.out _ _ UX.out).mono ?_
  rintro e u2 ⟨vx, rfl, ho, hb⟩
  have svx := ho.isSl
  have VX0 := ho.ints
  clear ho
  have VX := Lib.hid (VX0)
  replace RA := Lib.hid (RA.out.below hb)
  replace RB := Lib.hid (RB.out.below hb)
  replace RC := Lib.hid (RC.out.below hb)
  replace UX := Lib.hid (UX.out.below hb)
  replace HB := Lib.hid (Below.chain HB.out hb)
  clear hb
  go_wp2_with fail
  refine (GY.out _ RB.out).mono ?_
  rintro e u3 ⟨gy, rfl, ho, hb⟩
  have sgy := ho.isSl
  have UY0 := ho.ints
  clear ho
  have UY := Lib.hid (UY0)
  replace RA := Lib.hid (RA.out.below hb)
  replace RB := Lib.hid (RB.out.below hb)
  replace RC := Lib.hid (RC.out.below hb)
  replace UX := Lib.hid (UX.out.below hb)
  replace VX := Lib.hid (VX.out.below hb)
  replace HB := Lib.hid (Below.chain HB.out hb)
  clear hb
  go_wp2_with fail
  refine (KY.out _ _ UY.out).mono ?_
  rintro e u4 ⟨vy, rfl, ho, hb⟩
  have svy := ho.isSl
  have VY0 := ho.ints
  clear ho
  have VY := Lib.hid (VY0)
  replace RA := Lib.hid (RA.out.below hb)
  replace RB := Lib.hid (RB.out.below hb)
  replace RC := Lib.hid (RC.out.below hb)
  replace UX := Lib.hid (UX.out.below hb)
  replace VX := Lib.hid (VX.out.below hb)
  replace UY := Lib.hid (UY.out.below hb)
  replace HB := Lib.hid (Below.chain HB.out hb)
  clear hb
  go_wp2_with fail
  refine (GZ.out _ RC.out).mono ?_
  rintro e u5 ⟨gz, rfl, ho, hb⟩
  have sgz := ho.isSl
  have UZ0 := ho.ints
  clear ho
  have UZ := Lib.hid (UZ0)
  replace RA := Lib.hid (RA.out.below hb)
  replace RB := Lib.hid (RB.out.below hb)
  replace RC := Lib.hid (RC.out.below hb)
  replace UX := Lib.hid (UX.out.below hb)
  replace VX := Lib.hid (VX.out.below hb)
  replace UY := Lib.hid (UY.out.below hb)
  replace VY := Lib.hid (VY.out.below hb)
  replace HB := Lib.hid (Below.chain HB.out hb)
  clear hb
  go_wp2_with fail
  refine (KZ.out _ _ UZ.out).mono ?_
  rintro e u6 ⟨vz, rfl, ho, hb⟩
  have svz := ho.isSl
  have VZ0 := ho.ints
  clear ho
  have VZ := Lib.hid (VZ0)
  replace RA := Lib.hid (RA.out.below hb)
  replace RB := Lib.hid (RB.out.below hb)
  replace RC := Lib.hid (RC.out.below hb)
  replace UX := Lib.hid (UX.out.below hb)
  replace VX := Lib.hid (VX.out.below hb)
  replace UY := Lib.hid (UY.out.below hb)
  replace VY := Lib.hid (VY.out.below hb)
  replace UZ := Lib.hid (UZ.out.below hb)
  replace HB := Lib.hid (Below.chain HB.out hb)
  clear hb
  go_wp2_with fail
  refine (P1.out _ _ _ VX.out VY.out).mono ?_
  rintro e u7 ⟨vxy, rfl, ho, hb⟩
  have svxy := ho.isSl
  have Vxy0 := ho.ints
  clear ho
  have Vxy := Lib.hid (Vxy0)
  replace RA := Lib.hid (RA.out.below hb)
  replace RB := Lib.hid (RB.out.below hb)
  replace RC := Lib.hid (RC.out.below hb)
  replace UX := Lib.hid (UX.out.below hb)
  replace VX := Lib.hid (VX.out.below hb)
  replace UY := Lib.hid (UY.out.below hb)
  replace VY := Lib.hid (VY.out.below hb)
  replace UZ := Lib.hid (UZ.out.below hb)
  replace VZ := Lib.hid (VZ.out.below hb)
  replace HB := Lib.hid (Below.chain HB.out hb)
  clear hb
  go_wp2_with fail
  refine (P2.out _ _ _ Vxy.out VZ.out).mono ?_
  rintro e u8 ⟨vl, rfl, ho, hb⟩
  have svl := ho.isSl
  have Vl0 := ho.ints
  clear ho
  have Vl := Lib.hid (Vl0)
  replace RA := Lib.hid (RA.out.below hb)
  replace RB := Lib.hid (RB.out.below hb)
  replace RC := Lib.hid (RC.out.below hb)
  replace UX := Lib.hid (UX.out.below hb)
  replace VX := Lib.hid (VX.out.below hb)
  replace UY := Lib.hid (UY.out.below hb)
  replace VY := Lib.hid (VY.out.below hb)
  replace UZ := Lib.hid (UZ.out.below hb)
  replace VZ := Lib.hid (VZ.out.below hb)
  replace Vxy := Lib.hid (Vxy.out.below hb)
  replace HB := Lib.hid (Below.chain HB.out hb)
  clear hb
  go_wp2_with fail
  refine (P3.out _ _ _ VY.out VZ.out).mono ?_
  rintro e u9 ⟨vyz, rfl, ho, hb⟩
  have svyz := ho.isSl
  have Vyz0 := ho.ints
  clear ho
  have Vyz := Lib.hid (Vyz0)
  replace RA := Lib.hid (RA.out.below hb)
  replace RB := Lib.hid (RB.out.below hb)
  replace RC := Lib.hid (RC.out.below hb)
  replace UX := Lib.hid (UX.out.below hb)
  replace VX := Lib.hid (VX.out.below hb)
  replace UY := Lib.hid (UY.out.below hb)
  replace VY := Lib.hid (VY.out.below hb)
  replace UZ := Lib.hid (UZ.out.below hb)
  replace VZ := Lib.hid (VZ.out.below hb)
  replace Vxy := Lib.hid (Vxy.out.below hb)
  replace Vl := Lib.hid (Vl.out.below hb)
  replace HB := Lib.hid (Below.chain HB.out hb)
  clear hb
  go_wp2_with fail
  refine (P4.out _ _ _ VX.out Vyz.out).mono ?_
  rintro e u10 ⟨vr, rfl, ho, hb⟩
  have svr := ho.isSl
  have Vr0 := ho.ints
  clear ho
  have Vr := Lib.hid (Vr0)
  replace RA := Lib.hid (RA.out.below hb)
  replace RB := Lib.hid (RB.out.below hb)
  replace RC := Lib.hid (RC.out.below hb)
  replace UX := Lib.hid (UX.out.below hb)
  replace VX := Lib.hid (VX.out.below hb)
  replace UY := Lib.hid (UY.out.below hb)
  replace VY := Lib.hid (VY.out.below hb)
  replace UZ := Lib.hid (UZ.out.below hb)
  replace VZ := Lib.hid (VZ.out.below hb)
  replace Vxy := Lib.hid (Vxy.out.below hb)
  replace Vl := Lib.hid (Vl.out.below hb)
  replace Vyz := Lib.hid (Vyz.out.below hb)
  replace HB := Lib.hid (Below.chain HB.out hb)
  clear hb
  go_wp2_with fail
  refine (P5.out _ _ _ VY.out VX.out).mono ?_
  rintro e u11 ⟨vyx, rfl, ho, hb⟩
  have svyx := ho.isSl
  have Vyx0 := ho.ints
  clear ho
  have Vyx := Lib.hid (Vyx0)
  replace RA := Lib.hid (RA.out.below hb)
  replace RB := Lib.hid (RB.out.below hb)
  replace RC := Lib.hid (RC.out.below hb)
  replace UX := Lib.hid (UX.out.below hb)
  replace VX := Lib.hid (VX.out.below hb)
  replace UY := Lib.hid (UY.out.below hb)
  replace VY := Lib.hid (VY.out.below hb)
  replace UZ := Lib.hid (UZ.out.below hb)
  replace VZ := Lib.hid (VZ.out.below hb)
  replace Vxy := Lib.hid (Vxy.out.below hb)
  replace Vl := Lib.hid (Vl.out.below hb)
  replace Vyz := Lib.hid (Vyz.out.below hb)
  replace Vr := Lib.hid (Vr.out.below hb)
  replace HB := Lib.hid (Below.chain HB.out hb)
  clear hb
  go_wp2_with fail
  refine (T1.out _ _ Vxy.out).mono ?_
  rintro e u12 ⟨rfl, hb⟩
  replace RA := Lib.hid (RA.out.below hb)
  replace RB := Lib.hid (RB.out.below hb)
  replace RC := Lib.hid (RC.out.below hb)
  replace UX := Lib.hid (UX.out.below hb)
  replace VX := Lib.hid (VX.out.below hb)
  replace UY := Lib.hid (UY.out.below hb)
  replace VY := Lib.hid (VY.out.below hb)
  replace UZ := Lib.hid (UZ.out.below hb)
  replace VZ := Lib.hid (VZ.out.below hb)
  replace Vxy := Lib.hid (Vxy.out.below hb)
  replace Vl := Lib.hid (Vl.out.below hb)
  replace Vyz := Lib.hid (Vyz.out.below hb)
  replace Vr := Lib.hid (Vr.out.below hb)
  replace Vyx := Lib.hid (Vyx.out.below hb)
  replace HB := Lib.hid (Below.chain HB.out hb)
  clear hb
  go_wp2_with fail
  refine (T2.out _ _ Vyx.out).mono ?_
  rintro e u13 ⟨rfl, hb⟩
  replace RA := Lib.hid (RA.out.below hb)
  replace RB := Lib.hid (RB.out.below hb)
  replace RC := Lib.hid (RC.out.below hb)
  replace UX := Lib.hid (UX.out.below hb)
  replace VX := Lib.hid (VX.out.below hb)
  replace UY := Lib.hid (UY.out.below hb)
  replace VY := Lib.hid (VY.out.below hb)
  replace UZ := Lib.hid (UZ.out.below hb)
  replace VZ := Lib.hid (VZ.out.below hb)
  replace Vxy := Lib.hid (Vxy.out.below hb)
  replace Vl := Lib.hid (Vl.out.below hb)
  replace Vyz := Lib.hid (Vyz.out.below hb)
  replace Vr := Lib.hid (Vr.out.below hb)
  replace Vyx := Lib.hid (Vyx.out.below hb)
  replace HB := Lib.hid (Below.chain HB.out hb)
  clear hb
  go_wp2_with fail
  refine (matched_calls _).mono ?_
  rintro e u14 ⟨rfl, hb⟩
  replace RA := Lib.hid (RA.out.below hb)
  replace RB := Lib.hid (RB.out.below hb)
  replace RC := Lib.hid (RC.out.below hb)
  replace UX := Lib.hid (UX.out.below hb)
  replace VX := Lib.hid (VX.out.below hb)
  replace UY := Lib.hid (UY.out.below hb)
  replace VY := Lib.hid (VY.out.below hb)
  replace UZ := Lib.hid (UZ.out.below hb)
  replace VZ := Lib.hid (VZ.out.below hb)
  replace Vxy := Lib.hid (Vxy.out.below hb)
  replace Vl := Lib.hid (Vl.out.below hb)
  replace Vyz := Lib.hid (Vyz.out.below hb)
  replace Vr := Lib.hid (Vr.out.below hb)
  replace Vyx := Lib.hid (Vyx.out.below hb)
  replace HB := Lib.hid (Below.chain HB.out hb)
  clear hb
  go_wp2_with fail
  refine (equal_calls _ _ _ _ _ Vl.out Vr.out).mono ?_
  rintro e u15 ⟨rfl, hb⟩
  rw [decide_eq_true rfl]
  replace RA := Lib.hid (RA.out.below hb)
  replace RB := Lib.hid (RB.out.below hb)
  replace RC := Lib.hid (RC.out.below hb)
  replace UX := Lib.hid (UX.out.below hb)
  replace VX := Lib.hid (VX.out.below hb)
  replace UY := Lib.hid (UY.out.below hb)
  replace VY := Lib.hid (VY.out.below hb)
  replace UZ := Lib.hid (UZ.out.below hb)
  replace VZ := Lib.hid (VZ.out.below hb)
  replace Vxy := Lib.hid (Vxy.out.below hb)
  replace Vl := Lib.hid (Vl.out.below hb)
  replace Vyz := Lib.hid (Vyz.out.below hb)
  replace Vr := Lib.hid (Vr.out.below hb)
  replace Vyx := Lib.hid (Vyx.out.below hb)
  replace HB := Lib.hid (Below.chain HB.out hb)
  clear hb
  go_wp2_with fail
  refine (tcheck_calls N _ _ _ Vl.out OKL.out hN3 hN2).mono ?_
  rintro e u16 ⟨rfl, hb⟩
  replace RA := Lib.hid (RA.out.below hb)
  replace RB := Lib.hid (RB.out.below hb)
  replace RC := Lib.hid (RC.out.below hb)
  replace UX := Lib.hid (UX.out.below hb)
  replace VX := Lib.hid (VX.out.below hb)
  replace UY := Lib.hid (UY.out.below hb)
  replace VY := Lib.hid (VY.out.below hb)
  replace UZ := Lib.hid (UZ.out.below hb)
  replace VZ := Lib.hid (VZ.out.below hb)
  replace Vxy := Lib.hid (Vxy.out.below hb)
  replace Vl := Lib.hid (Vl.out.below hb)
  replace Vyz := Lib.hid (Vyz.out.below hb)
  replace Vr := Lib.hid (Vr.out.below hb)
  replace Vyx := Lib.hid (Vyx.out.below hb)
  replace HB := Lib.hid (Below.chain HB.out hb)
  clear hb
  go_wp2_with fail
  go_ret
  exact ⟨rfl, HB.out⟩

end Go.Proofs.Ytckopilciekfbaa

