/- BraidRelations: for every input the statement returns true, and nothing that was there has changed. -/
import Derived.Test.YtdmogoeafjpphaaBraidRelLaw
import Derived.Test.YtdmogoeafjpphaaBurauFn
import Derived.Test.YtdmogoeafjpphaaMatrices
import Derived.Test.YtdmogoeafjpphaaSides
namespace Go.Proofs.Ytdmogoeafjpphaa
open Go.RowKit Go.Sl

set_option maxHeartbeats 4000000 in
set_option maxRecDepth 100000 in
theorem braidRelations_true {w0 : World} (n : Int) (hn : I64 n) (a : Value) (as1 : List Int) (hra : Ints w0 a as1) (hxa : ∀ x ∈ as1, I64 x) (b : Value) (bs : List Int) (hrb : Ints w0 b bs) (hxb : ∀ x ∈ bs, I64 x) (i : Int) (hi : I64 i) (k : Int) (hk : I64 k)
    (w : World) (hw : w = w0 := by rfl) :
    Calls Try.prog 4 #[.int .i64 n, a, b, .int .i64 i, .int .i64 k] w fun e w' => e = .returned (.bool true) ∧ Below w.heap.size w w' := by
  subst hw
  obtain ⟨N, hN⟩ : ∃ N : Nat, 2 + n % (6 - 1) = (N : Int) := ⟨(2 + n % (6 - 1)).toNat, by omega⟩
  have hN1 : 2 ≤ N := by omega
  have hN2 : N ≤ 6 := by omega
  obtain ⟨A, hA⟩ : ∃ A, A = aroundL N as1 bs i k 6 := ⟨_, rfl⟩
  have hi1 : 1 ≤ 1 + i % ((N : Int) - 1) ∧ 1 + i % ((N : Int) - 1) < N := by have := Int.emod_nonneg i (b := (N : Int) - 1) (by omega); have := Int.emod_lt_of_pos i (b := (N : Int) - 1) (by omega); omega
  have hk1 : 1 ≤ 1 + k % ((N : Int) - 1) ∧ 1 + k % ((N : Int) - 1) < N := by have := Int.emod_nonneg k (b := (N : Int) - 1) (by omega); have := Int.emod_lt_of_pos k (b := (N : Int) - 1) (by omega); omega
  have hsb := sides_bw hi1 hk1
  have wx : BWord (N : Int) (wordL ((N : Int) - 1) as1 6) := wordL_bw (by omega) as1 6
  have wy : BWord (N : Int) (wordL ((N : Int) - 1) bs 6) := wordL_bw (by omega) bs 6
  have lx := wordL_length ((N : Int) - 1) as1 6
  have ly := wordL_length ((N : Int) - 1) bs 6
  have W1 : BWord (N : Int) A.1 := by rw [hA]; exact (wx.append hsb.1).append wy
  have W2 : BWord (N : Int) A.2 := by rw [hA]; exact (wx.append hsb.2.1).append wy
  have L1 : A.1.length ≤ 15 := by rw [hA]; unfold aroundL; simp only [List.length_append]; omega
  have L2 : A.2.length ≤ 15 := by rw [hA]; unfold aroundL; simp only [List.length_append]; omega
  have E1 : backL (strandsL N A.1) = backL (strandsL N A.2) := by
    have h1 := W1.nword; have h2 := W2.nword
    rw [hA] at h1 h2 ⊢
    exact mid_perm (by omega) h1 h2 (sides_perm hi1.1 hk1.1)
  have E2 : sumL A.1 = sumL A.2 := by rw [hA]; exact mid_sum (sides_sum hi1.1 hk1.1)
  have E3 : burauM N A.1 = burauM N A.2 := by
    have h1 := W1.nword; have h2 := W2.nword
    rw [hA] at h1 h2 ⊢
    exact mid_burau h1 h2 (fun t ht f => sides_acts ht hi1.1 hk1.1 f)
  have E4 : (burauM N A.1).length = N := burauM_length _ _
  obtain ⟨S, hS⟩ : ∃ S, sumL A.1 = S := ⟨_, rfl⟩
  have hS2 : sumL A.2 = S := by rw [← E2, hS]
  have hSS : (S == S) = true := by simp
  have HW1 := Lib.hid W1; have HW2 := Lib.hid W2; have HL1 := Lib.hid L1; have HL2 := Lib.hid L2; have HE1 := Lib.hid E1; have HE3 := Lib.hid E3; have HE4 := Lib.hid E4
  have HN := Lib.hid hN; have HA := Lib.hid hA.symm; have HXA := Lib.hid hxa; have HXB := Lib.hid hxb; have HRA := Lib.hid hra; have HRB := Lib.hid hrb
  have HS := Lib.hid hS; have HS2 := Lib.hid hS2
  have sa := hra.isSl
  have sb := hrb.isSl
  clear W1 W2 L1 L2 E1 E2 E3 E4 hN hA hxa hxb hra hrb hi1 hk1 hsb wx wy lx ly hS hS2
  go_enter Try.func4, Try.ntmps4
  go_wp2_with fail
  refine (strands_calls n 6 _ hn (by decide) (by decide)).mono ?_
  rintro e w' ⟨rfl, rfl⟩
  rw [HN.out]
  go_wp2_with fail
  refine (around_calls N 6 a b as1 bs i k _ HRA.out HXA.out HRB.out HXB.out hN1 hN2 hi hk (by omega)).mono ?_
  rintro e w1 ⟨p, q, rfl, hp, hq, hb1⟩
  rw [HA.out] at hp hq
  have sp := hp.isSl
  have sq := hq.isSl
  have HB := Lib.hid hb1
  clear hb1
  have HP := Lib.hid hp; have HQ := Lib.hid hq
  clear hp hq
  go_wp2_with fail
  refine (bperm_calls N _ A.1 _ HP.out hN1 hN2 HW1.out (Nat.le_trans HL1.out (by omega))).mono ?_
  rintro e w2 ⟨u, rfl, hu, hb2⟩
  have su := hu.isSl
  have HP2 := Lib.hid (HP.out.below hb2); have HQ2 := Lib.hid (HQ.out.below hb2); have HB2 := Lib.hid (Below.chain HB.out hb2); have HU2 := Lib.hid hu.ints
  clear hu hb2 HP HQ HB
  go_wp2_with fail
  refine (bperm_calls N _ A.2 _ HQ2.out hN1 hN2 HW2.out (Nat.le_trans HL2.out (by omega))).mono ?_
  rintro e w3 ⟨v, rfl, hv, hb2⟩
  have sv := hv.isSl
  have HP3 := Lib.hid (HP2.out.below hb2); have HQ3 := Lib.hid (HQ2.out.below hb2); have HB3 := Lib.hid (Below.chain HB2.out hb2); have HU3 := Lib.hid (HU2.out.below hb2); have HV3 := Lib.hid hv.ints
  clear hv hb2 HP2 HQ2 HB2 HU2
  go_wp2_with fail
  refine (bexp_calls N _ A.1 _ HP3.out (by omega) (by omega) HW1.out (Nat.le_trans HL1.out (by omega))).mono ?_
  rw [HS.out]
  rintro e w4 ⟨rfl, hb2⟩
  have HP4 := Lib.hid (HP3.out.below hb2); have HQ4 := Lib.hid (HQ3.out.below hb2); have HB4 := Lib.hid (Below.chain HB3.out hb2); have HU4 := Lib.hid (HU3.out.below hb2); have HV4 := Lib.hid (HV3.out.below hb2)
  clear hb2 HP3 HQ3 HB3 HU3 HV3
  go_wp2_with fail
  refine (bexp_calls N _ A.2 _ HQ4.out (by omega) (by omega) HW2.out (Nat.le_trans HL2.out (by omega))).mono ?_
  rw [HS2.out]
  rintro e w5 ⟨rfl, hb2⟩
  have HP5 := Lib.hid (HP4.out.below hb2); have HQ5 := Lib.hid (HQ4.out.below hb2); have HB5 := Lib.hid (Below.chain HB4.out hb2); have HU5 := Lib.hid (HU4.out.below hb2); have HV5 := Lib.hid (HV4.out.below hb2)
  clear hb2 HP4 HQ4 HB4 HU4 HV4
  go_wp2_with fail
  refine (burau_calls N _ A.1 _ HP5.out (by omega) hN2 HW1.out (Nat.le_trans HL1.out (by omega))).mono ?_
  rintro e w6 ⟨x, xs, rfl, hx, hxl, hb2⟩
  have sx := hx.isSl
  have hxr := hx.mread (hxl.trans HE4.out.symm)
  have lx := hx.vlen
  rw [hxl] at lx
  have HX := Lib.hid hxr; have HQ6 := Lib.hid (HQ5.out.below hb2); have HB6 := Lib.hid (Below.chain HB5.out hb2); have HU6 := Lib.hid (HU5.out.below hb2); have HV6 := Lib.hid (HV5.out.below hb2)
  clear hx hxl hxr hb2 HP5 HQ5 HB5 HU5 HV5
  go_wp2_with fail
  refine (burau_calls N _ A.2 _ HQ6.out (by omega) hN2 HW2.out (Nat.le_trans HL2.out (by omega))).mono ?_
  rintro e w7 ⟨y, ys, rfl, hy, hyl, hb2⟩
  have sy := hy.isSl
  rw [← HE3.out] at hy
  have hyr := hy.mread (hyl.trans HE4.out.symm)
  have HY := Lib.hid hyr; have HX7 := Lib.hid (HX.out.below hb2); have HB7 := Lib.hid (Below.chain HB6.out hb2); have HU7 := Lib.hid (HU6.out.below hb2); have HV7 := Lib.hid (HV6.out.below hb2)
  clear hy hyl hyr hb2 HX HQ6 HB6 HU6 HV6
  go_wp2_with fail
  refine (braided_calls _).mono ?_
  rintro e w8 ⟨rfl, hb2⟩
  have HY8 := Lib.hid (HY.out.below hb2); have HX8 := Lib.hid (HX7.out.below hb2); have HB8 := Lib.hid (Below.chain HB7.out hb2); have HU8 := Lib.hid (HU7.out.below hb2); have HV8 := Lib.hid (HV7.out.below hb2)
  clear hb2 HY HX7 HB7 HU7 HV7
  go_wp2_with fail
  refine (equal_yes _ _ _ _ _ HU8.out HV8.out HE1.out).mono ?_
  rintro e w9 ⟨rfl, hb2⟩
  have HY9 := Lib.hid (HY8.out.below hb2); have HX9 := Lib.hid (HX8.out.below hb2); have HB9 := Lib.hid (Below.chain HB8.out hb2)
  clear hb2 HY8 HX8 HB8 HU8 HV8
  go_wp2_with fail
  refine (matrices_yes _ _ _ _ _ _ HX9.out HY9.out).mono ?_
  rintro e w10 ⟨rfl, hb2⟩
  have HB10 := Lib.hid (Below.chain HB9.out hb2)
  clear hb2
  go_wp2_with fail
  go_ret
  exact ⟨rfl, HB10.out⟩

end Go.Proofs.Ytdmogoeafjpphaa
