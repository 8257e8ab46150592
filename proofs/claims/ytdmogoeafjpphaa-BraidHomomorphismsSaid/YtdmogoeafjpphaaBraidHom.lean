/- BraidHomomorphisms: for every input the statement returns true, and nothing that was there has changed. -/
import Derived.Test.YtdmogoeafjpphaaBraidRelLaw
import Derived.Test.YtdmogoeafjpphaaBurauFn
import Derived.Test.YtdmogoeafjpphaaMatrices
import Derived.Test.YtdmogoeafjpphaaSides
import Derived.Test.YtdmogoeafjpphaaWords
namespace Go.Proofs.Ytdmogoeafjpphaa
open Go.RowKit Go.Sl

theorem cancel_perm {xs : List Int} (j : Nat) (h : ∀ x ∈ xs, x ≠ 0) : permB (xs ++ invL xs) j = j := by
  induction xs generalizing j with
  | nil => rfl
  | cons x t ih =>
    have e : x :: t ++ invL (x :: t) = [x] ++ (t ++ invL t) ++ [-x] := by simp [invL]
    have h1 : ∀ m, permB [x] m = swp x m := fun _ => rfl
    have h2 : ∀ m, permB [-x] m = swp (-x) m := fun _ => rfl
    rw [e, permB_append, permB_append, ih _ (fun y hy => h y (by simp [hy])), h1, h2]
    have := h x (by simp)
    unfold swp
    rw [Int.natAbs_neg]
    grind
theorem cancel_acts {t : Rat} (ht : t ≠ 0) {xs : List Int} (h : ∀ x ∈ xs, x ≠ 0) : ∀ f, bacts t (xs ++ invL xs) f = f := by
  induction xs with
  | nil => intro f; rfl
  | cons x s ih =>
    intro f
    have e : x :: s ++ invL (x :: s) = [x] ++ (s ++ invL s) ++ [-x] := by simp [invL]
    rw [e, bacts_append, bacts_append, ih (fun y hy => h y (by simp [hy]))]
    exact bact_inv ht f (h x (by simp))

set_option maxHeartbeats 4000000 in
set_option maxRecDepth 100000 in
theorem braidHomomorphisms_true {w0 : World} (n : Int) (hn : I64 n) (a : Value) (as1 : List Int) (hra : Ints w0 a as1) (hxa : ∀ x ∈ as1, I64 x) (b : Value) (bs : List Int) (hrb : Ints w0 b bs) (hxb : ∀ x ∈ bs, I64 x)
    (w : World) (hw : w = w0 := by rfl) :
    Calls Try.prog 6 #[.int .i64 n, a, b] w fun e w' => e = .returned (.bool true) ∧ Below w.heap.size w w' := by
  subst hw
  obtain ⟨N, hN⟩ : ∃ N : Nat, 2 + n % (6 - 1) = (N : Int) := ⟨(2 + n % (6 - 1)).toNat, by omega⟩
  have hN1 : 2 ≤ N := by omega
  have hN2 : N ≤ 6 := by omega
  obtain ⟨X, hX⟩ : ∃ X, X = wordL ((N : Int) - 1) as1 8 := ⟨_, rfl⟩
  obtain ⟨Y, hY⟩ : ∃ Y, Y = wordL ((N : Int) - 1) bs 8 := ⟨_, rfl⟩
  have WX : BWord (N : Int) X := by rw [hX]; exact wordL_bw (by omega) as1 8
  have WY : BWord (N : Int) Y := by rw [hY]; exact wordL_bw (by omega) bs 8
  have LX : X.length ≤ 8 := by rw [hX]; exact wordL_length _ as1 8
  have LY : Y.length ≤ 8 := by rw [hY]; exact wordL_length _ bs 8
  have WXY : BWord (N : Int) (X ++ Y) := WX.append WY
  have LXY : (X ++ Y).length ≤ 16 := by simp; omega
  have WI : BWord (N : Int) (invL X) := WX.inv
  have LI : (invL X).length ≤ 8 := by rw [invL_len]; exact LX
  have WXI : BWord (N : Int) (X ++ invL X) := WX.append WI
  have LXI : (X ++ invL X).length ≤ 16 := by simp; omega
  have P1 := strands_perm (n := N) (by omega) X WX.nword
  have P2 := strands_perm (n := N) (by omega) Y WY.nword
  have E1 : backL (strandsL N (X ++ Y)) = thenL (backL (strandsL N X)) (backL (strandsL N Y)) := by
    refine ext_nth (by rw [backL_length, strandsL_length, thenL_length, backL_length, strandsL_length]) fun j hj => ?_
    have hj' : j < N := by rw [backL_length, strandsL_length] at hj; exact hj
    have hr := permB_lt (n := N) (j := j) X (fun x h => (WX.nword x h).2) hj'
    rw [back_strands (by omega) WXY.nword hj', nth_thenL _ _ _ (by rw [backL_length, strandsL_length]; exact hj'), back_strands (by omega) WX.nword hj', Int.toNat_natCast, back_strands (by omega) WY.nword hr, permB_append]
  have E2 : backL (strandsL N (X ++ invL X)) = permL N [] := by
    rw [permL_nil]
    refine ext_nth (by rw [backL_length, strandsL_length, iota_length]) fun j hj => ?_
    have hj' : j < N := by rw [backL_length, strandsL_length] at hj; exact hj
    rw [back_strands (by omega) WXI.nword hj', nth_iota _ _ hj', cancel_perm j (fun x hx => (WX x hx).1)]
  have E3 : burauM N (X ++ invL X) = burauM N [] := burauM_of_acts WXI.nword (fun x hx => by cases hx) fun t ht f k _ => by rw [cancel_acts ht (fun x hx => (WX x hx).1)]; rfl
  have E4 : (burauM N []).length = N := burauM_length _ _
  have b1 := sumL_bound X
  have b2 := sumL_bound Y
  obtain ⟨S, hS⟩ : ∃ S, sumL X = S := ⟨_, rfl⟩
  obtain ⟨T, hT⟩ : ∃ T, sumL Y = T := ⟨_, rfl⟩
  have hST : sumL (X ++ Y) = S + T := by rw [sumL_append, hS, hT]
  rw [hS] at b1
  rw [hT] at b2
  have s1 : -100 ≤ S ∧ S ≤ 100 := by omega
  have s2 : -100 ≤ T ∧ T ≤ 100 := by omega
  obtain ⟨s1, s3⟩ := s1
  obtain ⟨s2, s4⟩ := s2
  have hSS : (S + T == S + T) = true := by simp
  clear b1 b2
  have HW1 := Lib.hid WX; have HW2 := Lib.hid WY; have HW3 := Lib.hid WXY; have HW4 := Lib.hid WI; have HW5 := Lib.hid WXI
  have HL1 := Lib.hid LX; have HL2 := Lib.hid LY; have HL3 := Lib.hid LXY; have HL4 := Lib.hid LI; have HL5 := Lib.hid LXI
  have HE1 := Lib.hid E1; have HE2 := Lib.hid E2; have HE3 := Lib.hid E3; have HE4 := Lib.hid E4; have HP1 := Lib.hid P1; have HP2 := Lib.hid P2
  have HN := Lib.hid hN; have HX0 := Lib.hid hX.symm; have HY0 := Lib.hid hY.symm; have HXA := Lib.hid hxa; have HXB := Lib.hid hxb; have HRA := Lib.hid hra; have HRB := Lib.hid hrb
  have HS := Lib.hid hS; have HT := Lib.hid hT; have HST := Lib.hid hST
  have sa := hra.isSl
  have sb := hrb.isSl
  clear WX WY WXY WI WXI LX LY LXY LI LXI E1 E2 E3 E4 P1 P2 hN hX hY hxa hxb hra hrb hS hT hST
  go_enter Try.func6, Try.ntmps6
  go_wp2_with fail
  refine (strands_calls n 6 _ hn (by decide) (by decide)).mono ?_
  rintro e w' ⟨rfl, rfl⟩
  rw [HN.out]
  go_wp2_with fail
  refine (word_calls ((N : Int) - 1) a as1 8 _ HRA.out HXA.out (by omega) (by omega) (by omega)).mono ?_
  rintro e u1 ⟨x, rfl, hx, hb⟩
  rw [HX0.out] at hx
  have sx := hx.isSl
  have HX := Lib.hid (hx.ints)
  clear HRA
  replace HRB := Lib.hid (HRB.out.below hb)
  have HB := Lib.hid hb
  clear hb
  clear hx
  go_wp2_with fail
  refine (word_calls ((N : Int) - 1) b bs 8 _ HRB.out HXB.out (by omega) (by omega) (by omega)).mono ?_
  rintro e u2 ⟨y, rfl, hy, hb⟩
  rw [HY0.out] at hy
  have sy := hy.isSl
  have HY := Lib.hid (hy.ints)
  clear HRB
  replace HX := Lib.hid (HX.out.below hb)
  replace HB := Lib.hid (Below.chain HB.out hb)
  clear hb
  clear hy
  go_wp2_with fail
  refine (bperm_calls N _ X _ HX.out hN1 hN2 HW1.out (Nat.le_trans HL1.out (by omega))).mono ?_
  rintro e u3 ⟨p, rfl, hp, hb⟩
  have sp := hp.isSl
  have HPP := Lib.hid (hp.ints)
  replace HX := Lib.hid (HX.out.below hb)
  replace HY := Lib.hid (HY.out.below hb)
  replace HB := Lib.hid (Below.chain HB.out hb)
  clear hb
  clear hp
  go_wp2_with fail
  refine (bperm_calls N _ Y _ HY.out hN1 hN2 HW2.out (Nat.le_trans HL2.out (by omega))).mono ?_
  rintro e u4 ⟨q, rfl, hq, hb⟩
  have sq := hq.isSl
  have HQ := Lib.hid (hq.ints)
  replace HX := Lib.hid (HX.out.below hb)
  replace HY := Lib.hid (HY.out.below hb)
  replace HPP := Lib.hid (HPP.out.below hb)
  replace HB := Lib.hid (Below.chain HB.out hb)
  clear hb
  clear hq
  go_wp2_with (refine wpList_rows2 rfl (.tmp 53) (.tmp 54) rfl rfl rfl sx sy ?_)
  refine (concat_calls _ _ [X, Y] _ (rowsV_2 HX.out HY.out) (by have := HL3.out; simpa using Nat.le_trans this (by omega))).mono ?_
  rintro e u5 ⟨xy, rfl, hxy, hb⟩
  replace hb := Below.chain ((Below.refl _ _).alloc (Nat.le_refl _) _) hb
  simp only [List.flatten_cons, List.flatten_nil, List.append_nil] at hxy
  have sxy := hxy.isSl
  have HXY := Lib.hid (hxy.ints)
  replace HX := Lib.hid (HX.out.below hb)
  replace HY := Lib.hid (HY.out.below hb)
  replace HPP := Lib.hid (HPP.out.below hb)
  replace HQ := Lib.hid (HQ.out.below hb)
  replace HB := Lib.hid (Below.chain HB.out hb)
  clear hb
  clear hxy
  go_wp2_with fail
  refine (bperm_calls N _ (X ++ Y) _ HXY.out hN1 hN2 HW3.out (Nat.le_trans HL3.out (by omega))).mono ?_
  rintro e u6 ⟨r, rfl, hr, hb⟩
  have sr := hr.isSl
  have HR := Lib.hid (hr.ints)
  clear HXY
  replace HX := Lib.hid (HX.out.below hb)
  replace HY := Lib.hid (HY.out.below hb)
  replace HPP := Lib.hid (HPP.out.below hb)
  replace HQ := Lib.hid (HQ.out.below hb)
  replace HB := Lib.hid (Below.chain HB.out hb)
  clear hb
  clear hr
  go_wp2_with fail
  refine (bexp_calls N _ X _ HX.out (by omega) (by omega) HW1.out (Nat.le_trans HL1.out (by omega))).mono ?_
  rw [HS.out]
  rintro e u7 ⟨rfl, hb⟩
  replace HX := Lib.hid (HX.out.below hb)
  replace HY := Lib.hid (HY.out.below hb)
  replace HPP := Lib.hid (HPP.out.below hb)
  replace HQ := Lib.hid (HQ.out.below hb)
  replace HR := Lib.hid (HR.out.below hb)
  replace HB := Lib.hid (Below.chain HB.out hb)
  clear hb
  go_wp2_with fail
  refine (bexp_calls N _ Y _ HY.out (by omega) (by omega) HW2.out (Nat.le_trans HL2.out (by omega))).mono ?_
  rw [HT.out]
  rintro e u8 ⟨rfl, hb⟩
  replace HX := Lib.hid (HX.out.below hb)
  replace HY := Lib.hid (HY.out.below hb)
  replace HPP := Lib.hid (HPP.out.below hb)
  replace HQ := Lib.hid (HQ.out.below hb)
  replace HR := Lib.hid (HR.out.below hb)
  replace HB := Lib.hid (Below.chain HB.out hb)
  clear hb
  go_wp2_with (refine wpList_rows2 rfl (.tmp 74) (.tmp 75) rfl rfl rfl sx sy ?_)
  refine (concat_calls _ _ [X, Y] _ (rowsV_2 HX.out HY.out) (by have := HL3.out; simpa using Nat.le_trans this (by omega))).mono ?_
  rintro e u9 ⟨xz, rfl, hxz, hb⟩
  replace hb := Below.chain ((Below.refl _ _).alloc (Nat.le_refl _) _) hb
  simp only [List.flatten_cons, List.flatten_nil, List.append_nil] at hxz
  have sxz := hxz.isSl
  have HXZ := Lib.hid (hxz.ints)
  replace HX := Lib.hid (HX.out.below hb)
  replace HY := Lib.hid (HY.out.below hb)
  replace HPP := Lib.hid (HPP.out.below hb)
  replace HQ := Lib.hid (HQ.out.below hb)
  replace HR := Lib.hid (HR.out.below hb)
  replace HB := Lib.hid (Below.chain HB.out hb)
  clear hb
  clear hxz
  go_wp2_with fail
  refine (bexp_calls N _ (X ++ Y) _ HXZ.out (by omega) (by omega) HW3.out (Nat.le_trans HL3.out (by omega))).mono ?_
  rw [HST.out]
  rintro e u10 ⟨rfl, hb⟩
  clear HXZ
  clear HY
  replace HX := Lib.hid (HX.out.below hb)
  replace HPP := Lib.hid (HPP.out.below hb)
  replace HQ := Lib.hid (HQ.out.below hb)
  replace HR := Lib.hid (HR.out.below hb)
  replace HB := Lib.hid (Below.chain HB.out hb)
  clear hb
  go_wp2_with fail
  refine (binverse_calls N _ X _ HX.out (by omega) (by omega) HW1.out (Nat.le_trans HL1.out (by omega))).mono ?_
  rintro e u11 ⟨i, rfl, hi, hb⟩
  have si := hi.isSl
  have HI := Lib.hid (hi.ints)
  replace HX := Lib.hid (HX.out.below hb)
  replace HPP := Lib.hid (HPP.out.below hb)
  replace HQ := Lib.hid (HQ.out.below hb)
  replace HR := Lib.hid (HR.out.below hb)
  replace HB := Lib.hid (Below.chain HB.out hb)
  clear hb
  clear hi
  go_wp2_with (refine wpList_rows2 rfl (.tmp 89) (.tmp 90) rfl rfl rfl sx si ?_)
  refine (concat_calls _ _ [X, invL X] _ (rowsV_2 HX.out HI.out) (by have := HL5.out; simpa using Nat.le_trans this (by omega))).mono ?_
  rintro e u12 ⟨xi, rfl, hxi, hb⟩
  replace hb := Below.chain ((Below.refl _ _).alloc (Nat.le_refl _) _) hb
  simp only [List.flatten_cons, List.flatten_nil, List.append_nil] at hxi
  have sxi := hxi.isSl
  have HXI := Lib.hid (hxi.ints)
  replace HX := Lib.hid (HX.out.below hb)
  replace HPP := Lib.hid (HPP.out.below hb)
  replace HQ := Lib.hid (HQ.out.below hb)
  replace HR := Lib.hid (HR.out.below hb)
  replace HI := Lib.hid (HI.out.below hb)
  replace HB := Lib.hid (Below.chain HB.out hb)
  clear hb
  clear hxi
  go_wp2_with fail
  refine (bperm_calls N _ (X ++ invL X) _ HXI.out hN1 hN2 HW5.out (Nat.le_trans HL5.out (by omega))).mono ?_
  rintro e u13 ⟨o, rfl, ho, hb⟩
  have so := ho.isSl
  have HO := Lib.hid (ho.ints)
  clear HXI
  replace HX := Lib.hid (HX.out.below hb)
  replace HPP := Lib.hid (HPP.out.below hb)
  replace HQ := Lib.hid (HQ.out.below hb)
  replace HR := Lib.hid (HR.out.below hb)
  replace HI := Lib.hid (HI.out.below hb)
  replace HB := Lib.hid (Below.chain HB.out hb)
  clear hb
  clear ho
  go_wp2_with (refine wpList_rows2 rfl (.tmp 98) (.tmp 99) rfl rfl rfl sx si ?_)
  refine (concat_calls _ _ [X, invL X] _ (rowsV_2 HX.out HI.out) (by have := HL5.out; simpa using Nat.le_trans this (by omega))).mono ?_
  rintro e u14 ⟨xj, rfl, hxj, hb⟩
  replace hb := Below.chain ((Below.refl _ _).alloc (Nat.le_refl _) _) hb
  simp only [List.flatten_cons, List.flatten_nil, List.append_nil] at hxj
  have sxj := hxj.isSl
  have HXJ := Lib.hid (hxj.ints)
  replace HX := Lib.hid (HX.out.below hb)
  replace HPP := Lib.hid (HPP.out.below hb)
  replace HQ := Lib.hid (HQ.out.below hb)
  replace HR := Lib.hid (HR.out.below hb)
  replace HI := Lib.hid (HI.out.below hb)
  replace HO := Lib.hid (HO.out.below hb)
  replace HB := Lib.hid (Below.chain HB.out hb)
  clear hb
  clear hxj
  go_wp2_with fail
  refine (burau_calls N _ (X ++ invL X) _ HXJ.out (by omega) hN2 HW5.out HL5.out).mono ?_
  rintro e u15 ⟨m, ms, rfl, hm, hml, hb⟩
  rw [HE3.out] at hm
  have sm := hm.isSl
  have HM := Lib.hid (hm.mread (hml.trans HE4.out.symm))
  clear HXJ
  clear HX
  clear HI
  replace HPP := Lib.hid (HPP.out.below hb)
  replace HQ := Lib.hid (HQ.out.below hb)
  replace HR := Lib.hid (HR.out.below hb)
  replace HO := Lib.hid (HO.out.below hb)
  replace HB := Lib.hid (Below.chain HB.out hb)
  clear hb
  clear hm hml
  go_wp2_with fail
  refine (burau_calls N _ [] _ (ints_nil _) (by omega) hN2 (fun x hx => by cases hx) (by simp)).mono ?_
  rintro e u16 ⟨c, cs, rfl, hc, hcl, hb⟩
  have sc := hc.isSl
  have HC := Lib.hid (hc.mread (hcl.trans HE4.out.symm))
  replace HPP := Lib.hid (HPP.out.below hb)
  replace HQ := Lib.hid (HQ.out.below hb)
  replace HR := Lib.hid (HR.out.below hb)
  replace HO := Lib.hid (HO.out.below hb)
  replace HM := Lib.hid (HM.out.below hb)
  replace HB := Lib.hid (Below.chain HB.out hb)
  clear hb
  clear hc hcl
  go_wp2_with fail
  refine (braided_calls _).mono ?_
  rintro e u17 ⟨rfl, hb⟩
  replace HPP := Lib.hid (HPP.out.below hb)
  replace HQ := Lib.hid (HQ.out.below hb)
  replace HR := Lib.hid (HR.out.below hb)
  replace HO := Lib.hid (HO.out.below hb)
  replace HM := Lib.hid (HM.out.below hb)
  replace HC := Lib.hid (HC.out.below hb)
  replace HB := Lib.hid (Below.chain HB.out hb)
  clear hb
  go_wp2_with fail
  refine (composeK_calls _ _ (backL (strandsL N X)) (backL (strandsL N Y)) _ HPP.out HQ.out HP1.out.back HP2.out.back (by simp [backL_length, strandsL_length]) (by simp [backL_length, strandsL_length]; omega)).mono ?_
  rintro e u18 ⟨d, rfl, hd, hb⟩
  have sd := hd.isSl
  have HD := Lib.hid (hd)
  clear HPP
  clear HQ
  replace HR := Lib.hid (HR.out.below hb)
  replace HO := Lib.hid (HO.out.below hb)
  replace HM := Lib.hid (HM.out.below hb)
  replace HC := Lib.hid (HC.out.below hb)
  replace HB := Lib.hid (Below.chain HB.out hb)
  clear hb
  clear hd
  go_wp2_with fail
  refine (equal_yes _ _ _ _ _ HR.out HD.out HE1.out).mono ?_
  rintro e u19 ⟨rfl, hb⟩
  clear HR
  clear HD
  replace HO := Lib.hid (HO.out.below hb)
  replace HM := Lib.hid (HM.out.below hb)
  replace HC := Lib.hid (HC.out.below hb)
  replace HB := Lib.hid (Below.chain HB.out hb)
  clear hb
  go_wp2_with fail
  refine (perm_calls N _ [] _ (ints_nil _) (by omega) (fun x hx => by cases hx)).mono ?_
  rintro e u20 ⟨f, rfl, hf, hb⟩
  have sf := hf.isSl
  have HF := Lib.hid (hf.ints)
  replace HO := Lib.hid (HO.out.below hb)
  replace HM := Lib.hid (HM.out.below hb)
  replace HC := Lib.hid (HC.out.below hb)
  replace HB := Lib.hid (Below.chain HB.out hb)
  clear hb
  clear hf
  go_wp2_with fail
  refine (equal_yes _ _ _ _ _ HO.out HF.out HE2.out).mono ?_
  rintro e u21 ⟨rfl, hb⟩
  clear HO
  clear HF
  replace HM := Lib.hid (HM.out.below hb)
  replace HC := Lib.hid (HC.out.below hb)
  replace HB := Lib.hid (Below.chain HB.out hb)
  clear hb
  go_wp2_with fail
  refine (matrices_yes _ _ _ _ _ _ HM.out HC.out).mono ?_
  rintro e u22 ⟨rfl, hb⟩
  replace HM := Lib.hid (HM.out.below hb)
  replace HC := Lib.hid (HC.out.below hb)
  replace HB := Lib.hid (Below.chain HB.out hb)
  clear hb
  go_wp2_with fail
  go_ret
  exact ⟨rfl, HB.out⟩

end Go.Proofs.Ytdmogoeafjpphaa
