/- ArtinFixes: for every input the statement returns true, and nothing that was there has changed. -/
import Derived.Test.YtkimbhmijgfhnaaBPerm
import Derived.Test.YtkimbhmijgfhnaaArtinRel
import Derived.Test.YtkimbhmijgfhnaaConjugate
namespace Go.Proofs.Ytkimbhmijgfhnaa
open Go.RowKit Go.Sl
attribute [local go_sem] Oper.semAt_some

theorem Cj.rt {r : List Int} {m : Nat} (h : Cj r m) : Rt (coreL (redL r)) (coreL (redL [(m : Int) + 1])) := by
  obtain ⟨y, hy, rfl⟩ := h
  rw [redL_redL]
  exact (conj_core y [(m : Int) + 1] (fun z hz => (hy z hz).1) (fun z hz => by simp at hz; omega)).symm
theorem redL_take {X : List (List Int)} {k : Nat} (h : k < X.length) : redL (redL (X.take k).flatten ++ nthr X k) = redL (X.take (k + 1)).flatten := by
  rw [List.take_succ_eq_append_getElem h, List.flatten_append, nthr_lt h]
  refine redL_eq ?_
  rw [act_append, act_redL rd_nil]
  simp [act_append]
theorem gens_snoc (k : Nat) : (gensA (k + 1)).flatten = (gensA k).flatten ++ [(k : Int) + 1] := by rw [gensA_succ, List.flatten_append]; simp
theorem gens_flen (k : Nat) : (gensA k).flatten.length = k := by
  induction k with
  | zero => rfl
  | succ k ih => rw [gens_snoc, List.length_append, ih]; rfl

set_option maxHeartbeats 4000000 in
set_option maxRecDepth 100000 in
theorem artinFixes_true {w0 : World} (n : Int) (hn : I64 n) (a : Value) (as1 : List Int) (hra : Ints w0 a as1) (hxa : ∀ x ∈ as1, I64 x)
    (w : World) (hw : w = w0 := by rfl) :
    Calls Try.prog 13 #[.int .i64 n, a] w fun e w' => e = .returned (.bool true) ∧ Below w.heap.size w w' := by
  subst hw
  obtain ⟨N, hN⟩ : ∃ N : Nat, 2 + n % (6 - 1) = (N : Int) := ⟨(2 + n % (6 - 1)).toNat, by omega⟩
  have hN1 : 2 ≤ N := by omega
  have hN2 : N ≤ 6 := by omega
  obtain ⟨X, hX⟩ : ∃ X, X = wordL ((N : Int) - 1) as1 5 := ⟨_, rfl⟩
  have WX : BWord (N : Int) X := hX ▸ wordL_bw (by omega) as1 5
  have LX : X.length ≤ 5 := hX ▸ wordL_length _ as1 5
  have WA : ∀ x ∈ X, x ≠ 0 ∧ x.natAbs < N := fun x h => by have := WX x h; omega
  obtain ⟨G, hG⟩ : ∃ G, G = imagesA N X := ⟨_, rfl⟩
  have GL : G.length = N := by rw [hG, imagesA_len]
  have GC : ∀ j, j < N → Cj (nthr G j) (permB X j) := fun j hj => by rw [hG]; exact images_cj hN2 X WA j hj
  have GW : ∀ j, j < N → IsWord (nthr G j) := fun j hj => (GC j hj).word (Nat.lt_of_lt_of_le (permB_lt X (fun x h => (WA x h).2) hj) hN2)
  have GF : redL G.flatten = (gensA N).flatten := by rw [hG, images_flat X WA, gens_flat N hN2]
  have GT : ∀ k, k ≤ N → IsWord (redL (G.take k).flatten) := fun k hk => by
    refine IsWord.red fun x hx => ?_
    obtain ⟨r, hr, hxr⟩ := List.mem_flatten.1 hx
    obtain ⟨j, hj, rfl⟩ := List.mem_iff_getElem.1 (List.mem_of_mem_take hr)
    have := GW j (by omega)
    rw [nthr_lt hj] at this
    exact this x hxr
  have HW := Lib.hid WX; have HL := Lib.hid LX; have HWA := Lib.hid WA; have HGL := Lib.hid GL; have HGC := Lib.hid GC; have HGW := Lib.hid GW; have HGF := Lib.hid GF; have HGT := Lib.hid GT
  have HN := Lib.hid hN; have HX := Lib.hid hX.symm; have HG := Lib.hid hG.symm; have HXA := Lib.hid hxa; have HRA := Lib.hid hra
  have sa := hra.isSl
  clear WX LX WA GL GC GW GF GT hN hX hG hxa hra
  go_enter Try.func13, Try.ntmps13
  go_wp2_with fail
  refine (strands_calls n 6 _ hn (by decide) (by decide)).mono ?_
  rintro e w' ⟨rfl, rfl⟩
  rw [HN.out]
  go_wp2_with fail
  refine (word_calls ((N : Int) - 1) a as1 5 _ HRA.out HXA.out (by omega) (by omega) (by decide)).mono ?_
  rintro e w1 ⟨x, rfl, hx, hb1⟩
  rw [HX.out] at hx
  have sx := hx.isSl
  obtain ⟨x1, x2, x3, rfl, -⟩ := sx.cases
  have HXI := Lib.hid hx.ints; have HB1 := Lib.hid hb1
  clear hx hb1
  go_wp2_with fail
  refine (images_calls' N _ X _ HXI.out hN1 hN2 HW.out (Nat.le_trans HL.out (by omega))).mono ?_
  rintro e w2 ⟨u, er1, rfl, su, ⟨rfl, h⟩ | ⟨rfl, us, hu⟩, hb2⟩
  · exact (not_long HL.out h).elim
  rw [HG.out] at hu
  obtain ⟨u1, u2, u3, rfl, -⟩ := su.cases
  have lu := hu.len
  rw [HGL.out] at lu
  have HU := Lib.hid hu; have HB2 := Lib.hid hb2; have HB02 := Lib.hid (Below.chain HB1.out hb2)
  clear hu hb2
  go_wp2_with fail
  refine (bperm_calls N _ X _ (HXI.out.below HB2.out) hN1 hN2 HW.out (Nat.le_trans HL.out (by omega))).mono ?_
  rintro e w3 ⟨p, rfl, hp, hb3⟩
  have sp := hp.isSl
  have lp := hp.ints.len
  rw [backL_length, strandsL_length] at lp
  obtain ⟨p1, p2, p3, rfl, -⟩ := sp.cases
  have HP := Lib.hid hp.ints; have HB3 := Lib.hid hb3; have HB03 := Lib.hid (Below.chain HB02.out hb3)
  clear hp hb3
  go_wp2_with fail
  refine (imaged_calls _).mono ?_
  rintro e w4 ⟨rfl, hb4⟩
  have HB4 := Lib.hid hb4; have HB04 := Lib.hid (Below.chain HB03.out hb4); have HB24 := Lib.hid (Below.chain HB3.out hb4)
  have HU4 := Lib.hid (HU.out.below HB24.out); have HP4 := Lib.hid (HP.out.below hb4)
  clear hb4
  go_wp2_with fail
  go_loopw [10, 11, 54] (fun al wt i wr => ∃ k : Nat, k ≤ N ∧ i = .int .i64 k ∧ Ints wr al (redL (G.take k).flatten) ∧ (redL (G.take k).flatten).length ≤ 60 ∧ OwnI wr w4.heap.size wt (gensA k).flatten ∧ Below w4.heap.size w4 wr) (fun _ _ i _ => N - (intOf i).toNat)
  case atStart => exact ⟨0, Nat.zero_le _, rfl, ints_nil _, by simp [redL, act], ownI_nil _ _, Below.refl _ _⟩
  case round =>
    obtain ⟨k, hk, rfl, hal, hall, hwt, hbr⟩ := hrel
    have sal := hal.isSl
    have swt := hwt.isSl
    have lal := hal.len
    have hbs := hbr.size
    have HAL := Lib.hid hal; have HALL := Lib.hid hall; have HWT := Lib.hid hwt; have HBR := Lib.hid hbr
    clear hal hall hwt hbr
    by_cases hlt : k < N
    · have hkG : k < G.length := by rw [HGL.out]; exact hlt
      have hur := HU4.out.below HBR.out
      have c1 := hur.cell hkG
      have r1 := hur.row hkG
      have s1 := r1.isSl
      have l1 := r1.len
      obtain ⟨len, hlen⟩ : ∃ len, (nthr G k).length = len := ⟨_, rfl⟩
      rw [hlen] at l1
      have hl63 := s1.i63
      rw [l1] at hl63
      obtain ⟨q, hq⟩ : ∃ q, nthv us k = q := ⟨_, rfl⟩
      rw [hq] at c1 r1 s1 l1
      have HR1 := Lib.hid r1; have HLEN := Lib.hid hlen; have HQ := Lib.hid hq
      clear r1 hur hlen hq
      obtain ⟨q1, q2, q3, rfl, -⟩ := s1.cases
      by_cases hbig : len ≤ 60
      · have hln : (nthr G k).length ≤ 60 := by rw [HLEN.out]; exact hbig
        have HLN := Lib.hid hln; clear hln
        go_wp2_with fail
        refine (fproduct_any _ _ _ _ _ HAL.out HR1.out (HGT.out k hk) (HGW.out k hlt) HALL.out HLN.out).mono ?_
        rintro e w5 ⟨v, er, rfl, sv, rfl | ⟨rfl, hvl, hv⟩, hb5⟩
        · have HB5 := Lib.hid (Below.chain HBR.out hb5); clear hb5
          obtain ⟨v1, v2, v3, rfl, -⟩ := sv.cases
          go_wp2_with fail
          go_ret
          exact ⟨rfl, Below.chain HB04.out HB5.out⟩
        · rw [redL_take hkG] at hvl hv
          have HV := Lib.hid hv; have HVL := Lib.hid hvl; have HBR5 := Lib.hid hb5; have HB5 := Lib.hid (Below.chain HBR.out hb5)
          have hwt5 := HWT.out.below hb5
          have hbs5 := HB5.out.size
          have hwl := gens_flen k
          have HWT5 := Lib.hid hwt5; have HWL := Lib.hid (show (gensA k).flatten.length ≤ 1000000000000 by omega)
          clear hv hvl hb5 hwt5 hwl
          obtain ⟨v1, v2, v3, rfl, -⟩ := sv.cases
          obtain ⟨m, hm⟩ : ∃ m, permB X k = m := ⟨_, rfl⟩
          have hpk : nth (backL (strandsL N X)) k = (m : Int) := by rw [← hm]; exact back_strands (by omega) HWA.out hlt
          have hmb : m < 6 := by rw [← hm]; exact Nat.lt_of_lt_of_le (permB_lt X (fun x h => (HWA.out x h).2) hlt) hN2
          have HM := Lib.hid hm; have HPK := Lib.hid hpk; clear hm hpk
          go_wp2_with (at_builtin; refine wpList_push (v := u11) rfl _ _ rfl rfl rfl HWT5.out hbs5 HWL.out ?_; intro wt2 w6 hw6 hg6 hr6; have sw2 := hw6.isSl; have hb6 := Below_of_grown HB5.out hg6 hbs5 (fun b hb => (HWT5.out.lt b hb).1); have hv6 := HV.out.ints.keep hg6 (fun h0 e => by have q1 := (HWT.out.lt _ e).2; have q2 := (HV.out.lt _ (row_some (by have := HV.out.ints.cap; omega))).1; omega); have c6 := (HP4.out.below hb6).cell (k := k) (by rw [backL_length, strandsL_length]; exact hlt); rw [HPK.out] at c6)
          have r6 := (HU4.out.row hkG).below hb6
          rw [HQ.out] at r6
          have hcj := HGC.out k hlt
          rw [HM.out] at hcj
          have HCJ := Lib.hid hcj; have HW6 := Lib.hid hw6; have HB6 := Lib.hid hb6
          have HV6 := Lib.hid hv6
          clear hcj hw6 hb6 hv6 hg6 hr6
          refine (conjugateF_calls _ _ (nthr G k) [(m : Int) + 1] _ (r6.alloc _) (ints_lit [(m : Int) + 1] rfl rfl rfl (by simp)) (HGW.out k hlt) (fun z hz => by simp at hz; omega) HLN.out (by simp)).mono ?_
          rintro e w7 ⟨t, rfl, ht, hb7⟩
          obtain rfl : t = true := ht.2 HCJ.out.rt
          have hb67 : Below w6.heap.size w6 w7 := Below.chain ((Below.refl _ _).alloc (Nat.le_refl _) _) hb7
          clear ht hb7 r6
          have HB67 := Lib.hid hb67; clear hb67
          go_wp2_with fail
          have HB7 := Lib.hid (Below.chain HB6.out HB67.out)
          have hw7 := HW6.out.below HB67.out
          rw [← gens_snoc] at hw7
          refine ⟨⟨k + 1, by omega, by go_num, HV6.out.below HB67.out, HVL.out, hw7, HB7.out⟩, ?_⟩
          simp [intOf]; omega
      · go_wp2_with fail
        go_ret
        exact ⟨rfl, Below.chain HB04.out HBR.out⟩
    · obtain rfl : k = N := by omega
      have he : redL (G.take k).flatten = (gensA k).flatten := by rw [List.take_of_length_le (by rw [HGL.out]; exact Nat.le_refl _)]; exact HGF.out
      have HE := Lib.hid he; clear he
      go_wp2_with fail
      refine (equal_calls _ _ _ _ _ HAL.out HWT.out.ints).mono ?_
      rintro e w5 ⟨rfl, hb5⟩
      rw [decide_eq_true HE.out]
      have HB5 := Lib.hid (Below.chain HBR.out hb5); clear hb5
      go_wp2_with fail
      go_ret
      exact ⟨rfl, Below.chain HB04.out HB5.out⟩
end Go.Proofs.Ytkimbhmijgfhnaa
