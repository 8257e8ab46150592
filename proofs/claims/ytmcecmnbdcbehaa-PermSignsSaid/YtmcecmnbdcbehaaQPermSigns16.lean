/- PermSigns: for every input the statement returns true, and nothing that was there has changed. -/
import Derived.Test.YtmcecmnbdcbehaaQPermSigns0
import Derived.Test.YtmcecmnbdcbehaaQPermSigns1
import Derived.Test.YtmcecmnbdcbehaaQPermSigns2
import Derived.Test.YtmcecmnbdcbehaaQPermSigns3
import Derived.Test.YtmcecmnbdcbehaaQPermSigns4
import Derived.Test.YtmcecmnbdcbehaaQPermSigns5
import Derived.Test.YtmcecmnbdcbehaaQPermSigns6
import Derived.Test.YtmcecmnbdcbehaaQPermSigns7
import Derived.Test.YtmcecmnbdcbehaaQPermSigns8
import Derived.Test.YtmcecmnbdcbehaaQPermSigns9
import Derived.Test.YtmcecmnbdcbehaaQPermSigns10
import Derived.Test.YtmcecmnbdcbehaaQPermSigns11
import Derived.Test.YtmcecmnbdcbehaaQPermSigns12
import Derived.Test.YtmcecmnbdcbehaaQPermSigns13
import Derived.Test.YtmcecmnbdcbehaaQPermSigns14
import Derived.Test.YtmcecmnbdcbehaaQPermSigns15

namespace Go.Proofs.Ytmcecmnbdcbehaa
open Go.RowKit Go.Sl

def intsOf (L : List Nat) : List Int := L.map Int.ofNat
theorem intsOf_snoc {L : List Nat} {k : Nat} (h : k < L.length) : intsOf (L.take (k + 1)) = intsOf (L.take k) ++ [((L[k] : Nat) : Int)] := by
  unfold intsOf; rw [List.take_succ_eq_append_getElem h, List.map_append]; rfl
set_option maxHeartbeats 4000000 in
set_option maxRecDepth 100000 in
theorem permSigns_true {w0 : World} (n : Int) (hn : I64 n) (a : Value) (as1 : List Int) (hra : Ints w0 a as1) (hxa : ∀ x ∈ as1, I64 x) (b : Value) (bs : List Int) (hrb : Ints w0 b bs) (hxb : ∀ x ∈ bs, I64 x) (w : World) (hw : w = w0 := by rfl) :
    Calls Try.prog 9 #[.int .i64 n, a, b] w fun e w' => e = .returned (.bool true) ∧ Below w.heap.size w w' := by
  subst hw
  obtain ⟨m, hm⟩ : ∃ m : Nat, n % 10 = (m : Int) := ⟨(n % 10).toNat, by omega⟩
  have hm10 : m ≤ 9 := by omega
  have HM := Lib.hid hm; clear hm
  obtain ⟨X, hX⟩ : ∃ X, X = permL m as1 := ⟨_, rfl⟩
  obtain ⟨Y, hY⟩ : ∃ Y, Y = permL m bs := ⟨_, rfl⟩
  have px : IsPerm X := by rw [hX]; exact permL_isPerm as1 (by omega)
  have py : IsPerm Y := by rw [hY]; exact permL_isPerm bs (by omega)
  have lx : X.length = m := by rw [hX]; exact permL_length _ _
  have ly : Y.length = m := by rw [hY]; exact permL_length _ _
  have pxy : IsPerm (thenL X Y) := px.then py (by omega)
  have lxy : (thenL X Y).length = m := by rw [thenL_length, lx]
  have pi : IsPerm (backL Y) := py.back
  have li : (backL Y).length = m := by rw [backL_length, ly]
  have pix : IsPerm (thenL (backL Y) X) := pi.then px (by omega)
  have lix : (thenL (backL Y) X).length = m := by rw [thenL_length, li]
  have pc : IsPerm (thenL (thenL (backL Y) X) Y) := pix.then py (by omega)
  have lc : (thenL (thenL (backL Y) X) Y).length = m := by rw [thenL_length, lix]
  have HPX := Lib.hid px; have HPY := Lib.hid py; have HLX := Lib.hid lx; have HLY := Lib.hid ly; have HPXY := Lib.hid pxy; have HLXY := Lib.hid lxy; have HPI := Lib.hid pi; have HLI := Lib.hid li; have HPIX := Lib.hid pix; have HLIX := Lib.hid lix; have HPC := Lib.hid pc; have HLC := Lib.hid lc
  have HX0 := Lib.hid hX.symm; have HY0 := Lib.hid hY.symm
  have HXA := Lib.hid hxa; have HXB := Lib.hid hxb; have HRA := Lib.hid hra; have HRB := Lib.hid hrb
  have sa := hra.isSl; have sb := hrb.isSl
  clear px py lx ly pxy lxy pi li pix lix pc lc hX hY hxa hxb hra hrb
  go_enter Try.func9, Try.ntmps9
  go_wp2_with fail
  refine (below_nat n 10 m _ (by omega) (by omega) hn HM.out).mono ?_
  rintro e w' ⟨rfl, rfl⟩
  go_wp2_with fail
  refine (perm_calls m a as1 _ HRA.out (by omega) HXA.out).mono ?_
  rintro e u1 ⟨x, rfl, hx, hb⟩
  rw [HX0.out] at hx
  have sx := hx.isSl
  have HX := Lib.hid (hx.ints)
  clear HRA
  replace HRB := Lib.hid (HRB.out.below hb)
  have HB := Lib.hid hb
  clear hb
  clear hx
  go_wp2_with fail
  refine (perm_calls m b bs _ HRB.out (by omega) HXB.out).mono ?_
  rintro e u2 ⟨y, rfl, hy, hb⟩
  rw [HY0.out] at hy
  have sy := hy.isSl
  have HY := Lib.hid (hy.ints)
  clear HRB
  replace HX := Lib.hid (HX.out.below hb)
  replace HB := Lib.hid (Below.chain HB.out hb)
  clear hb
  clear hy
  go_wp2_with fail
  refine (sign_calls x X _ HX.out HPX.out (by rw [HLX.out]; exact hm10)).mono ?_
  rintro e u3 ⟨⟨L1, hc1, rfl⟩, hb⟩
  have HC1 := Lib.hid hc1; clear hc1
  replace HX := Lib.hid (HX.out.below hb)
  replace HY := Lib.hid (HY.out.below hb)
  replace HB := Lib.hid (Below.chain HB.out hb)
  clear hb
  go_wp2_with fail
  refine (sign_calls y Y _ HY.out HPY.out (by rw [HLY.out]; exact hm10)).mono ?_
  rintro e u4 ⟨⟨L2, hc2, rfl⟩, hb⟩
  have HC2 := Lib.hid hc2; clear hc2
  replace HX := Lib.hid (HX.out.below hb)
  replace HY := Lib.hid (HY.out.below hb)
  replace HB := Lib.hid (Below.chain HB.out hb)
  clear hb
  go_wp2_with fail
  refine (composeK_calls x y X Y _ HX.out HY.out HPX.out HPY.out (by rw [HLX.out, HLY.out]) (by rw [HLX.out]; exact hm10)).mono ?_
  rintro e u5 ⟨z, rfl, hz, hb⟩
  have sz := hz.isSl
  have HZ := Lib.hid (hz)
  replace HX := Lib.hid (HX.out.below hb)
  replace HY := Lib.hid (HY.out.below hb)
  replace HB := Lib.hid (Below.chain HB.out hb)
  clear hb
  clear hz
  go_wp2_with fail
  refine (sign_calls z (thenL X Y) _ HZ.out HPXY.out (by rw [HLXY.out]; exact hm10)).mono ?_
  rintro e u6 ⟨⟨L3, hc3, rfl⟩, hb⟩
  have HC3 := Lib.hid hc3; clear hc3
  clear HZ
  replace HX := Lib.hid (HX.out.below hb)
  replace HY := Lib.hid (HY.out.below hb)
  replace HB := Lib.hid (Below.chain HB.out hb)
  clear hb
  have hsl := sign_law HPX.out HPY.out (by rw [HLX.out, HLY.out]) HC1.out HC2.out HC3.out
  rw [HLX.out, HLY.out] at hsl
  obtain ⟨S, hS⟩ : ∃ S, sgnOf X.length L1.length = S := ⟨_, rfl⟩
  obtain ⟨T, hT⟩ : ∃ T, sgnOf Y.length L2.length = T := ⟨_, rfl⟩
  obtain ⟨U, hU⟩ : ∃ U, sgnOf (thenL X Y).length L3.length = U := ⟨_, rfl⟩
  rw [hS, hT, hU]
  have hS1 : S = 1 ∨ S = -1 := by rw [← hS]; unfold sgnOf; split <;> simp
  have hT1 : T = 1 ∨ T = -1 := by rw [← hT]; unfold sgnOf; split <;> simp
  have hUST : U = S * T := by
    rw [HLX.out] at hS; rw [HLY.out] at hT; rw [HLXY.out] at hU
    rw [← hS, ← hT, ← hU]; exact hsl
  clear hsl hS hT hU
  have q1 : IntKind.i64.wrap (S * S) = 1 := by rcases hS1 with rfl | rfl <;> decide
  have q2 : U = wrap64 (S * T) := by rw [hUST]; unfold wrap64; rcases hS1 with rfl | rfl <;> rcases hT1 with rfl | rfl <;> decide
  clear hUST hS1 hT1
  go_wp2_with fail
  refine (inverse_calls y Y _ HY.out HPY.out (by rw [HLY.out]; exact hm10)).mono ?_
  rintro e u7 ⟨i, rfl, hi, hb⟩
  have si := hi.isSl
  have HI := Lib.hid (hi.ints)
  replace HX := Lib.hid (HX.out.below hb)
  replace HY := Lib.hid (HY.out.below hb)
  replace HB := Lib.hid (Below.chain HB.out hb)
  clear hb
  clear hi
  go_wp2_with fail
  refine (pcycles_calls x X _ HX.out HPX.out (by rw [HLX.out]; exact hm10)).mono ?_
  rintro e u8 ⟨M1, k, ks, rfl, hm1, hk, hks, hkm, hb⟩
  have sk := hk.isSl
  have lk : vlen k = ks.length := by have := hk.2.1; omega
  have HM1 := Lib.hid hm1; have HKS := Lib.hid hks; have HKM := Lib.hid hkm; clear hm1 hks hkm
  have HK := Lib.hid (hk)
  replace HX := Lib.hid (HX.out.below hb)
  replace HY := Lib.hid (HY.out.below hb)
  replace HI := Lib.hid (HI.out.below hb)
  replace HB := Lib.hid (Below.chain HB.out hb)
  clear hb
  clear hk
  go_wp2_with fail
  refine (composeK_calls i x (backL Y) X _ HI.out HX.out HPI.out HPX.out (by rw [HLI.out, HLX.out]) (by rw [HLI.out]; exact hm10)).mono ?_
  rintro e u9 ⟨ix, rfl, hix, hb⟩
  have six := hix.isSl
  have HIX := Lib.hid (hix)
  clear HI
  clear HX
  replace HY := Lib.hid (HY.out.below hb)
  replace HK := Lib.hid (HK.out.below hb)
  replace HB := Lib.hid (Below.chain HB.out hb)
  clear hb
  clear hix
  go_wp2_with fail
  refine (composeK_calls ix y (thenL (backL Y) X) Y _ HIX.out HY.out HPIX.out HPY.out (by rw [HLIX.out, HLY.out]) (by rw [HLIX.out]; exact hm10)).mono ?_
  rintro e u10 ⟨c, rfl, hc, hb⟩
  have sc := hc.isSl
  have HC := Lib.hid (hc)
  clear HIX
  clear HY
  replace HK := Lib.hid (HK.out.below hb)
  replace HB := Lib.hid (Below.chain HB.out hb)
  clear hb
  clear hc
  go_wp2_with fail
  refine (pcycles_calls c (thenL (thenL (backL Y) X) Y) _ HC.out HPC.out (by rw [HLC.out]; exact hm10)).mono ?_
  rintro e u11 ⟨M2, l, ls, rfl, hm2, hl, hls, hlm, hb⟩
  have sl := hl.isSl
  have ll : vlen l = ls.length := by have := hl.2.1; omega
  have HM2 := Lib.hid hm2; have HLS := Lib.hid hls; have HLM := Lib.hid hlm; clear hm2 hls hlm
  have HL := Lib.hid (hl)
  clear HC
  replace HK := Lib.hid (HK.out.below hb)
  replace HB := Lib.hid (Below.chain HB.out hb)
  clear hb
  clear hl
  obtain ⟨P, hP⟩ : ∃ P, ks.map vlen = P := ⟨_, rfl⟩
  obtain ⟨Q, hQ⟩ : ∃ Q, ls.map vlen = Q := ⟨_, rfl⟩
  have hPQ : P.Perm Q := by
    rw [← hP, ← hQ, HKM.out, HLM.out]
    exact (conj_count HPX.out HPY.out (by rw [HLX.out, HLY.out]) HM1.out HM2.out).filter _
  have hPl : P.length ≤ 9 := by
    have h1 := cyc_count HM1.out
    rw [HLX.out] at h1
    rw [← hP, HKM.out]
    exact Nat.le_trans (List.length_filter_le _ _) (by omega)
  have hkl : ks.length = P.length := by rw [← hP]; simp
  have hll : ls.length = P.length := by rw [hPQ.length_eq, ← hQ]; simp
  obtain ⟨K, hK⟩ : ∃ K, P.length = K := ⟨_, rfl⟩
  rw [hK] at hkl hll hPl
  rw [hkl] at lk
  rw [hll] at ll
  have HPQ := Lib.hid hPQ; have HP := Lib.hid hP; have HQ := Lib.hid hQ; have HKL := Lib.hid hkl; have HLL := Lib.hid hll; have HKK := Lib.hid hK
  have HQK := Lib.hid (show Q.length = K by rw [← hPQ.length_eq]; exact hK)
  clear hPQ hP hQ hkl hll hK
  go_wp2_with fail
  go_loopw [21, 73] (fun p i wr => ∃ j : Nat, j ≤ K ∧ i = .int .i64 j ∧ OwnI wr u11.heap.size p (intsOf (P.take j)) ∧ Below u11.heap.size u11 wr) (fun _ i _ => K - (intOf i).toNat)
  case atStart => exact ⟨0, Nat.zero_le _, rfl, ownI_nil _ _, Below.refl _ _⟩
  case round =>
    rename World => Wp
    obtain ⟨j, hj, rfl, ho, hb⟩ := hrel
    have so := ho.isSl
    by_cases hlt : j < K
    · have hjk : j < ks.length := by rw [HKL.out]; exact hlt
      have hjp : j < P.length := by rw [HKK.out]; exact hlt
      have cj := (HK.out.below hb).cell hjk
      have sj : IsSl ks[j] := HKS.out _ (List.getElem_mem hjk)
      have lj : vlen ks[j] = P[j] := by simp only [← HP.out, List.getElem_map]
      obtain ⟨r, hr⟩ : ∃ r, ks[j] = r := ⟨_, rfl⟩
      rw [hr] at cj sj lj
      obtain ⟨pj, hpj⟩ : ∃ pj : Nat, P[j] = pj := ⟨_, rfl⟩
      rw [hpj] at lj
      have hnx := intsOf_snoc hjp
      rw [hpj] at hnx
      have hol : (intsOf (P.take j)).length ≤ 1000000000000 := by unfold intsOf; simp; omega
      have HNX := Lib.hid hnx.symm; have HO := Lib.hid ho; have HBB := Lib.hid hb; have HOL := Lib.hid hol
      have hbs := hb.size
      clear hr hpj hnx ho hb hol
      go_wp2_with (at_builtin; refine wpList_push (v := u21) rfl _ _ rfl rfl rfl HO.out hbs HOL.out ?_; intro o2 w2 ho2 hg2 hr2; rw [HNX.out] at ho2)
      have hb2 := Below_of_grown HBB.out hg2 hbs (fun b hb => (HO.out.lt b hb).1)
      go_roundw
      case rel => exact ⟨j + 1, by omega, by go_num, ho2, hb2⟩
      case measure => simp [intOf]; omega
    · obtain rfl : j = K := by omega
      have hfull : P.take j = P := List.take_of_length_le (by rw [HKK.out]; exact Nat.le_refl _)
      rw [hfull] at ho
      have HO := Lib.hid ho; have HBB := Lib.hid hb
      have HL2 := Lib.hid (HL.out.below hb)
      clear ho hb hfull
      go_wp2_with fail
      go_loopw [22, 85] (fun q i wi => ∃ k : Nat, k ≤ j ∧ i = .int .i64 k ∧ OwnI wi Wp.heap.size q (intsOf (Q.take k)) ∧ Below Wp.heap.size Wp wi) (fun _ i _ => j - (intOf i).toNat)
      case atStart => exact ⟨0, Nat.zero_le _, rfl, ownI_nil _ _, Below.refl _ _⟩
      case round =>
        obtain ⟨k, hk, rfl, ho, hb⟩ := hrel
        have so2 := ho.isSl
        by_cases hlt : k < j
        · have hjk : k < ls.length := by rw [HLL.out]; exact hlt
          have hjp : k < Q.length := by rw [HQK.out]; exact hlt
          have cj := (HL2.out.below hb).cell hjk
          have sj : IsSl ls[k] := HLS.out _ (List.getElem_mem hjk)
          have lj : vlen ls[k] = Q[k] := by simp only [← HQ.out, List.getElem_map]
          obtain ⟨r, hr⟩ : ∃ r, ls[k] = r := ⟨_, rfl⟩
          rw [hr] at cj sj lj
          obtain ⟨pj, hpj⟩ : ∃ pj : Nat, Q[k] = pj := ⟨_, rfl⟩
          rw [hpj] at lj
          have hnx := intsOf_snoc hjp
          rw [hpj] at hnx
          have hol : (intsOf (Q.take k)).length ≤ 1000000000000 := by unfold intsOf; simp; omega
          have HNX := Lib.hid hnx.symm; have HO2 := Lib.hid ho; have HBB2 := Lib.hid hb; have HOL := Lib.hid hol
          have hbs := hb.size
          clear hr hpj hnx ho hb hol
          go_wp2_with (at_builtin; refine wpList_push (v := u22) rfl _ _ rfl rfl rfl HO2.out hbs HOL.out ?_; intro o2 w2 ho2 hg2 hr2; rw [HNX.out] at ho2)
          have hb2 := Below_of_grown HBB2.out hg2 hbs (fun b hb => (HO2.out.lt b hb).1)
          go_roundw
          case rel => exact ⟨k + 1, by omega, by go_num, ho2, hb2⟩
          case measure => simp [intOf]; omega
        · obtain rfl : k = j := by omega
          have hfull : Q.take k = Q := List.take_of_length_le (by rw [HQK.out]; exact Nat.le_refl _)
          rw [hfull] at ho
          have hp3 := HO.out.below hb
          have hap : ∀ c, Go.Sl.row u22 = some c → Go.Sl.row u21 ≠ some c := fun c h1 h2 => by
            have := (ho.lt c h1).1; have := (HO.out.lt c h2).2; omega
          have hbs := (HBB.out.trans (hb.mono HBB.out.size))
          have hpl : (intsOf P).length ≤ 12 := by unfold intsOf; rw [List.length_map, HKK.out]; omega
          have hql : (intsOf Q).length ≤ 12 := by unfold intsOf; rw [List.length_map, HQK.out]; omega
          have HP3 := Lib.hid hp3; have HQ3 := Lib.hid ho; have HAP := Lib.hid hap; have HBS := Lib.hid hbs; have HPL := Lib.hid hpl; have HQL := Lib.hid hql
          have hz1 := hbs.size; have hz2 := hb.size
          clear ho hb hp3 hap hbs hfull hpl hql
          go_wp2_with fail
          refine (sort_calls u21 (intsOf P) u11.heap.size _ HP3.out HPL.out hz1).mono ?_
          rintro e wa ⟨⟨_, rfl⟩, P2, hp2, hs2, ho2, hsz2, hb2, hot2⟩
          have hq4 : OwnI wa Wp.heap.size u22 (intsOf Q) := Own.of_block HQ3.out fun c hc => hot2 c (fun e => HAP.out c hc e)
          have HP2P := Lib.hid hp2; have HP2S := Lib.hid hs2; have HP2O := Lib.hid ho2; have HQ4 := Lib.hid hq4; have HB2 := Lib.hid (HBS.out.trans hb2)
          have hz3 : Wp.heap.size ≤ wa.heap.size := by omega
          clear hp2 hs2 ho2 hb2 hot2 hq4
          go_wp2_with fail
          refine (sort_calls u22 (intsOf Q) Wp.heap.size _ HQ4.out HQL.out hz3).mono ?_
          rintro e wb ⟨⟨_, rfl⟩, Q2, hp2, hs2, ho2, hsz3, hb2, hot2⟩
          have hpp : OwnI wb u11.heap.size u21 P2 := Own.of_block HP2O.out fun c hc => hot2 c (fun e => HAP.out c e hc)
          have heq : P2 = Q2 := sorted_eq P2 Q2 (HP2P.out.trans ((HPQ.out.map _).trans hp2.symm)) HP2S.out hs2
          have HPP := Lib.hid hpp.ints; have HQQ := Lib.hid ho2.ints; have HEQ := Lib.hid heq
          have HB3 := Lib.hid (HB2.out.trans (hb2.mono HBB.out.size))
          clear hp2 hs2 ho2 hb2 hot2 hpp heq
          go_wp2_with fail
          refine (permuted_calls _).mono ?_
          rintro e wc ⟨rfl, hb⟩
          have HPP2 := Lib.hid (HPP.out.below hb); have HQQ2 := Lib.hid (HQQ.out.below hb)
          have HB4 := Lib.hid (HB3.out.trans (hb.mono HB3.out.size))
          clear hb
          go_wp2_with fail
          refine (equal_yes _ _ P2 Q2 _ HPP2.out HQQ2.out HEQ.out).mono ?_
          rintro e wd ⟨rfl, hb⟩
          have HB5 := Lib.hid (HB4.out.trans (hb.mono HB4.out.size))
          clear hb
          go_wp2_with fail
          go_ret
          exact ⟨rfl, Below.chain HB.out HB5.out⟩

end Go.Proofs.Ytmcecmnbdcbehaa

