/- LinkSums: for every input the statement returns true, and nothing that was there has changed. -/
import Derived.Test.YtmcecmnbdcbehaaQLinkSums0
import Derived.Test.YtmcecmnbdcbehaaQLinkSums1
import Derived.Test.YtmcecmnbdcbehaaQLinkSums2
import Derived.Test.YtmcecmnbdcbehaaQLinkSums3
import Derived.Test.YtmcecmnbdcbehaaQLinkSums4
import Derived.Test.YtmcecmnbdcbehaaQLinkSums5
import Derived.Test.YtmcecmnbdcbehaaQLinkSums6
import Derived.Test.YtmcecmnbdcbehaaQLinkSums7
import Derived.Test.YtmcecmnbdcbehaaQLinkSums8
import Derived.Test.YtmcecmnbdcbehaaQLinkSums9
import Derived.Test.YtmcecmnbdcbehaaQLinkSums10
import Derived.Test.YtmcecmnbdcbehaaQLinkSums11
import Derived.Test.YtmcecmnbdcbehaaQLinkSums12
import Derived.Test.YtmcecmnbdcbehaaQLinkSums13
import Derived.Test.YtmcecmnbdcbehaaQLinkSums14
import Derived.Test.YtmcecmnbdcbehaaQLinkSums15
import Derived.Test.YtmcecmnbdcbehaaQLinkSums16
import Derived.Test.YtmcecmnbdcbehaaQLinkSums17
import Derived.Test.YtmcecmnbdcbehaaQLinkSums18
import Derived.Test.YtmcecmnbdcbehaaQLinkSums19
import Derived.Test.YtmcecmnbdcbehaaQLinkSums20
import Derived.Test.YtmcecmnbdcbehaaQLinkSums21
import Derived.Test.YtmcecmnbdcbehaaQLinkSums22
import Derived.Test.YtmcecmnbdcbehaaQLinkSums23
import Derived.Test.YtmcecmnbdcbehaaQLinkSums24
import Derived.Test.YtmcecmnbdcbehaaQLinkSums25
import Derived.Test.YtmcecmnbdcbehaaQLinkSums26
import Derived.Test.YtmcecmnbdcbehaaQLinkSums27
import Derived.Test.YtmcecmnbdcbehaaQLinkSums28
import Derived.Test.YtmcecmnbdcbehaaQLinkSums29
import Derived.Test.YtmcecmnbdcbehaaQLinkSums30
import Derived.Test.YtmcecmnbdcbehaaQLinkSums31
import Derived.Test.YtmcecmnbdcbehaaQLinkSums32
import Derived.Shelf.Strings.Builder1
import Derived.Deep.RegionLaw
import Derived.RangeFuncNested
import Derived.RangeFuncCalls
import Derived.OrdersIn
import Derived.OrdersHeld
import Derived.Deep.RegionHeld
import Derived.Lib.AppendZeros
import Derived.Lib.Walk
namespace Go.Proofs.Ytmcecmnbdcbehaa
open Go.RowKit Go.Sl

def psum (f : Nat → Int) (k : Nat) : Int := ((List.range k).map f).sum
theorem psum_succ (f : Nat → Int) (k : Nat) : psum f (k + 1) = psum f k + f k := sumR_succ k f
theorem psum_zero (f : Nat → Int) : psum f 0 = 0 := rfl
theorem psum_bd {f : Nat → Int} {B : Nat} (h : ∀ u, (f u).natAbs ≤ B) (k : Nat) : (psum f k).natAbs ≤ k * B := by
  induction k with
  | zero => simp [psum_zero]
  | succ k ih => rw [psum_succ, Nat.add_mul, Nat.one_mul]; have := h k; omega
theorem sum2_psum (N : Nat) (G : Nat → Nat → Int) : sum2 N G = psum (fun u => psum (G u) N) N := rfl
structure LkG (n N : Nat) (s : Int) (G : Nat → Nat → Int) : Prop where
  sym : ∀ u v, G u v = G v u
  tot : psum (fun u => psum (G u) N) N = s
  bd : ∀ u v, (G u v).natAbs ≤ 30
  n6 : N ≤ 6
theorem lk_facts {n : Nat} {X : List Int} {C : List (List Int)} {lab : Nat → Nat} (h2 : n ≤ 6) (hX : X.length ≤ 30) (hx : ∀ x ∈ X, x ≠ 0 ∧ x.natAbs < n) (hc : CycOK (backL (strandsL n X)) (C.map List.length)) (hl : LabOK (backL (strandsL n X)) C lab) :
    LkG n C.length (X.map sgx).sum (lkN (lkRun lab n X).1) := by
  have hlt := hl.lt
  rw [backL_length, strandsL_length] at hlt
  have hinv := lkRun_inv (lab := lab) (n := n) (N := C.length) (by omega) hlt hx
  have hend := labs_end (lab := lab) (by omega) hx (fun i hi => hl.cyc i (by rw [backL_length, strandsL_length]; exact hi))
  rw [← lkRun_strands lab] at hend
  refine ⟨lkN_sym hinv.sym, by rw [← sum2_psum]; exact lkN_sum hinv hend, fun u v => ?_, ?_⟩
  · have h1 := hinv.bd u v
    unfold lkN
    split
    · omega
    · rw [Int.natAbs_tdiv]; exact Nat.le_trans (Nat.div_le_self _ _) (by omega)
  · have h1 := sum_len_le _ hc.pos
    rw [hc.sum, backL_length, strandsL_length, List.length_map] at h1
    omega
theorem cyc_perm {a : List Int} {L M : List Nat} (h1 : CycOK a L) (h2 : CycOK a M) : L.Perm M := by
  rw [List.perm_iff_count]
  intro l
  rcases Nat.eq_zero_or_pos l with h0 | h0
  · subst h0
    rw [List.count_eq_zero_of_not_mem (fun h => by have := h1.pos _ h; omega), List.count_eq_zero_of_not_mem (fun h => by have := h2.pos _ h; omega)]
  · exact Nat.eq_of_mul_eq_mul_left h0 ((h1.cntP l).trans (h2.cntP l).symm)
def longs (C : List (List Int)) (k : Nat) : Nat := ((C.take k).filter fun c => decide (1 < c.length)).length
theorem longs_succ {C : List (List Int)} {k : Nat} (h : k < C.length) : longs C (k + 1) = longs C k + if 1 < (nthr C k).length then 1 else 0 := by
  unfold longs
  rw [List.take_succ_eq_append_getElem h, List.filter_append, List.length_append, nthr_lt h]
  by_cases e : 1 < C[k].length
  · rw [if_pos e, List.filter_cons_of_pos (by simpa using e)]; rfl
  · rw [if_neg e, List.filter_cons_of_neg (by simpa using e)]; rfl
theorem longs_le (C : List (List Int)) (k : Nat) : longs C k ≤ C.length := by
  unfold longs
  refine Nat.le_trans (List.length_filter_le _ _) ?_
  simp; omega
theorem longs_all {a : List Int} {C : List (List Int)} {M : List Nat} {vs : List Value} (h1 : CycOK a (C.map List.length)) (h2 : CycOK a M) (hv : vs.map vlen = M.filter (fun l => !decide (l < 2))) : longs C C.length = vs.length := by
  have h3 := ((cyc_perm h1 h2).filter fun l => !decide (l < 2)).length_eq
  rw [← hv, List.length_map] at h3
  rw [← h3]
  unfold longs
  rw [List.take_length, List.filter_map, List.length_map]
  congr 1
  refine List.filter_congr fun c _ => ?_
  simp only [Function.comp_apply]
  by_cases e : 1 < c.length
  · rw [decide_eq_true e, decide_eq_false (by omega)]; rfl
  · rw [decide_eq_false e, decide_eq_true (by omega)]; rfl
def manyL (C : List (List Int)) (k : Nat) : Nat := ((C.map List.length).take k).sum
theorem manyL_succ {C : List (List Int)} {k : Nat} (h : k < C.length) : manyL C (k + 1) = manyL C k + (nthr C k).length := by
  unfold manyL
  rw [List.take_succ_eq_append_getElem (by simpa using h), List.sum_append, nthr_lt h]; simp
theorem manyL_all (C : List (List Int)) : manyL C C.length = (C.map List.length).sum := by
  unfold manyL; rw [List.take_of_length_le (by simp)]
theorem manyL_le (C : List (List Int)) (k : Nat) : manyL C k ≤ (C.map List.length).sum := sum_take_le _ _

set_option maxHeartbeats 8000000 in
set_option maxRecDepth 100000 in
theorem linkSums_true {w0 : World} (n : Int) (hn : I64 n) (a : Value) (as1 : List Int) (hra : Ints w0 a as1) (hxa : ∀ x ∈ as1, I64 x) (w : World) (hw : w = w0 := by rfl) :
    Calls Try.prog 10 #[.int .i64 n, a] w fun e w' => e = .returned (.bool true) ∧ Below w.heap.size w w' := by
  subst hw
  obtain ⟨N, hN⟩ : ∃ N : Nat, 2 + n % (6 - 1) = (N : Int) := ⟨(2 + n % (6 - 1)).toNat, by omega⟩
  have hN1 : 2 ≤ N := by omega
  have hN2 : N ≤ 6 := by omega
  obtain ⟨X, hX⟩ : ∃ X, X = wordL ((N : Int) - 1) as1 30 := ⟨_, rfl⟩
  have WX : BWord (N : Int) X := by rw [hX]; exact wordL_bw (by omega) as1 30
  have LX : X.length ≤ 30 := by rw [hX]; exact wordL_length _ as1 30
  have WI : BWord (N : Int) (invL X) := fun x hx => by
    unfold invL at hx
    obtain ⟨y, hy, rfl⟩ := List.mem_map.1 (List.mem_reverse.1 hx)
    have := WX y hy; omega
  have LI : (invL X).length ≤ 30 := by simpa [invL] using LX
  have hx0 : ∀ x ∈ X, x ≠ 0 ∧ x.natAbs < N := fun x h => by have := WX x h; omega
  have hi0 : ∀ x ∈ invL X, x ≠ 0 ∧ x.natAbs < N := fun x h => by have := WI x h; omega
  have hinv := sgx_inv (fun x h => (hx0 x h).1)
  obtain ⟨S, hS⟩ : ∃ S, (X.map sgx).sum = S := ⟨_, rfl⟩
  have hSb : S.natAbs ≤ 30 := by
    have h1 := sgx_abs (fun x h => (hx0 x h).1) X.length
    rw [List.take_length, hS] at h1; omega
  have G1 := fun (C : List (List Int)) (lab : Nat → Nat) hc hl => lk_facts (C := C) (lab := lab) hN2 LX hx0 hc hl
  have G2 := fun (C : List (List Int)) (lab : Nat → Nat) hc hl => lk_facts (C := C) (lab := lab) hN2 LI hi0 hc hl
  rw [hS] at hinv
  rw [hS] at G1
  rw [hinv] at G2
  have hpl : (backL (strandsL N X)).length = N := by rw [backL_length, strandsL_length]
  have hpp : IsPerm (backL (strandsL N X)) := (strands_perm (by omega) X hx0).back
  have HW1 := Lib.hid WX; have HL1 := Lib.hid LX; have HWI := Lib.hid WI; have HLI := Lib.hid LI; have HG1 := Lib.hid G1; have HG2 := Lib.hid G2; have HS := Lib.hid hS; have HPL := Lib.hid hpl; have HPP := Lib.hid hpp
  have HN := Lib.hid hN; have HX0 := Lib.hid hX.symm; have HXA := Lib.hid hxa; have HRA := Lib.hid hra
  have sa := hra.isSl
  clear WX LX WI LI hx0 hi0 hinv G1 G2 hS hN hX hxa hra hpl hpp
  go_enter Try.func10, Try.ntmps10
  go_wp2_with fail
  refine (strands_calls n 6 _ hn (by decide) (by decide)).mono ?_
  rintro e w' ⟨rfl, rfl⟩
  rw [HN.out]
  go_wp2_with fail
  refine (word_calls ((N : Int) - 1) a as1 30 _ HRA.out HXA.out (by omega) (by omega) (by omega)).mono ?_
  rintro e u1 ⟨x, rfl, hx, hb⟩
  rw [HX0.out] at hx
  have sx := hx.isSl
  have HX := Lib.hid (hx.ints)
  have HB := Lib.hid hb
  clear hb
  clear hx
  go_wp2_with fail
  refine (components_calls N _ X _ HX.out hN1 hN2 HW1.out HL1.out).mono ?_
  rintro e u2 ⟨l, vs, C, lab, rfl, hr, hcy, hlab, hb⟩
  have sl := hr.isSl
  have ll := hr.len
  have HCY := Lib.hid hcy; have HSRT := Lib.hid hlab.srt
  have HR := Lib.hid (hr)
  replace HX := Lib.hid (HX.out.below hb)
  replace HB := Lib.hid (Below.chain HB.out hb)
  clear hb
  clear hr hcy hlab
  go_wp2_with fail
  refine (linknum_calls N _ X _ HX.out hN1 hN2 HW1.out HL1.out).mono ?_
  rintro e u3 ⟨m, C2, lab2, rfl, hcy2, hlab2, ⟨ms, hm⟩, hb⟩
  have sm := hm.isSl
  have lm := hm.len
  rw [matI_length] at lm
  have hg := HG1.out C2 lab2 hcy2 hlab2
  have hcc : C2.length = C.length := by have := (cyc_perm hcy2 HCY.out).length_eq; simpa using this
  have HM := Lib.hid (hm)
  replace HX := Lib.hid (HX.out.below hb)
  replace HR := Lib.hid (HR.out.below hb)
  replace HB := Lib.hid (Below.chain HB.out hb)
  clear hb
  clear hm
  obtain ⟨G, hG⟩ : ∃ G, lkN (lkRun lab2 N X).1 = G := ⟨_, rfl⟩
  rw [hG] at HM hg
  obtain ⟨K, hK⟩ : ∃ K, C.length = K := ⟨_, rfl⟩
  rw [hcc, hK] at HM hg
  rw [hcc, hK] at lm
  rw [hK] at ll
  have hK6 := hg.n6
  have HK := Lib.hid hK; have HG := Lib.hid hg
  clear hcy2 hlab2 hG hcc hK hg
  go_wp2_with fail
  refine (expsum_calls N _ X _ HX.out hN1 hN2 HW1.out HL1.out).mono ?_
  rintro e u4 ⟨rfl, hb⟩
  replace HX := Lib.hid (HX.out.below hb)
  replace HR := Lib.hid (HR.out.below hb)
  replace HM := Lib.hid (HM.out.below hb)
  replace HB := Lib.hid (Below.chain HB.out hb)
  clear hb
  rw [HS.out]
  go_wp2_with fail
  go_loopw [12, 62] (fun s i wr => ∃ k : Nat, k ≤ K ∧ i = .int .i64 k ∧ s = .int .i64 (psum (fun u => psum (G u) K) k) ∧ Below u4.heap.size u4 wr) (fun _ i _ => K - (intOf i).toNat)
  case atStart => exact ⟨0, Nat.zero_le _, rfl, rfl, Below.refl _ _⟩
  case round =>
    rename World => W1
    obtain ⟨i, hi, rfl, rfl, hb⟩ := hrel
    have hpb : (psum (fun u => psum (G u) K) i).natAbs ≤ 1080 := by
      have h1 := psum_bd (f := fun u => psum (G u) K) (B := K * 30) (fun u => psum_bd (HG.out.bd u) K) i
      have h2 : i * (K * 30) ≤ 6 * (6 * 30) := Nat.mul_le_mul (by omega) (Nat.mul_le_mul_right _ hK6)
      omega
    have hnx := psum_succ (fun u => psum (G u) K) i
    obtain ⟨Q, hQ⟩ : ∃ Q, psum (fun u => psum (G u) K) i = Q := ⟨_, rfl⟩
    rw [hQ] at hpb hnx ⊢
    by_cases hlt : i < K
    · have hm := HM.out.below hb
      have ci := hm.cell (i := i) (by rw [matI_length]; exact hlt)
      have hri := hm.row (i := i) (by rw [matI_length]; exact hlt)
      rw [nthr_matI hlt] at hri
      have si := hri.isSl
      have li := hri.len
      rw [List.length_map, List.length_range] at li
      obtain ⟨ri, hri0⟩ : ∃ q, nthv ms i = q := ⟨_, rfl⟩
      rw [hri0] at ci hri si li
      have HRI := Lib.hid hri; have HB1 := Lib.hid hb; have HNX := Lib.hid hnx; have HMW := Lib.hid hm
      clear hri0 hri hb hnx hQ hm
      go_wp2_with fail
      go_loopw [12, 69] (fun s j wr => ∃ q : Nat, q ≤ K ∧ j = .int .i64 q ∧ s = .int .i64 (Q + psum (G i) q) ∧ Below W1.heap.size W1 wr) (fun _ j _ => K - (intOf j).toNat)
      case atStart => exact ⟨0, Nat.zero_le _, rfl, by rw [psum_zero]; simp, Below.refl _ _⟩
      case round =>
        obtain ⟨j, hj, rfl, rfl, hb⟩ := hrel
        have hpb2 : (psum (G i) j).natAbs ≤ 180 := by
          have h1 := psum_bd (HG.out.bd i) j
          omega
        have hnx2 := psum_succ (G i) j
        obtain ⟨T, hT⟩ : ∃ T, psum (G i) j = T := ⟨_, rfl⟩
        rw [hT] at hpb2 hnx2 ⊢
        by_cases hlj : j < K
        · have ri2 := HRI.out.below hb
          have cij := ri2.cell (k := j) (by simpa using hlj)
          rw [nth_row hlj] at cij
          have hm2 := HMW.out.below hb
          have cj := hm2.cell (i := j) (by rw [matI_length]; exact hlj)
          have hrj := hm2.row (i := j) (by rw [matI_length]; exact hlj)
          rw [nthr_matI hlj] at hrj
          have sj := hrj.isSl
          have lj := hrj.len
          rw [List.length_map, List.length_range] at lj
          have cji := hrj.cell (k := i) (by simpa using hlt)
          rw [nth_row hlt, HG.out.sym j i] at cji
          obtain ⟨rj, hrj0⟩ : ∃ q, nthv ms j = q := ⟨_, rfl⟩
          rw [hrj0] at cj sj lj cji
          obtain ⟨y, hy⟩ : ∃ y, G i j = y := ⟨_, rfl⟩
          have hyb := HG.out.bd i j
          rw [hy] at cij cji hnx2 hyb
          have hw : IntKind.i64.wrap (Q + T + y) = Q + T + y := IntWalk.i64_in _ ⟨by omega, by omega⟩
          have HB2 := Lib.hid hb; have HNX2 := Lib.hid hnx2
          clear hb hnx2 hT hy hm2 hrj hrj0 ri2
          go_wp2_with fail
          go_roundw
          case rel => exact ⟨j + 1, by omega, by go_num, by rw [HNX2.out]; congr 1; omega, HB2.out⟩
          case measure => simp [intOf]; omega
        · obtain rfl : j = K := by omega
          have hfin : Q + T = psum (fun u => psum (G u) j) (i + 1) := by rw [HNX.out, hT]
          have HFIN := Lib.hid hfin; have HB2 := Lib.hid (HB1.out.trans (hb.mono HB1.out.size))
          clear hfin hb hnx2 hT
          go_wp2_with fail
          go_roundw
          case rel => exact ⟨i + 1, by omega, by go_num, by rw [HFIN.out], HB2.out⟩
          case measure => simp [intOf]; omega
    · obtain rfl : i = K := by omega
      have hQS : Q = S := by rw [← hQ]; exact HG.out.tot
      subst hQS
      have HB1 := Lib.hid (Below.chain HB.out hb)
      have HX1 := Lib.hid (HX.out.below hb); have HR1 := Lib.hid (HR.out.below hb)
      clear hb hnx hQ HM HB HX HR
      go_wp2_with fail
      go_loopw [13, 97] (fun c q wr => ∃ k : Nat, k ≤ i ∧ q = .int .i64 k ∧ c = .int .i64 ((manyL C k : Nat) : Int) ∧ Below W1.heap.size W1 wr) (fun _ q _ => i - (intOf q).toNat)
      case atStart => exact ⟨0, Nat.zero_le _, rfl, rfl, Below.refl _ _⟩
      case round =>
        rename World => W2
        obtain ⟨k, hk, rfl, rfl, hb⟩ := hrel
        have hml : manyL C k ≤ 6 := by
          have h1 := manyL_le C k
          rw [HCY.out.sum, HPL.out] at h1; omega
        have hkC2 : k < i → k < C.length := fun h => by rw [HK.out]; exact h
        obtain ⟨T, hT⟩ : ∃ T, manyL C k = T := ⟨_, rfl⟩
        rw [hT] at hml ⊢
        by_cases hlt : k < i
        · have hkC := hkC2 hlt
          have hr := HR1.out.below hb
          have ck := hr.cell hkC
          have hrk := hr.row hkC
          have sk := hrk.isSl
          have lk := hrk.len
          have hnx := manyL_succ hkC
          rw [hT] at hnx
          obtain ⟨rk, hrk0⟩ : ∃ q, nthv vs k = q := ⟨_, rfl⟩
          rw [hrk0] at ck hrk sk lk
          obtain ⟨z, hz⟩ : ∃ z, (nthr C k).length = z := ⟨_, rfl⟩
          rw [hz] at lk hnx
          have hz6 : z ≤ 6 := by
            have h1 := mem_le_sum (L := C.map List.length) (l := z) (List.mem_map.2 ⟨_, nthr_mem hkC, hz⟩)
            rw [HCY.out.sum, HPL.out] at h1; omega
          have HRK := Lib.hid hrk; have HB2 := Lib.hid hb; have HNX := Lib.hid hnx; have HSK := Lib.hid (HSRT.out k hkC)
          clear hr hrk hrk0 hnx hb hz hT hkC2
          go_wp2_with fail
          refine (isSorted_calls rk (nthr C k) _ HRK.out HSK.out).mono ?_
          rintro e w5 ⟨rfl, hb⟩
          have HB3 := Lib.hid (HB2.out.trans (hb.mono HB2.out.size))
          clear hb
          go_wp2_with fail
          go_roundw
          case rel => exact ⟨k + 1, by omega, by go_num, by rw [HNX.out]; go_num, HB3.out⟩
          case measure => simp [intOf]; omega
        · obtain rfl : k = i := by omega
          have hTN : T = N := by rw [← hT, ← HK.out, manyL_all, HCY.out.sum, HPL.out]
          subst hTN
          have HB2 := Lib.hid (Below.chain HB1.out hb)
          have HX2 := Lib.hid (HX1.out.below hb); have HR2 := Lib.hid (HR1.out.below hb)
          clear hb hT hkC2 HB1 HX1 HR1
          go_wp2_with fail
          refine (binverse_calls T _ X _ HX2.out (by omega) (by omega) HW1.out HL1.out).mono ?_
          rintro e u6 ⟨y, rfl, hy, hb⟩
          have sy := hy.isSl
          have HY := Lib.hid hy.ints
          replace HX2 := Lib.hid (HX2.out.below hb); replace HR2 := Lib.hid (HR2.out.below hb); replace HB2 := Lib.hid (Below.chain HB2.out hb)
          clear hb hy
          go_wp2_with fail
          refine (linknum_calls T _ (invL X) _ HY.out hN1 hN2 HWI.out HLI.out).mono ?_
          rintro e u7 ⟨o, C3, lab3, rfl, hcy3, hlab3, ⟨os, ho⟩, hb⟩
          have so := ho.isSl
          have lo := ho.len
          rw [matI_length] at lo
          have hg := HG2.out C3 lab3 hcy3 hlab3
          obtain ⟨G3, hG3⟩ : ∃ G, lkN (lkRun lab3 T (invL X)).1 = G := ⟨_, rfl⟩
          rw [hG3] at ho hg
          obtain ⟨K3, hK3⟩ : ∃ K, C3.length = K := ⟨_, rfl⟩
          rw [hK3] at ho hg lo
          have hK36 := hg.n6
          have HM3 := Lib.hid ho; have HG3 := Lib.hid hg
          replace HX2 := Lib.hid (HX2.out.below hb); replace HR2 := Lib.hid (HR2.out.below hb); replace HB2 := Lib.hid (Below.chain HB2.out hb)
          clear hcy3 hlab3 ho hg hG3 hK3 hb HY
          go_wp2_with fail
          refine (bperm_calls T _ X _ HX2.out hN1 hN2 HW1.out HL1.out).mono ?_
          rintro e u8 ⟨p, rfl, hp, hb⟩
          have sp := hp.isSl
          have HP := Lib.hid hp.ints
          replace HM3 := Lib.hid (HM3.out.below hb); replace HR2 := Lib.hid (HR2.out.below hb); replace HB2 := Lib.hid (Below.chain HB2.out hb)
          clear hb hp HX2
          go_wp2_with fail
          refine (pcycles_calls p (backL (strandsL T X)) _ HP.out HPP.out (by rw [HPL.out]; omega)).mono ?_
          rintro e u9 ⟨M, cs, cvs, rfl, hcm, hcs, -, hcv, hb⟩
          have scs := hcs.isSl
          have lcs : vlen cs = cvs.length := by have := hcs.2.1; omega
          have hlong := longs_all HCY.out hcm hcv
          rw [HK.out] at hlong
          rw [← hlong] at lcs
          have HLCS := Lib.hid lcs
          replace HM3 := Lib.hid (HM3.out.below hb); replace HR2 := Lib.hid (HR2.out.below hb); replace HB2 := Lib.hid (Below.chain HB2.out hb)
          clear hb hcm hcs hcv hlong lcs HP
          go_wp2_with fail
          go_loopw [28, 134] (fun c q wr => ∃ j : Nat, j ≤ k ∧ q = .int .i64 j ∧ c = .int .i64 ((longs C j : Nat) : Int) ∧ Below u9.heap.size u9 wr) (fun _ q _ => k - (intOf q).toNat)
          case atStart => exact ⟨0, Nat.zero_le _, rfl, rfl, Below.refl _ _⟩
          case round =>
            rename World => W3
            obtain ⟨j, hj, rfl, rfl, hb⟩ := hrel
            have hle : longs C j ≤ 6 := by have := longs_le C j; have := HK.out; omega
            obtain ⟨F, hF⟩ : ∃ F, longs C j = F := ⟨_, rfl⟩
            rw [hF] at hle ⊢
            by_cases hlt : j < k
            · have hjC : j < C.length := by rw [HK.out]; exact hlt
              have hr := HR2.out.below hb
              have cj := hr.cell hjC
              have hrj := hr.row hjC
              have sj := hrj.isSl
              have lj := hrj.len
              have hnx := longs_succ hjC
              rw [hF] at hnx
              obtain ⟨rj, hrj0⟩ : ∃ q, nthv vs j = q := ⟨_, rfl⟩
              rw [hrj0] at cj sj lj
              obtain ⟨z, hz⟩ : ∃ z, (nthr C j).length = z := ⟨_, rfl⟩
              rw [hz] at lj hnx
              have HB3 := Lib.hid hb
              by_cases hz1 : 1 < z
              · rw [if_pos hz1] at hnx
                have HNX := Lib.hid hnx
                have hzi : (1 : Int) < (z : Int) := by omega
                clear hr hrj hrj0 hb hz hF hnx hjC
                go_wp2_with fail
                go_roundw
                case rel => exact ⟨j + 1, by omega, by go_num, by rw [HNX.out]; go_num, HB3.out⟩
                case measure => simp [intOf]; omega
              · rw [if_neg hz1] at hnx
                have HNX := Lib.hid hnx
                have hzi : ¬ (1 : Int) < (z : Int) := by omega
                clear hr hrj hrj0 hb hz hF hnx hjC
                go_wp2_with fail
                go_roundw
                case rel => exact ⟨j + 1, by omega, by go_num, by rw [HNX.out]; simp, HB3.out⟩
                case measure => simp [intOf]; omega
            · obtain rfl : j = k := by omega
              have lcs : vlen cs = F := by rw [HLCS.out, hF]
              have HM4 := Lib.hid (HM3.out.below hb); have HB3 := Lib.hid (Below.chain HB2.out hb)
              clear hb hF HM3 HB2 HR2
              go_wp2_with fail
              go_loopw [31, 146] (fun s i wr => ∃ k : Nat, k ≤ K3 ∧ i = .int .i64 k ∧ s = .int .i64 (psum (fun u => psum (G3 u) K3) k) ∧ Below W3.heap.size W3 wr) (fun _ i _ => K3 - (intOf i).toNat)
              case atStart => exact ⟨0, Nat.zero_le _, rfl, rfl, Below.refl _ _⟩
              case round =>
                rename World => W4
                obtain ⟨i, hi, rfl, rfl, hb⟩ := hrel
                have hpb : (psum (fun u => psum (G3 u) K3) i).natAbs ≤ 1080 := by
                  have h1 := psum_bd (f := fun u => psum (G3 u) K3) (B := K3 * 30) (fun u => psum_bd (HG3.out.bd u) K3) i
                  have h2 : i * (K3 * 30) ≤ 6 * (6 * 30) := Nat.mul_le_mul (by omega) (Nat.mul_le_mul_right _ hK36)
                  omega
                have hnx := psum_succ (fun u => psum (G3 u) K3) i
                obtain ⟨H, hH⟩ : ∃ H, psum (fun u => psum (G3 u) K3) i = H := ⟨_, rfl⟩
                rw [hH] at hpb hnx ⊢
                by_cases hlt : i < K3
                · have hm := HM4.out.below hb
                  have ci := hm.cell (i := i) (by rw [matI_length]; exact hlt)
                  have hri := hm.row (i := i) (by rw [matI_length]; exact hlt)
                  rw [nthr_matI hlt] at hri
                  have si := hri.isSl
                  have li := hri.len
                  rw [List.length_map, List.length_range] at li
                  obtain ⟨ri, hri0⟩ : ∃ q, nthv os i = q := ⟨_, rfl⟩
                  rw [hri0] at ci hri si li
                  have HRI := Lib.hid hri; have HB4 := Lib.hid hb; have HNX := Lib.hid hnx
                  clear hri0 hri hb hnx hH hm
                  go_wp2_with fail
                  go_loopw [31, 152] (fun s j wr => ∃ q : Nat, q ≤ K3 ∧ j = .int .i64 q ∧ s = .int .i64 (H + psum (G3 i) q) ∧ Below W4.heap.size W4 wr) (fun _ j _ => K3 - (intOf j).toNat)
                  case atStart => exact ⟨0, Nat.zero_le _, rfl, by rw [psum_zero]; simp, Below.refl _ _⟩
                  case round =>
                    obtain ⟨q, hq, rfl, rfl, hb⟩ := hrel
                    have hpb2 : (psum (G3 i) q).natAbs ≤ 180 := by
                      have h1 := psum_bd (HG3.out.bd i) q
                      omega
                    have hnx2 := psum_succ (G3 i) q
                    obtain ⟨R, hR⟩ : ∃ R, psum (G3 i) q = R := ⟨_, rfl⟩
                    rw [hR] at hpb2 hnx2 ⊢
                    by_cases hlq : q < K3
                    · have ri2 := HRI.out.below hb
                      have cij := ri2.cell (k := q) (by simpa using hlq)
                      rw [nth_row hlq] at cij
                      obtain ⟨z, hz⟩ : ∃ z, G3 i q = z := ⟨_, rfl⟩
                      have hzb := HG3.out.bd i q
                      rw [hz] at cij hnx2 hzb
                      have hw : IntKind.i64.wrap (H + R + z) = H + R + z := IntWalk.i64_in _ ⟨by omega, by omega⟩
                      have HB5 := Lib.hid hb; have HNX2 := Lib.hid hnx2
                      clear hb hnx2 hR hz ri2
                      go_wp2_with fail
                      go_roundw
                      case rel => exact ⟨q + 1, by omega, by go_num, by rw [HNX2.out]; congr 1; omega, HB5.out⟩
                      case measure => simp [intOf]; omega
                    · obtain rfl : q = K3 := by omega
                      have hfin : H + R = psum (fun u => psum (G3 u) q) (i + 1) := by rw [HNX.out, hR]
                      have HFIN := Lib.hid hfin; have HB5 := Lib.hid (HB4.out.trans (hb.mono HB4.out.size))
                      clear hfin hb hnx2 hR
                      go_wp2_with fail
                      go_roundw
                      case rel => exact ⟨i + 1, by omega, by go_num, by rw [HFIN.out], HB5.out⟩
                      case measure => simp [intOf]; omega
                · obtain rfl : i = K3 := by omega
                  have hHS : H = -Q := by rw [← hH]; exact HG3.out.tot
                  have HB4 := Lib.hid (Below.chain HB3.out hb)
                  have HHS := Lib.hid hHS
                  clear hb hnx hH HB3 hHS
                  go_wp2_with fail
                  refine (linked_calls _).mono ?_
                  rintro e u10 ⟨rfl, hb⟩
                  have HB5 := Lib.hid (Below.chain HB4.out hb)
                  have hHS := HHS.out
                  have hwn : IntKind.i64.wrap (-Q) = -Q := IntWalk.i64_in _ ⟨by omega, by omega⟩
                  clear hb
                  go_wp2_with fail
                  go_ret
                  exact ⟨rfl, HB5.out⟩

end Go.Proofs.Ytmcecmnbdcbehaa

