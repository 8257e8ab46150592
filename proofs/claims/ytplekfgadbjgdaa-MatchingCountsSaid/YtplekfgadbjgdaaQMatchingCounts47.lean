/- matchingCounts: for every input the statement returns true, and nothing that was there has changed. -/
import Derived.Test.YtplekfgadbjgdaaQMatchingCounts0
import Derived.Test.YtplekfgadbjgdaaQMatchingCounts1
import Derived.Test.YtplekfgadbjgdaaQMatchingCounts2
import Derived.Test.YtplekfgadbjgdaaQMatchingCounts3
import Derived.Test.YtplekfgadbjgdaaQMatchingCounts4
import Derived.Test.YtplekfgadbjgdaaQMatchingCounts5
import Derived.Test.YtplekfgadbjgdaaQMatchingCounts6
import Derived.Test.YtplekfgadbjgdaaQMatchingCounts7
import Derived.Test.YtplekfgadbjgdaaQMatchingCounts8
import Derived.Test.YtplekfgadbjgdaaQMatchingCounts9
import Derived.Test.YtplekfgadbjgdaaQMatchingCounts10
import Derived.Test.YtplekfgadbjgdaaQMatchingCounts11
import Derived.Test.YtplekfgadbjgdaaQMatchingCounts12
import Derived.Test.YtplekfgadbjgdaaQMatchingCounts13
import Derived.Test.YtplekfgadbjgdaaQMatchingCounts14
import Derived.Test.YtplekfgadbjgdaaQMatchingCounts15
import Derived.Test.YtplekfgadbjgdaaQMatchingCounts16
import Derived.Test.YtplekfgadbjgdaaQMatchingCounts17
import Derived.Test.YtplekfgadbjgdaaQMatchingCounts18
import Derived.Test.YtplekfgadbjgdaaQMatchingCounts19
import Derived.Test.YtplekfgadbjgdaaQMatchingCounts20
import Derived.Test.YtplekfgadbjgdaaQMatchingCounts21
import Derived.Test.YtplekfgadbjgdaaQMatchingCounts22
import Derived.Test.YtplekfgadbjgdaaQMatchingCounts23
import Derived.Test.YtplekfgadbjgdaaQMatchingCounts24
import Derived.Test.YtplekfgadbjgdaaQMatchingCounts25
import Derived.Test.YtplekfgadbjgdaaQMatchingCounts26
import Derived.Test.YtplekfgadbjgdaaQMatchingCounts27
import Derived.Test.YtplekfgadbjgdaaQMatchingCounts28
import Derived.Test.YtplekfgadbjgdaaQMatchingCounts29
import Derived.Test.YtplekfgadbjgdaaQMatchingCounts30
import Derived.Test.YtplekfgadbjgdaaQMatchingCounts31
import Derived.Test.YtplekfgadbjgdaaQMatchingCounts32
import Derived.Test.YtplekfgadbjgdaaQMatchingCounts33
import Derived.Test.YtplekfgadbjgdaaQMatchingCounts34
import Derived.Test.YtplekfgadbjgdaaQMatchingCounts35
import Derived.Test.YtplekfgadbjgdaaQMatchingCounts36
import Derived.Test.YtplekfgadbjgdaaQMatchingCounts37
import Derived.Test.YtplekfgadbjgdaaQMatchingCounts38
import Derived.Test.YtplekfgadbjgdaaQMatchingCounts39
import Derived.Test.YtplekfgadbjgdaaQMatchingCounts40
import Derived.Test.YtplekfgadbjgdaaQMatchingCounts41
import Derived.Test.YtplekfgadbjgdaaQMatchingCounts42
import Derived.Test.YtplekfgadbjgdaaQMatchingCounts43
import Derived.Test.YtplekfgadbjgdaaQMatchingCounts44
import Derived.Test.YtplekfgadbjgdaaQMatchingCounts45
import Derived.Test.YtplekfgadbjgdaaQMatchingCounts46
import Derived.Shelf.Strings.Builder1
import Derived.RangeFuncNested
import Derived.RangeFuncBound
import Derived.RangeFuncCalls
import Derived.RangeFuncLeaves
import Derived.RangeFuncBox
import Derived.Shelf.Abstract
import Derived.Shelf.RegionOpen
import Derived.OwnWalkIn
import Derived.TacticsInMore
import Derived.LoopNIn
import Derived.LoopIn
import Derived.Maps.AppendAt
import Derived.Deep.RegionLaw
namespace Go.Proofs.Ytplekfgadbjgdaa
open Go.RowKit Go.Sl Go.TL

set_option maxHeartbeats 8000000 in
set_option maxRecDepth 100000 in
theorem matchingCounts_true {w0 : World} (n : Int) (hn : I64 n) (a : Value) (as1 : List Int) (hra : Ints w0 a as1) (hxa : ∀ x ∈ as1, I64 x) (w : World) (hw : w = w0 := by rfl) :
    Calls Try.prog 3 #[.int .i64 n, a] w fun e w' => e = .returned (.bool true) ∧ Below w.heap.size w w' := by
  subst hw
  have sa := hra.isSl
  obtain ⟨N, hN⟩ : ∃ N : Nat, 1 + n % 6 = (N : Int) := ⟨(1 + n % 6).toNat, by omega⟩
  have hN1 : 1 ≤ N := by omega
  have hN6 : N ≤ 6 := by omega
  have fa := fa_all N hN1 hN6
  obtain ⟨C, hC⟩ : ∃ C, catN N = C := ⟨_, rfl⟩
  have hCb : C ≤ 132 := by
    rw [← hC]
    obtain rfl | rfl | rfl | rfl | rfl | rfl : N = 1 ∨ N = 2 ∨ N = 3 ∨ N = 4 ∨ N = 5 ∨ N = 6 := by omega
    all_goals decide
  rw [hC] at fa
  obtain ⟨xss, hxss⟩ : ∃ xss, (fillA N).map iz = xss := ⟨_, rfl⟩
  have hxl : xss.length = C := by rw [← hxss, List.length_map, fa.len]
  have hxp : xss.Pairwise (fun a b => cmpL a b < 0) := by rw [← hxss, List.pairwise_map]; exact fa.rise
  have hok : ∀ k, k < C → ∃ D, nthr xss k = iz D ∧ TOk N D := fun k hk => by
    have hk2 : k < (fillA N).length := by rw [fa.len]; exact hk
    refine ⟨(fillA N)[k], ?_, fa.ok _ (List.getElem_mem hk2)⟩
    rw [← hxss, nthr_lt (by rw [List.length_map]; exact hk2), List.getElem_map]
  have hfin : 2 ≤ N → ∃ O K, runS N (gensL N as1 12) (oneL N) 0 = some (O, K) ∧ K ≤ 100 ∧ ∃ m, m < C ∧ nthr xss m = iz O := fun h2 => by
    obtain ⟨M, S, P, Tr, H, hin⟩ := mt_in N h2 hN6
    obtain ⟨par, gn, hm⟩ := H.mul
    have h0M : 0 < M := by have := hm.gN; omega
    obtain ⟨j, K, hj, hK, hr⟩ := run_tab H (gensL N as1 12) (gens_in N as1 12 h2) 0 0 h0M (by have := gens_length N as1 12; omega)
    rw [H.one] at hr
    obtain ⟨m, hm1, hm2⟩ := List.getElem_of_mem (hin j hj)
    refine ⟨_, K, hr, by have := gens_length N as1 12; omega, m, by rw [← fa.len]; exact hm1, ?_⟩
    rw [← hxss, nthr_lt (by rw [List.length_map]; exact hm1), List.getElem_map, hm2]
  have EL := Lib.hid (fun W => elements_calls N W hN1 hN6 (by rw [fa.len]; omega))
  rw [hxss] at EL
  have GE := Lib.hid (fun (h2 : 2 ≤ N) (W : World) (hW : Ints W a as1) => generators_calls N a as1 12 W hW hxa h2 (by omega) (by omega))
  have ST := Lib.hid (fun (O : List Nat) (K : Nat) (hr : runS N (gensL N as1 12) (oneL N) 0 = some (O, K)) (W : World) (v : Value) hv => stacked_calls N (gensL N as1 12) v W hv (by have := gens_length N as1 12; omega) hN1 hN6 _ _ hr)
  have HN := Lib.hid hN; have HC := Lib.hid hC; have HXL := Lib.hid hxl; have HXP := Lib.hid hxp; have HOK := Lib.hid hok; have HFIN := Lib.hid hfin; have RA := Lib.hid hra
  clear hN hC fa hxss hxl hxp hok hfin hra hxa
  go_enter Try.func3, Try.ntmps3
  go_wp2_with fail
  refine (below_calls n 6 w (by decide) (by decide) hn).mono ?_
  rintro e w' ⟨rfl, rfl⟩
  have hN := HN.out
  go_wp2_with fail
  clear hN
  refine (EL.out _).mono ?_
  rintro e u1 ⟨u, vs, rfl, hro, hb⟩
  have su := hro.rows.isSl
  have lu := hro.rows.len
  rw [HXL.out] at lu
  have RO1 := Lib.hid hro; have HB := Lib.hid hb
  replace RA := Lib.hid (RA.out.below hb)
  clear hro hb
  go_wp2_with fail
  refine (matched_calls _).mono ?_
  rintro e u2 ⟨rfl, hb⟩
  replace RO1 := Lib.hid (RO1.out.below hb); replace HB := Lib.hid (Below.chain HB.out hb); replace RA := Lib.hid (RA.out.below hb)
  clear hb
  have hN1i : (N : Int) - 1 = ((N - 1 : Nat) : Int) := by omega
  obtain ⟨u3, hW⟩ : ∃ W, W = u2.alloc (.cells #[.int .i64 1, .int .i64 2, .int .i64 5, .int .i64 14, .int .i64 42, .int .i64 132] 3) := ⟨_, rfl⟩
  have hb : Below u2.heap.size u2 u3 := by rw [hW]; exact (Below.refl _ _).alloc (Nat.le_refl _) _
  have hcel : u3.cell? ⟨u2.heap.size, N - 1, none⟩ = some (.int .i64 (C : Nat)) := by
    have h := heap_alloc_new u2 (.cells #[.int .i64 1, .int .i64 2, .int .i64 5, .int .i64 14, .int .i64 42, .int .i64 132] 3)
    rw [← hW] at h
    have hC := HC.out
    simp only [World.cell?, h]
    obtain rfl | rfl | rfl | rfl | rfl | rfl : N = 1 ∨ N = 2 ∨ N = 3 ∨ N = 4 ∨ N = 5 ∨ N = 6 := by omega
    all_goals (rw [← hC]; rfl)
  replace RO1 := Lib.hid (RO1.out.below hb); replace HB := Lib.hid (Below.chain HB.out hb); replace RA := Lib.hid (RA.out.below hb)
  have hW' := hW.symm
  clear hW hb
  go_wp2_with fail
  clear hW' hcel
  go_loopw [40] (fun i wr => ∃ k : Nat, k ≤ C ∧ i = .int .i64 k ∧ Below u3.heap.size u3 wr) (fun i _ => C - (intOf i).toNat)
  case atStart => exact ⟨0, Nat.zero_le _, rfl, Below.refl _ _⟩
  case round =>
    obtain ⟨k, hk, rfl, hbr⟩ := hrel
    have RO2 := Lib.hid (RO1.out.below hbr)
    have HBR := Lib.hid hbr
    clear hbr
    by_cases hlt : k < C
    · have ck := RO2.out.rows.cell (i := k) (by rw [HXL.out]; exact hlt)
      have rk := RO2.out.rows.row (i := k) (by rw [HXL.out]; exact hlt)
      obtain ⟨D, hD, tD⟩ := HOK.out k hlt
      obtain ⟨r, hr⟩ : ∃ r, nthv vs k = r := ⟨_, rfl⟩
      rw [hr] at ck rk
      have sr := rk.isSl
      have RK := Lib.hid rk; have HD := Lib.hid hD; have TD := Lib.hid tD
      clear rk hr hD tD
      go_wp2_with fail
      refine (tcheck_calls N D r _ (by rw [← HD.out]; exact RK.out) TD.out hN1 hN6).mono ?_
      rintro e v4 ⟨rfl, hb⟩
      clear ck
      rcases Nat.eq_zero_or_pos k with hk0 | hk0
      · subst hk0
        replace HBR := Lib.hid (Below.chain HBR.out hb)
        clear hb
        go_wp2_with fail
        go_roundw
        case rel => exact ⟨0 + 1, by omega, by go_num, HBR.out⟩
        case measure => simp [intOf]; omega
      · have RO3 := RO2.out.below hb
        have ck1 := RO3.rows.cell (i := k - 1) (by rw [HXL.out]; omega)
        have rk1 := RO3.rows.row (i := k - 1) (by rw [HXL.out]; omega)
        have rk := RK.out.below hb
        obtain ⟨q, hq⟩ : ∃ q, nthv vs (k - 1) = q := ⟨_, rfl⟩
        rw [hq] at ck1 rk1
        have sq := rk1.isSl
        have hki : (k : Int) - 1 = ((k - 1 : Nat) : Int) := by omega
        have hcm := pair_at HXP.out (show k - 1 < k by omega) (by rw [HXL.out]; exact hlt)
        have HCM := Lib.hid hcm; have RQ := Lib.hid rk1; have RR := Lib.hid rk
        replace HBR := Lib.hid (Below.chain HBR.out hb)
        clear hb RO3 hq rk1 rk hcm
        go_wp2_with fail
        refine (compare_calls q r _ _ _ RQ.out RR.out).mono ?_
        rintro e w' ⟨rfl, rfl⟩
        have hcm := HCM.out
        obtain ⟨c, hcc⟩ : ∃ c, cmpL (nthr xss (k - 1)) (nthr xss k) = c := ⟨_, rfl⟩
        rw [hcc] at hcm ⊢
        clear hcc ck1 hki
        go_wp2_with fail
        go_roundw
        case rel => exact ⟨k + 1, by omega, by go_num, HBR.out⟩
        case measure => simp [intOf]; omega
    · replace HB := Lib.hid (Below.chain HB.out HBR.out)
      replace RA := Lib.hid (RA.out.below HBR.out)
      by_cases hN2 : 2 ≤ N
      · obtain ⟨O, K, hrun, hK, m, hm, hmO⟩ := HFIN.out hN2
        have HRUN := Lib.hid hrun; have HMO := Lib.hid hmO
        clear hrun hmO
        have hne : ((N : Int) == 1) = false := by rw [beq_eq_false_iff_ne]; omega
        go_wp2_with fail
        clear hne
        refine (GE.out hN2 _ RA.out).mono ?_
        rintro e v5 ⟨g, rfl, hg, hb⟩
        have sg := hg.isSl
        have RG := Lib.hid hg.ints
        replace RO2 := Lib.hid (RO2.out.below hb); replace HB := Lib.hid (Below.chain HB.out hb)
        clear hg hb
        go_wp2_with fail
        refine (ST.out O K HRUN.out _ g RG.out).mono ?_
        rintro e v6 ⟨d, rfl, hd, hb⟩
        have sd := hd.isSl
        have RD := Lib.hid hd.ints
        replace RO2 := Lib.hid (RO2.out.below hb); replace HB := Lib.hid (Below.chain HB.out hb)
        clear hd hb
        go_wp2_with fail
        refine (bsearch_calls u d vs xss (iz O) m _ RO2.out.rows RD.out (by rw [HXL.out]; exact hm) HMO.out HXP.out (by rw [HXL.out]; omega)).mono ?_
        rintro e w' ⟨rfl, rfl⟩
        go_wp2_with fail
        go_ret
        exact ⟨rfl, HB.out⟩
      · obtain rfl : N = 1 := by omega
        go_wp2_with fail
        go_ret
        exact ⟨rfl, HB.out⟩

end Go.Proofs.Ytplekfgadbjgdaa

