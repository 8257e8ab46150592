/- ColorDeterminant: for every input the statement returns true, and nothing that was there has changed. -/
import Derived.Test.YtckopilciekfbaaQColorDet0
import Derived.Test.YtckopilciekfbaaQColorDet1
import Derived.Test.YtckopilciekfbaaQColorDet2
import Derived.Test.YtckopilciekfbaaQColorDet3
import Derived.Test.YtckopilciekfbaaQColorDet4
import Derived.Test.YtckopilciekfbaaQColorDet5
import Derived.Test.YtckopilciekfbaaQColorDet6
import Derived.Test.YtckopilciekfbaaQColorDet7
import Derived.Test.YtckopilciekfbaaQColorDet8
import Derived.Test.YtckopilciekfbaaQColorDet9
import Derived.Test.YtckopilciekfbaaQColorDet10
import Derived.Test.YtckopilciekfbaaQColorDet11
import Derived.Test.YtckopilciekfbaaQColorDet12
import Derived.Test.YtckopilciekfbaaQColorDet13
import Derived.Test.YtckopilciekfbaaQColorDet14
import Derived.Test.YtckopilciekfbaaQColorDet15
import Derived.Test.YtckopilciekfbaaQColorDet16
import Derived.Test.YtckopilciekfbaaQColorDet17
import Derived.Test.YtckopilciekfbaaQColorDet18
import Derived.Test.YtckopilciekfbaaQColorDet19
import Derived.Test.YtckopilciekfbaaQColorDet20
import Derived.Test.YtckopilciekfbaaQColorDet21
import Derived.Test.YtckopilciekfbaaQColorDet22
import Derived.Test.YtckopilciekfbaaQColorDet23
import Derived.Test.YtckopilciekfbaaQColorDet24
import Derived.Test.YtckopilciekfbaaQColorDet25
import Derived.Test.YtckopilciekfbaaQColorDet26
import Derived.Test.YtckopilciekfbaaQColorDet27
import Derived.Test.YtckopilciekfbaaQColorDet28
import Derived.Test.YtckopilciekfbaaQColorDet29
import Derived.Test.YtckopilciekfbaaQColorDet30
import Derived.Test.YtckopilciekfbaaQColorDet31
import Derived.Test.YtckopilciekfbaaQColorDet32
import Derived.Test.YtckopilciekfbaaQColorDet33
import Derived.Test.YtckopilciekfbaaQColorDet34
import Derived.Test.YtckopilciekfbaaQColorDet35
import Derived.Test.YtckopilciekfbaaQColorDet36
import Derived.Test.YtckopilciekfbaaQColorDet37
import Derived.Test.YtckopilciekfbaaQColorDet38
import Derived.Test.YtckopilciekfbaaQColorDet39
import Derived.Test.YtckopilciekfbaaQColorDet40
import Derived.Test.YtckopilciekfbaaQColorDet41
import Derived.Test.YtckopilciekfbaaQColorDet42
import Derived.Test.YtckopilciekfbaaQColorDet43
import Derived.Test.YtckopilciekfbaaQColorDet44
import Derived.Test.YtckopilciekfbaaQColorDet45
import Derived.Test.YtckopilciekfbaaQColorDet46
import Derived.Shelf.Strings.Builder1
import Derived.RangeFuncNested
import Derived.RangeFuncCalls
import Derived.OrdersIn
import Derived.OrdersHeld
import Derived.Deep.RegionHeld
import Derived.Lib.AppendZeros
import Derived.Lib.Walk
import Derived.RangeFuncBound
import Derived.RangeFuncLeaves
import Derived.RangeFuncBox
import Derived.Shelf.Abstract
import Derived.Shelf.RegionOpen
import Derived.OwnWalkIn
import Derived.TacticsInMore
import Derived.LoopNIn
import Derived.LoopIn
import Derived.Maps.AppendAt
import Derived.Lib.SliceRun
namespace Go.Proofs.Ytckopilciekfbaa
open Go.RowKit Go.Sl


set_option maxHeartbeats 8000000 in
set_option maxRecDepth 100000 in
theorem colorDeterminant_true {w0 : World} (n : Int) (hn : I64 n) (a : Value) (as1 : List Int) (hra : Ints w0 a as1) (hxa : ∀ x ∈ as1, I64 x) (m0 : Int) (hm0 : I64 m0) (w : World) (hw : w = w0 := by rfl) :
    Calls Try.prog 7 #[.int .i64 n, a, .int .i64 m0] w fun e w' => e = .returned (.bool true) ∧ Below w.heap.size w w' := by
  subst hw
  obtain ⟨N, hN⟩ : ∃ N : Nat, 2 + n % (6 - 1) = (N : Int) := ⟨(2 + n % (6 - 1)).toNat, by omega⟩
  have hN1 : 2 ≤ N := by omega
  have hN2 : N ≤ 6 := by omega
  obtain ⟨X, hX⟩ : ∃ X, X = wordL ((N : Int) - 1) as1 16 := ⟨_, rfl⟩
  have WX : BWord (N : Int) X := by rw [hX]; exact wordL_bw (by omega) as1 16
  have LX : X.length ≤ 16 := by rw [hX]; exact wordL_length _ as1 16
  obtain ⟨i5, hi5⟩ : ∃ i5 : Nat, m0 % 5 = (i5 : Int) := ⟨(m0 % 5).toNat, by omega⟩
  have hi5l : i5 < 5 := by omega
  obtain ⟨M, hM⟩ : ∃ M : Nat, nth [3, 5, 7, 11, 13] i5 = (M : Int) ∧ (M = 2 ∨ M = 3 ∨ M = 5 ∨ M = 7 ∨ M = 11 ∨ M = 13) := by
    rcases (show i5 = 0 ∨ i5 = 1 ∨ i5 = 2 ∨ i5 = 3 ∨ i5 = 4 by omega) with rfl | rfl | rfl | rfl | rfl
    · exact ⟨3, rfl, by decide⟩
    · exact ⟨5, rfl, by decide⟩
    · exact ⟨7, rfl, by decide⟩
    · exact ⟨11, rfl, by decide⟩
    · exact ⟨13, rfl, by decide⟩
  obtain ⟨hM, hMp⟩ := hM
  have hM1 : 0 < M := by omega
  have hM13 : M ≤ 13 := by omega
  have AX := afit WX.nword LX hN1 hN2
  obtain ⟨P, hP⟩ : ∃ P, pnorm (expandL (N - 1) (alexM N X)) = P := ⟨_, rfl⟩
  have bM : solL (smithL (colM N M X) N N) M N ≤ 4826809 := by
    rw [solL_square]
    refine Nat.le_trans (solTo_le _ _ hM1 _) ?_
    exact Nat.le_trans (Nat.pow_le_pow_left hM13 N) (Nat.le_trans (Nat.pow_le_pow_right (by decide) hN2) (by decide))
  have hdet : M < solL (smithL (colM N M X) N N) M N ↔ M ∣ (atR (-1) P.low P.c).natAbs := by
    obtain ⟨m, hm⟩ : ∃ m, N = m + 1 := ⟨N - 1, by omega⟩
    subst hm
    exact color_det hN2 WX.nword hMp hP.symm
  have CM := Lib.hid (fun W v hv => ccount_calls N M v X W hv hN1 hN2 hM1 hM13 WX (by omega))
  have CX := Lib.hid (fun W v hv => adet_calls N v X W hv hN1 hN2 WX (by omega) AX.pf AX.fit AX.ok AX.ok2 AX.at2)
  have ha2 := AX.at2
  rw [hP] at CX ha2
  have eM : matI N (colF M N ((1 : Int) % (M : Int)) X) = colM N M X := rfl
  rw [eM] at CM
  obtain ⟨K, hK⟩ : ∃ K, solL (smithL (colM N M X) N N) M N = K := ⟨_, rfl⟩
  rw [hK] at CM bM hdet
  obtain ⟨d, hd⟩ : ∃ d, (atR (-1) P.low P.c).natAbs = d := ⟨_, rfl⟩
  rw [hd] at CX hdet ha2
  have hcase : ((M : Int) < (K : Int) ∧ (d : Int).tmod (M : Int) = 0 ∧ (d : Int) % (M : Int) = 0) ∨ (¬ (M : Int) < (K : Int) ∧ (d : Int).tmod (M : Int) ≠ 0 ∧ (d : Int) % (M : Int) ≠ 0) := by
    have e1 : (d : Int).tmod (M : Int) = (d : Int) % (M : Int) := Int.tmod_eq_emod_of_nonneg (by omega)
    rw [e1]
    have e2 : (d : Int) % (M : Int) = 0 ↔ M ∣ d := by
      rw [← Int.natCast_dvd_natCast]
      exact ⟨Int.dvd_of_emod_eq_zero, Int.emod_eq_zero_of_dvd⟩
    by_cases q : M < K
    · have := e2.2 (hdet.1 q)
      exact .inl ⟨by omega, this, this⟩
    · have : (d : Int) % (M : Int) ≠ 0 := fun r => q (hdet.2 (e2.1 r))
      exact .inr ⟨by omega, this, this⟩
  have HCASE := Lib.hid hcase
  have HWX := Lib.hid WX; have HLX := Lib.hid (show X.length ≤ 30 by omega)
  have HN := Lib.hid hN; have HI5 := Lib.hid hi5; have HM := Lib.hid hM; have HX0 := Lib.hid hX.symm; have HXA := Lib.hid hxa; have HRA := Lib.hid hra
  have sa := hra.isSl
  clear WX LX AX hdet hcase eM hK hd hP hN hi5 hM hMp hX hxa hra P
  go_enter Try.func7, Try.ntmps7
  go_wp2_with fail
  refine (strands_calls n 6 _ hn (by decide) (by decide)).mono ?_
  rintro e w' ⟨rfl, rfl⟩
  rw [HN.out]
  go_wp2_with fail
  refine (word_calls ((N : Int) - 1) a as1 16 _ HRA.out HXA.out (by omega) (by omega) (by omega)).mono ?_
  rintro e u1 ⟨x, rfl, hx, hb⟩
  rw [HX0.out] at hx
  have sx := hx.isSl
  have HX := Lib.hid (hx.ints)
  have HB := Lib.hid hb
  clear hb
  clear hx
  go_wp2_with fail
  have hlit : Ints (u1.alloc (.cells #[.int .i64 3, .int .i64 5, .int .i64 7, .int .i64 11, .int .i64 13] 3)) (.slice (some ⟨u1.heap.size, 0, none⟩) 5 5) [3, 5, 7, 11, 13] := ints_lit [3, 5, 7, 11, 13] (by simp) rfl rfl (by decide)
  refine (below_calls m0 5 _ (by decide) (by decide) hm0).mono ?_
  rintro e w' ⟨rfl, rfl⟩
  rw [HI5.out]
  generalize Value.slice (some ⟨u1.heap.size, 0, none⟩) 5 5 = lv at hlit ⊢
  have slv := hlit.isSl
  have llv := hlit.len
  have llv : vlen lv = 5 := llv
  have hcell := hlit.cell (k := i5) (by exact hi5l)
  rw [HM.out] at hcell
  clear hlit
  have hb := ((Below.refl u1.heap.size u1).alloc (Nat.le_refl _) (.cells #[.int .i64 3, .int .i64 5, .int .i64 7, .int .i64 11, .int .i64 13] 3))
  replace HX := Lib.hid (HX.out.below hb)
  replace HB := Lib.hid (Below.chain HB.out hb)
  clear hb
  go_wp2_with fail
  refine (isKnot_calls N _ X _ HX.out hN1 hN2 HWX.out HLX.out).mono ?_
  rintro e u2 ⟨L, rfl, hcy, hb⟩
  obtain ⟨b, hbk⟩ : ∃ b, decide (L.length = 1) = b := ⟨_, rfl⟩
  rw [hbk]
  clear hcy hbk hcell
  replace HX := Lib.hid (HX.out.below hb)
  replace HB := Lib.hid (Below.chain HB.out hb)
  clear hb
  go_wp2_with fail
  refine (CM.out _ _ HX.out).mono ?_
  rintro e u3 ⟨rfl, hb⟩
  replace HX := Lib.hid (HX.out.below hb)
  replace HB := Lib.hid (Below.chain HB.out hb)
  clear hb
  go_wp2_with fail
  refine (CX.out _ _ HX.out).mono ?_
  rintro e u4 ⟨rfl, hb⟩
  replace HX := Lib.hid (HX.out.below hb)
  replace HB := Lib.hid (Below.chain HB.out hb)
  clear hb
  go_wp2_with fail
  refine (colored_calls _).mono ?_
  rintro e u5 ⟨rfl, hb⟩
  replace HX := Lib.hid (HX.out.below hb)
  replace HB := Lib.hid (Below.chain HB.out hb)
  clear hb
  go_wp2_with fail
  refine (alexandered_calls _).mono ?_
  rintro e u6 ⟨rfl, hb⟩
  replace HX := Lib.hid (HX.out.below hb)
  replace HB := Lib.hid (Below.chain HB.out hb)
  clear hb
  clear CM CX HX HWX HLX
  have hfin : (decide (M < K) == ((d : Int) % (M : Int) == 0)) = true := by
    rcases HCASE.out with ⟨c1, _, c3⟩ | ⟨c1, _, c3⟩
    · rw [decide_eq_true (by omega), c3]; rfl
    · rw [decide_eq_false (by omega), beq_eq_false_iff_ne.2 c3]; rfl
  have HF := Lib.hid hfin
  clear hfin
  cases b
  · go_wp2_with fail
    go_ret
    exact ⟨rfl, HB.out⟩
  · go_wp2_with fail
    go_ret
    refine ⟨?_, HB.out⟩
    show Ending.returned (.bool (decide (M < K) == ((d : Int) % (M : Int) == 0))) = _
    rw [HF.out]

end Go.Proofs.Ytckopilciekfbaa

