/- link.components walked. -/
import Derived.Test.YtckopilciekfbaaQTopTorus0
import Derived.Test.YtckopilciekfbaaQTopTorus1
import Derived.Test.YtckopilciekfbaaQTopTorus2
import Derived.Test.YtckopilciekfbaaQTopTorus3
import Derived.Test.YtckopilciekfbaaQTopTorus4
import Derived.Test.YtckopilciekfbaaQTopTorus5
import Derived.Test.YtckopilciekfbaaQTopTorus6
import Derived.Test.YtckopilciekfbaaQTopTorus8
import Derived.Test.YtckopilciekfbaaQTopTorus9
import Derived.Test.YtckopilciekfbaaQTopTorus13
import Derived.Test.YtckopilciekfbaaQTopTorus14
import Derived.Test.YtckopilciekfbaaQTopTorus15
import Derived.Test.YtckopilciekfbaaQTopTorus22
import Derived.Test.YtckopilciekfbaaQTopTorus25
import Derived.Test.YtckopilciekfbaaQTopTorus27
import Derived.Test.YtckopilciekfbaaQTopTorus29
import Derived.Test.YtckopilciekfbaaQTopTorus44
import Derived.Test.YtckopilciekfbaaQTopTorus45
import Derived.Test.YtckopilciekfbaaQTopTorus46
import Derived.RangeFuncNested
import Derived.RangeFuncCalls
import Derived.OrdersIn
import Derived.OrdersHeld
import Derived.Deep.RegionHeld
import Derived.Lib.SliceRun
import Derived.RangeFuncBound
import Derived.RangeFuncLeaves
import Derived.RangeFuncBox
import Derived.Shelf.Abstract
import Derived.Shelf.RegionOpen
import Derived.OwnWalkIn
import Derived.TacticsInMore
import Derived.LoopNIn
import Derived.LoopIn
import Derived.Maps.AppendAt
namespace Go.Proofs.Ytckopilciekfbaa
open Go.RowKit Go.Sl

set_option maxHeartbeats 4000000 in
set_option maxRecDepth 100000 in
theorem comps_calls (n : Nat) (v : Value) (xs : List Int) (w : World) (hv : Ints w v xs) (h1 : 2 ≤ n) (h2 : n ≤ 6) (hx : BWord n xs) (hl : xs.length ≤ 30) :
    Calls Try.prog 61 #[.int .i64 n, v] w fun e w' => ∃ (out : Value) (vs : List Value) (C : List (List Int)) (lab : Nat → Nat), e = .returned out ∧ RowsV w' out vs C ∧ CycOK (backL (strandsL n xs)) (C.map List.length) ∧ LabOK (backL (strandsL n xs)) C lab ∧ Below w.heap.size w w' := by
  have sv := hv.isSl
  have HP0 := Lib.hid (strands_perm (n := n) (by omega) xs (fun x h => by have := hx x h; omega)).back
  have HN0 := Lib.hid (show (backL (strandsL n xs)).length = n by rw [backL_length, strandsL_length])
  have HCP := Lib.hid (bperm_calls n v xs w hv h1 h2 hx hl)
  obtain ⟨P, hP⟩ : ∃ P, backL (strandsL n xs) = P := ⟨_, rfl⟩
  rw [hP] at HP0 HN0 HCP ⊢
  have HP := HP0; have HN := HN0
  clear hP hv hx hl HP0 HN0
  go_enter Try.func61, Try.ntmps61
  go_wp2_with fail
  refine HCP.out.mono ?_
  rintro e w0 ⟨pv, rfl, hpv, hb0⟩
  have spv := hpv.isSl
  have lpv := hpv.len
  rw [HN.out] at lpv
  have HA := Lib.hid hpv.ints; have HB0 := Lib.hid hb0
  clear hpv hb0 HCP
  go_wp2_with (at_make; refine wpList_makeB rfl _ _ rfl _ _ n rfl rfl rfl rfl (by omega) ?_; intro dn w1 ho1 hg1 hlo1 hsz; have sd := ho1.isSl; have hb1 := below_grown_none (Below.refl _ _) hg1; have HD1 := Lib.hid ho1; have HB1 := Lib.hid hb1; clear ho1 hg1 hb1)
  have hdb : vblk dn < w0.heap.size + 1 := by
    have := World.block_lt_of_cell? w1 _ (HD1.out.cell (k := 0) (by simp; omega))
    rw [vat_block] at this; omega
  have hda : w0.heap.size ≤ vblk dn := by
    have := HD1.out.ge (j := 0) (by simp; omega)
    rw [vat_block] at this; exact this
  obtain ⟨B1, hB1⟩ : ∃ B1, B1 = w0.heap.size + 1 := ⟨_, rfl⟩
  have hB1' : w1.heap.size = B1 := by omega
  have hdl : vblk dn < B1 := by omega
  have hdr : Go.Sl.row dn = some (vblk dn) := row_some (by have := HD1.out.len; have := sd.le; simp at *; omega)
  have HDR := Lib.hid hdr
  have hww : w.heap.size ≤ w0.heap.size := HB0.out.size
  clear hdr
  go_loopw [7, 21] (fun out i wr => ∃ (k : Nat) (D : List Bool) (vs : List Value) (C : List (List Int)), k ≤ n ∧ i = .int .i64 k ∧ OwnB wr w0.heap.size dn D ∧ Cyc P D (C.map List.length) ∧ Comps P D C ∧ (∀ j, j < k → at? D j = true) ∧ LRows wr B1 out vs C ∧ Below w0.heap.size w0 wr ∧ B1 ≤ wr.heap.size) (fun _ i _ => n - (intOf i).toNat)
  case atStart => exact ⟨0, _, [], [], Nat.zero_le _, rfl, HD1.out, by have := cyc_nil P; rwa [HN.out] at this, by have := comps_nil P; rwa [HN.out] at this, fun j hj => by omega, lrows_nil _ _, HB1.out, by omega⟩
  case round =>
    rename World => W
    obtain ⟨i, D, vs, C, hi, rfl, hd, hcy, hco, hall, ho, hbr, hsB⟩ := hrel
    have so := ho.own.1
    by_cases hlt : i < n
    · have HCY := Lib.hid hcy; have HCO := Lib.hid hco; have HALL := Lib.hid hall; have HO := Lib.hid ho; have HD := Lib.hid hd; have HBR := Lib.hid hbr
      clear hcy hco hall ho hd hbr
      go_wp2_with fail
      go_loopw [10, 11] (fun c x wr => ∃ (k p : Nat) (E : List Bool), x = .int .i64 (p : Int) ∧ itr P k i = p ∧ Cyc1 P D i k E ∧ OwnI wr W.heap.size c (orb P i k) ∧ OwnB wr w0.heap.size dn E ∧ W.grownBy wr (some (vblk dn))) (fun c _ _ => n - vlen c)
      case atStart => exact ⟨0, i, D, rfl, rfl, cyc1_start HCY.out.len i, ownI_nil _ _, HD.out, ⟨rfl, rfl, rfl, Nat.le_refl _, fun _ _ _ => rfl⟩⟩
      case round =>
        obtain ⟨k, x, E, rfl, hx, hc1, hc, hd, hkp⟩ := hrel
        have sc := hc.isSl
        have lc := hc.len
        rw [orb_length] at lc
        have hxl : itr P k i < n := by rw [← HN.out]; exact itr_lt HP.out k (by rw [HN.out]; exact hlt)
        have hEl : E.length = n := by rw [hc1.len, HN.out]
        have ld := hd.len
        rw [hEl] at ld
        rw [hx] at hxl
        have hzz : W.heap.size ≤ wr.heap.size := hkp.size
        have hb0 : Below w0.heap.size w0 wr := HBR.out.grown hkp HBR.out.size (fun b hb => by injection hb with hb; omega)
        have d1 := hd.cell (k := x) (by rw [hEl]; exact hxl)
        have f1 := hd.frozen (k := x) (by rw [hEl]; exact hxl)
        have HC1 := Lib.hid hc1; have HC := Lib.hid hc; have HD2 := Lib.hid hd; have HKP := Lib.hid hkp; have HBR2 := Lib.hid hb0; have HEL := Lib.hid hEl; have HX := Lib.hid hx
        clear hc1 hc hd hkp hb0 hEl hx
        cases hm : at? E x with
        | false =>
          rw [hm] at d1
          have c1 := (HA.out.below HBR2.out).cell (k := x) (by rw [HN.out]; exact hxl)
          have hnx : nth P x = ((itr P (k + 1) i : Nat) : Int) := by
            have h := HP.out.range _ (nth_mem (show x < P.length by rw [HN.out]; exact hxl))
            show nth P x = (((nth P (itr P k i)).toNat : Nat) : Int)
            rw [HX.out]; omega
          have hkn : k < n := by
            have h1 := cntT_lt (D := E) (i := x) (by rw [HEL.out]; exact hxl) hm
            have h2 := HC1.out.cnt
            rw [HEL.out] at h1
            omega
          have hst := HC1.out.step HP.out (by rw [HN.out]; exact hlt) (by rw [HX.out]; exact hm)
          rw [HX.out] at hst
          have HST := Lib.hid hst; clear hst
          have hob : orb P i k ++ [(x : Int)] = orb P i (k + 1) := by rw [orb_succ, HX.out]
          have HOB := Lib.hid hob; clear hob
          have hd3 := HD2.out.set (k := x) (by rw [HEL.out]; exact hxl) true
          have hc3 : OwnI (wr.setCell (vat dn x) (.bool true)) W.heap.size u10 (orb P i k) := HC.out.setOther (row_setB (fun k hk => (HC.out.lt k hk).1) (show vblk dn < W.heap.size by omega)) _
          have hk3 : W.grownBy (wr.setCell (vat dn x) (.bool true)) (some (vblk dn)) := Kp.setB HKP.out (vat_block _ _) _
          have hs3 : W.heap.size ≤ (wr.setCell (vat dn x) (.bool true)).heap.size := by simpa using hzz
          have hyl2 : (orb P i k).length ≤ 1000000000000 := by rw [orb_length]; omega
          have hxn : x < P.length := by rw [HN.out]; exact hxl
          have hrw : ∀ k, row u10 = some k → W.heap.size ≤ k := fun k hk => (HC.out.lt k hk).1
          have hb3 : Below w0.heap.size w0 (wr.setCell (vat dn x) (.bool true)) := HBR2.out.setCell (by rw [vat_block]; exact hda) _
          have HC3 := Lib.hid hc3; have HD3 := Lib.hid hd3; have HK3 := Lib.hid hk3; have HB3 := Lib.hid hb3; have HHM := Lib.hid hm; have HNX := Lib.hid hnx; have HRW := Lib.hid hrw; have HYL := Lib.hid hyl2
          clear hd3 hk3 hb3 hc3 hm hnx c1 hrw hyl2
          go_wp2_with (first
            | (at_builtin; refine wpList_push (v := u10) rfl _ _ rfl rfl (by rw [setCell_size]; rfl) HC3.out hs3 HYL.out ?_; intro c4 w4 hc4 hg4 hr4; have sc4 := hc4.isSl; have hb4 := Below_of_grown HB3.out hg4 HB3.out.size (fun b hb => Nat.le_trans HBR.out.size (HRW.out b hb)); have c5 := (HA.out.below hb4).cell hxn; rw [HNX.out] at c5; rw [HOB.out] at hc4; have HC4 := Lib.hid hc4; have HG4 := Lib.hid hg4; have HR4 := Lib.hid hr4; clear hc4 hg4 hr4 hb4))
          go_roundw
          case rel =>
            refine ⟨k + 1, _, _, rfl, rfl, HST.out, HC4.out, HD3.out.grown HG4.out (fun b hb hc => ?_), Kp.grown HK3.out HG4.out HRW.out⟩
            have h1 := HRW.out b hc
            obtain ⟨_, e⟩ := row_eq hb
            omega
          case measure =>
            have h1 := HC4.out.len
            rw [orb_length] at h1
            omega
        | true =>
          rw [hm] at d1
          have hfin := HC1.out.done HP.out (by rw [HN.out]; exact hlt) HCY.out (by rw [HX.out]; exact hm) HALL.out
          have hme : ∀ j, j < i + 1 → at? E j = true := fun j hj => by
            have h2 : at? E i = true ∧ ∀ j, at? D j = true → at? E j = true := by
              rcases hfin with h | h
              · exact ⟨h.2.2.1, h.2.2.2⟩
              · exact ⟨h.2.2.1, h.2.2.2⟩
            rcases Nat.lt_or_ge j i with h | h
            · exact h2.2 j (HALL.out j h)
            · rw [show j = i by omega]; exact h2.1
          have HME := Lib.hid hme; clear hme
          rcases hfin with ⟨hk, h1, -, -⟩ | ⟨hk, h1, -, -⟩
          · have H1 := Lib.hid h1; clear h1 hm
            subst hk
            have hco2 := HCO.out.stay HC1.out
            have ho2 := HO.out.but hdl HKP.out
            have HCO2 := Lib.hid hco2; have HO2 := Lib.hid ho2
            clear hco2 ho2
            go_wp2_with fail
            go_roundw
            case rel => exact ⟨i + 1, E, vs, C, by omega, by go_num, HD2.out, H1.out, HCO2.out, HME.out, HO2.out, HBR2.out, by omega⟩
            case measure => simp [intOf]; omega
          · have H1 := Lib.hid h1; clear h1 hm
            have hk1 : (0 : Int) < (k : Int) := by omega
            have hkn : k ≤ n := by
              have h1 := cntT_le E
              have h2 := HC1.out.cnt
              rw [HEL.out] at h1
              omega
            have hvl : vs.length ≤ 1000000000000 := by
              have h2 := H1.out.sum
              have h3 := H1.out.pos
              have h4 := cntT_le E
              have h5 : ∀ L : List Nat, (∀ l ∈ L, 0 < l) → L.length ≤ L.sum := fun L => by
                induction L with
                | nil => intro _; simp
                | cons l L ih => intro h; have := ih fun x hx => h x (by simp [hx]); have := h l (by simp); simp; omega
              have h6 := h5 _ h3
              rw [h2] at h6
              rw [HEL.out] at h4
              have h7 := HO.out.len
              simp at h6
              omega
            have HVL := Lib.hid hvl; clear hvl
            have hol : (orb P i k).length ≤ 12 := by rw [orb_length]; omega
            have HOL := Lib.hid hol; clear hol
            go_wp2_with fail
            refine (sort_calls u10 (orb P i k) W.heap.size _ HC.out HOL.out hzz).mono ?_
            rintro e wa ⟨⟨_, rfl⟩, ys, hp2, hs2, ho2, hsz2, hb2, hot2⟩
            have hyl : ys.length = k := by rw [hp2.length_eq, orb_length]
            have hco2 := HCO.out.step HP.out (by rw [HN.out]; exact hlt) HCY.out HC1.out H1.out hp2 hs2
            have hkp2 := Kp.below HKP.out hb2
            have hd2 : OwnB wa w0.heap.size dn E := Go.Sl.Own.of_block HD2.out fun c hc => hb2.block c (by obtain ⟨_, e⟩ := row_eq hc; omega)
            have hb3 : Below w0.heap.size w0 wa := HBR2.out.trans (hb2.mono HBR.out.size)
            have hlr := HO.out.but hdl hkp2
            have HYS := Lib.hid ho2; have HCO2 := Lib.hid hco2; have HD3 := Lib.hid hd2; have HB3 := Lib.hid hb3; have HLR := Lib.hid hlr; have HYL := Lib.hid hyl
            have hzw : W.heap.size ≤ wa.heap.size := by omega
            clear hp2 hs2 ho2 hb2 hot2 hco2 hkp2 hd2 hb3 hlr hyl hsz2
            go_wp2_with fail
            refine (clip_calls u10 ys W.heap.size _ HYS.out).mono ?_
            rintro e w' ⟨rfl, r, rfl, hr⟩
            have sr := hr.isSl
            have HR := Lib.hid (OwnI.low hr hsB); clear hr
            have hzB : B1 ≤ wa.heap.size := by omega
            go_wp2_with (first
              | (at_builtin; go_loud (refine wpList_pushV (v := u7) rfl _ _ rfl rfl rfl HLR.out.own sr hzB HVL.out ?_); intro o4 w4 ho4 hg4 hr4; have so4 := ho4.1; have HO4 := Lib.hid ho4; have HG4 := Lib.hid hg4; clear ho4 hg4 hr4))
            have hb4 := Below_of_grown HB3.out HG4.out HB3.out.size (fun b hb => by have := (HLR.out.own.lt b hb).1; omega)
            have hs4 : B1 ≤ w4.heap.size := Nat.le_trans hzB HG4.out.size
            have hpu := HLR.out.push HR.out HO4.out HG4.out
            have hd4 := HD3.out.grown HG4.out (fun b hb hc => by have h1 := (HLR.out.own.lt b hc).1; obtain ⟨_, e⟩ := row_eq hb; omega)
            have hmap : (C ++ [ys]).map List.length = C.map List.length ++ [k] := by rw [List.map_append, List.map_cons, List.map_nil, HYL.out]
            have HB4 := Lib.hid hb4; have HPU := Lib.hid hpu; have HD4 := Lib.hid hd4; have HMAP := Lib.hid hmap
            clear hb4 hpu hd4 hmap
            go_roundw
            case rel => exact ⟨i + 1, E, _, C ++ [ys], by omega, by go_num, HD4.out, by rw [HMAP.out]; exact H1.out, HCO2.out, HME.out, HPU.out, HB4.out, hs4⟩
            case measure => simp [intOf]; omega
    · have hfin := hcy.ok (fun j hj => hall j (by rw [HN.out] at hj; omega))
      obtain ⟨lab, hlab⟩ := hco.lab HP.out (fun j hj => hall j (by rw [HN.out] at hj; omega))
      have HF := Lib.hid hfin; have HO := Lib.hid ho; have HLAB := Lib.hid hlab; have HBF := Lib.hid (HB0.out.trans (hbr.mono hww))
      clear hfin ho hbr hcy hco hall hd hlab
      go_wp2_with fail
      refine (clipV_calls u7 vs _ HO.out.own.sl).mono ?_
      rintro e w' ⟨⟨v', rfl, hv'⟩, rfl⟩
      have sv' := hv'.1
      have HV' := Lib.hid hv'
      clear hv'
      go_wp2_with fail
      go_ret
      exact ⟨_, vs, C, lab, rfl, ⟨HV'.out, HO.out.len, fun i hi => (HO.out.row i hi).ints⟩, HF.out, HLAB.out, HBF.out⟩

end Go.Proofs.Ytckopilciekfbaa

