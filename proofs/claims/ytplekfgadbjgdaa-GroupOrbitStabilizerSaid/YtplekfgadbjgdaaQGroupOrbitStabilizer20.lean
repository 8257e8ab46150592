/- permgroup.orbits walked: all orbits. -/
import Derived.Test.YtplekfgadbjgdaaQGroupOrbitStabilizer0
import Derived.Test.YtplekfgadbjgdaaQGroupOrbitStabilizer1
import Derived.Test.YtplekfgadbjgdaaQGroupOrbitStabilizer2
import Derived.Test.YtplekfgadbjgdaaQGroupOrbitStabilizer3
import Derived.Test.YtplekfgadbjgdaaQGroupOrbitStabilizer4
import Derived.Test.YtplekfgadbjgdaaQGroupOrbitStabilizer5
import Derived.Test.YtplekfgadbjgdaaQGroupOrbitStabilizer6
import Derived.Test.YtplekfgadbjgdaaQGroupOrbitStabilizer8
import Derived.Test.YtplekfgadbjgdaaQGroupOrbitStabilizer9
import Derived.Test.YtplekfgadbjgdaaQGroupOrbitStabilizer10
import Derived.Test.YtplekfgadbjgdaaQGroupOrbitStabilizer11
import Derived.Test.YtplekfgadbjgdaaQGroupOrbitStabilizer12
import Derived.Test.YtplekfgadbjgdaaQGroupOrbitStabilizer13
import Derived.Test.YtplekfgadbjgdaaQGroupOrbitStabilizer14
import Derived.Test.YtplekfgadbjgdaaQGroupOrbitStabilizer15
import Derived.Test.YtplekfgadbjgdaaQGroupOrbitStabilizer16
import Derived.Test.YtplekfgadbjgdaaQGroupOrbitStabilizer17
import Derived.Test.YtplekfgadbjgdaaQGroupOrbitStabilizer18
import Derived.Test.YtplekfgadbjgdaaQGroupOrbitStabilizer19

namespace Go.Proofs.Ytplekfgadbjgdaa
open Go.RowKit Go.Sl

/-- The state of orbits at a point. -/
def OrbSt (n : Nat) (S : List (List Int)) (b : Nat) (w : World) (i : Nat) : Prop := ∃ v vs out, CelO w b v 24 ∧ RO w (b + 1) v vs out ∧ Orbs n S out ∧ (∀ j : Nat, j < i → isIn (j : Int) out = true) ∧ out.length ≤ i
theorem AllOrbs.of {n : Nat} {S : List (List Int)} {out : List (List Int)} (h : Orbs n S out) (ha : ∀ j : Nat, j < n → isIn (j : Int) out = true) : AllOrbs n S out := ⟨h, fun i hi => isIn_iff.1 (ha i hi)⟩
theorem Orbs.more {n i : Nat} {S : List (List Int)} {o ys : List Int} {out : List (List Int)} (h : Orbs n S out) (hno : isIn (i : Int) out = false) (hg : Grow n S i o o.length) (hn : n ≤ 1000) (hS : ∀ g ∈ S, Pm n g) (hi : i < n) (hp : ys.Perm o) (ha : ∀ j : Nat, j < i → isIn (j : Int) out = true) :
    Orbs n S (out ++ [ys]) ∧ (∀ j : Nat, j < i + 1 → isIn (j : Int) (out ++ [ys]) = true) := by
  have hy := (hg.isOrb hn hS hi).perm hp
  have hiy : (i : Int) ∈ ys := hp.mem_iff.2 hg.base
  refine ⟨h.push hy hiy fun o ho hio => ?_, fun j hj => ?_⟩
  · have := isIn_iff.2 ⟨o, ho, hio⟩
    rw [hno] at this; cases this
  · rcases Nat.lt_succ_iff_lt_or_eq.1 hj with h1 | rfl
    · obtain ⟨o, ho, hjo⟩ := isIn_iff.1 (ha j h1)
      exact isIn_iff.2 ⟨o, List.mem_append_left _ ho, hjo⟩
    · exact isIn_iff.2 ⟨ys, by simp, hiy⟩

set_option maxHeartbeats 8000000 in
set_option maxRecDepth 100000 in
theorem orbits_calls (n : Nat) (gv : Value) (gvs : List Value) (S : List (List Int)) (w : World) (hr : RowsV w gv gvs S) (hS : ∀ g ∈ S, Pm n g) (hn : n ≤ 9) (hl : S.length ≤ 6) :
    Calls Try.prog 88 #[.int .i64 n, gv] w fun e w' => ∃ v vs out, e = .returned v ∧ RO w' w.heap.size v vs out ∧ AllOrbs n S out ∧ out.length ≤ n ∧ Below w.heap.size w w' := by
  have sgv := hr.isSl
  have lgv := hr.len
  obtain ⟨G, hG⟩ : ∃ G, S.length = G := ⟨_, rfl⟩
  rw [hG] at lgv hl
  obtain ⟨NB, hNB⟩ : ∃ NB, w.heap.size = NB := ⟨_, rfl⟩
  obtain ⟨W1, hW1⟩ : ∃ W, W = w.alloc (.cells #[.slice none 0 0] 24) := ⟨_, rfl⟩
  have cn := (show CelO W1 NB (.slice none 0 0) 24 by rw [hW1, ← hNB]; exact heap_alloc_new _ _)
  have b1 : Below w.heap.size w W1 := by rw [hW1]; exact (Below.refl _ _).alloc (Nat.le_refl _) _
  have hst : OrbSt n S NB W1 0 := ⟨_, _, _, cn, ro_nilO _ _, orbs_nil, fun j hj => absurd hj (Nat.not_lt_zero _), Nat.le_refl _⟩
  have hW1' := hW1.symm
  have hsz1 : W1.heap.size = NB + 1 := by rw [hW1, World.size_alloc, hNB]
  have HST := Lib.hid hst; have HB1 := Lib.hid b1; have HR := Lib.hid hr; have HS := Lib.hid hS; have HG := Lib.hid hG; have HNB := Lib.hid hNB; have HZ1 := Lib.hid hsz1
  clear hst b1 hr hS hG cn hW1 hsz1
  go_enter Try.func88, Try.ntmps88
  go_wp2_with fail
  clear hW1'
  go_loopw [14] (fun s wr => ∃ i : Nat, s = .int .i64 i ∧ i ≤ n ∧ OrbSt n S NB wr i ∧ Below w.heap.size w wr ∧ NB + 1 ≤ wr.heap.size) (fun s _ => n - (intOf s).toNat)
  case atStart => exact ⟨0, rfl, Nat.zero_le _, HST.out, HB1.out, Nat.le_of_eq HZ1.out.symm⟩
  case round =>
    obtain ⟨i, rfl, hi, ⟨v, vs, out, hc, ho, hob, hall, hol⟩, hb, hsz⟩ := hrel
    have sv := ho.rows.isSl
    have kc := hc.cell
    have HC := Lib.hid hc; have HO := Lib.hid ho; have HOB := Lib.hid hob; have HALL := Lib.hid hall; have HB := Lib.hid hb
    clear hc ho hob hall hb
    by_cases hlt : i < n
    · go_wp2_with fail
      refine (inOrb_calls v vs out i NB _ HO.out.rows HC.out).mono ?_
      obtain ⟨bv, hbv⟩ : ∃ bv, isIn (i : Int) out = bv := ⟨_, rfl⟩
      rw [hbv]
      rintro e w1 ⟨rfl, hb1⟩
      have hz1 := hb1.size
      replace HC := Lib.hid (HC.out.below hb1); replace HO := Lib.hid (HO.out.below hb1); replace HB := Lib.hid (Below.chain HB.out hb1)
      have HBV := Lib.hid hbv
      clear hb1 kc hbv
      have kc := HC.out.cell
      cases bv
      · obtain ⟨W2, hW2⟩ : ∃ W, W = w1.alloc (.cells #[.int .i64 i] 3) := ⟨_, rfl⟩
        have b2 : Below w1.heap.size w1 W2 := by rw [hW2]; exact (Below.refl _ _).alloc (Nat.le_refl _) _
        have o2 : OwnI W2 w1.heap.size (.slice (some ⟨w1.heap.size, 0, none⟩) 1 1) [(i : Int)] := own_lit1 (by rw [hW2]; exact heap_alloc_new _ _) (Nat.le_refl _)
        have hW2' := hW2.symm
        have HO2 := Lib.hid o2; have HB2 := Lib.hid b2
        clear hW2 b2 o2 kc
        go_wp2_with fail
        clear hW2'
        rename World => wz
        go_loopw [8, 9] (fun o k wr => ∃ (k' : Nat) (os : List Int), k = .int .i64 k' ∧ k' ≤ os.length ∧ OwnI wr w1.heap.size o os ∧ Grow n S i os k' ∧ Below w1.heap.size w1 wr) (fun _ k _ => 10 - (intOf k).toNat)
        case atStart => exact ⟨0, _, rfl, Nat.zero_le _, HO2.out, grow_one hlt, HB2.out⟩
        case round =>
          obtain ⟨k', os, rfl, hk', ho, hg, hb⟩ := hrel
          have so := ho.isSl
          have lo := ho.len
          have ho9 := hg.len (by omega) HS.out hlt
          obtain ⟨L, hL⟩ : ∃ L, os.length = L := ⟨_, rfl⟩
          rw [hL] at lo ho9 hk'
          have HL := Lib.hid hL; have HOS := Lib.hid ho; have HGR := Lib.hid hg; have HB3 := Lib.hid hb
          clear hL ho hg hb
          by_cases hkl : k' < L
          · go_wp2_with fail
            go_loopw [8, 30] (fun o q wr => ∃ (q' : Nat) (os : List Int), q = .int .i64 q' ∧ q' ≤ G ∧ OwnI wr w1.heap.size o os ∧ Grow n S i os k' ∧ k' < os.length ∧ Part S os k' q' ∧ Below w1.heap.size w1 wr) (fun _ q _ => G - (intOf q).toNat)
            case atStart => exact ⟨0, os, rfl, Nat.zero_le _, HOS.out, HGR.out, by rw [HL.out]; exact hkl, part_zero _ _ _, HB3.out⟩
            case round =>
              obtain ⟨q', os2, rfl, hq', ho, hg, hk2, hp, hb⟩ := hrel
              have so2 := ho.isSl
              have lo2 := ho.len
              have ho9 := hg.len (by omega) HS.out hlt
              obtain ⟨L2, hL2⟩ : ∃ L2, os2.length = L2 := ⟨_, rfl⟩
              by_cases hqG : q' < G
              · have hqS : q' < S.length := by rw [HG.out]; exact hqG
                have hRW := (HR.out.below (Below.chain HB.out hb))
                have cr := hRW.cell hqS
                have rr := hRW.row hqS
                obtain ⟨r, hr⟩ : ∃ r, nthv gvs q' = r := ⟨_, rfl⟩
                rw [hr] at cr rr
                have sr := rr.isSl
                have lr := rr.len
                have hgm := HS.out _ (nthr_mem hqS)
                rw [hgm.2] at lr
                obtain ⟨x, hx⟩ : ∃ x, nth os2 k' = x := ⟨_, rfl⟩
                have cx := ho.ints.cell hk2
                have hxr := hg.rng (by omega) HS.out hlt (nth_mem hk2)
                rw [hx] at cx hxr
                obtain ⟨xn, rfl⟩ : ∃ xn : Nat, x = (xn : Int) := ⟨x.toNat, by omega⟩
                have hxn : xn < n := by omega
                have cy := rr.cell (k := xn) (by rw [hgm.2]; exact hxn)
                have hkeep := fun h => Part.keep hp h
                have hpush := Part.push hp hk2
                have hgpush := fun h => hg.push (q := q') (by omega) HS.out hlt hk2 hqS h
                rw [hx, Int.toNat_natCast] at hkeep hpush hgpush
                obtain ⟨y, hy⟩ : ∃ y, nth (nthr S q') xn = y := ⟨_, rfl⟩
                rw [hy] at cy hkeep hpush hgpush
                rw [hL2] at lo2 ho9 hk2
                have HL2 := Lib.hid hL2; have HO2 := Lib.hid ho; have HG2 := Lib.hid hg; have HKP := Lib.hid hkeep; have HPU := Lib.hid hpush; have HGP := Lib.hid hgpush; have HB4 := Lib.hid hb
                clear hL2 ho hg hp hb hRW rr hr hgm hx hkeep hpush hgpush hy hqS
                go_wp2_with fail
                refine (contains_calls _ os2 y _ HO2.out.ints).mono ?_
                rintro e w' ⟨rfl, rfl⟩
                by_cases hmem : y ∈ os2
                · rw [decide_eq_true hmem]
                  go_wp2_with fail
                  go_roundw
                  case rel => exact ⟨q' + 1, os2, rfl, hqG, HO2.out, HG2.out, by rw [HL2.out]; exact hk2, HKP.out hmem, HB4.out⟩
                  case measure => (simp [intOf]; try omega)
                · rw [decide_eq_false hmem]
                  have HNM := Lib.hid hmem
                  clear hmem
                  go_wp2_with (at_builtin; refine wpList_push (v := u8) rfl _ _ rfl rfl rfl HO2.out HB4.out.size (by rw [HL2.out]; omega) ?_; intro v' w' ho hg hr; have s2 := ho.isSl)
                  have hb5 := Below_of_grown HB4.out hg HB4.out.size (fun b hb => (HO2.out.lt b hb).1)
                  go_roundw
                  case rel => exact ⟨q' + 1, os2 ++ [y], rfl, hqG, ho, HGP.out HNM.out, by rw [List.length_append, HL2.out]; omega, HPU.out, hb5⟩
                  case measure => (simp [intOf]; try omega)
              · obtain rfl : q' = G := by omega
                have HP := Lib.hid hp; have HO2 := Lib.hid ho; have HG2 := Lib.hid hg; have HB4 := Lib.hid hb; have HK2 := Lib.hid hk2
                clear hp ho hg hb hL2 lo2
                go_wp2_with fail
                go_roundw
                case rel => exact ⟨k' + 1, os2, by go_num, HK2.out, HO2.out, HG2.out.next (by rw [HG.out]; exact HP.out), HB4.out⟩
                case measure => (simp [intOf]; try omega)
          · obtain rfl : k' = L := by omega
            have hgr := HGR.out
            rw [← HL.out] at hgr
            have HGR2 := Lib.hid hgr
            clear hgr HGR
            have hz3 := HB3.out.size
            go_wp2_with fail
            refine (sort_calls _ os w1.heap.size _ HOS.out (by rw [HL.out]; omega) hz3).mono ?_
            rintro e w3 ⟨⟨u, rfl⟩, ys, hperm, -, hoy, hsz3, hb3, -⟩
            have hmore := HOB.out.more HBV.out HGR2.out (by omega) HS.out hlt hperm HALL.out
            have hypos : 0 < ys.length := by rw [hperm.length_eq]; exact List.length_pos_of_mem HGR2.out.base
            have hb13 := HB3.out.trans hb3
            have hz13 := hb13.size
            have hc3 := HC.out.below hb13
            have ho3 := HO.out.below hb13
            have HM := Lib.hid hmore; have HYP := Lib.hid hypos; have HOY0 := Lib.hid hoy; have HC0 := Lib.hid hc3; have HRO0 := Lib.hid ho3; have HB13 := Lib.hid (Below.chain HB.out hb13)
            clear hperm hoy hb3 hmore hypos hb13 hc3 ho3
            have soy := HOY0.out.isSl
            go_wp2_with fail
            refine wp_region_held_drew (S := fun _ => True) (by kernel_rfl) (trivial) (fun hHeld => ?_)
            have BEL : Below (World.heap w3).size w3 (World.drew w3) := (Below.refl _ _).drew
            have BX := HC0.out.below BEL
            have HOY := HOY0.out.below BEL
            obtain ⟨y0, hy0⟩ : ∃ y0, y0 = World.drew w3 := ⟨_, rfl⟩
            rw [← hy0] at BEL BX HOY ⊢
            (try rw [← hy0] at hHeld)
            clear hy0
            refine' wpAnyH_take (i := 1) (oi := ?oiz1) (v := ?vz1) ?haz1 (by kernel_rfl) ?hfz1 ?hrz1 ?hQz1 (Or.inl ⟨?hwz1, ?hyz1⟩) (by assumption) ?restz1
            case haz1 => (simp only [List.getElem?_toArray, List.getElem?_cons_succ, List.getElem?_cons_zero]; exact rfl)
            case hQz1 => exact fun _ _ _ h => h
            case hfz1 => kernel_rfl
            case hrz1 => kernel_rfl
            case hwz1 => rfl
            case hyz1 => (intro w hSw; (try dsimp only at hSw); skip; go_simp; (try with_reducible rfl))
            try simp only [Act.put, List.setIfInBounds_toArray, List.set_cons_zero, List.set_cons_succ]
            refine wpAnyH_ready (rs := [0, 2]) (by kernel_rfl) (by simp) ?_
            refine' AllReadyH.cons (o := ?oiz14) ?haz14 (fun K hK => ?stepz14) (AllReadyH.cons (o := ?oiz15) ?haz15 (fun K hK => ?stepz15) AllReadyH.nil)
            case haz14 => (simp only [List.getElem?_toArray, List.getElem?_cons_zero]; exact rfl)
            case haz15 => (simp only [List.getElem?_toArray, List.getElem?_cons_succ, List.getElem?_cons_zero]; exact rfl)
            case stepz14 =>
              have kk := BX.cell
              go_simp

              clear kk
              refine hK.out _ _ (trivial) (fun hHeld => ?_)
              clear hK K
              try simp only [Act.put, List.setIfInBounds_toArray, List.set_cons_zero, List.set_cons_succ]
              refine wpAnyH_ready (rs := [2]) (by kernel_rfl) (by simp) ?_
              refine' AllReadyH.cons (o := ?oiz5) ?haz5 (fun K hK => ?stepz5) AllReadyH.nil
              case haz5 => (simp only [List.getElem?_toArray, List.getElem?_cons_succ, List.getElem?_cons_zero]; exact rfl)
              go_simp
              refine (clipB_calls _ ys w1.heap.size y0 HOY).mono ?_
              rintro e y1 ⟨cv, rfl, hcv, sb⟩
              have scv := hcv.isSl
              clear HOY
              replace BX := BX.below sb
              replace BEL := Below.chain BEL sb
              clear sb
              refine hK.out _ _ (trivial) (fun hHeld => ?_)
              clear hK K
              try simp only [Act.put, List.setIfInBounds_toArray, List.set_cons_zero, List.set_cons_succ]
              refine wpAnyH_ready (rs := [3]) (by kernel_rfl) (by simp) ?_
              refine' AllReadyH.cons (o := ?oiz4) ?haz4 (fun K hK => ?stepz4) AllReadyH.nil
              case haz4 => (simp only [List.getElem?_toArray, List.getElem?_cons_succ, List.getElem?_cons_zero]; exact rfl)
              go_simp
              obtain ⟨y2, hy2⟩ : ∃ y2, y2 = World.alloc y1 (.cells #[cv] 22) := ⟨_, rfl⟩
              rw [← hy2]
              have sb : Below (World.heap y1).size y1 y2 := by rw [hy2]; exact (Below.refl _ _).alloc (Nat.le_refl _) _
              have HY12 := Lib.hid hy2
              have BW12 := Lib.hid BEL
              have HC12 := Lib.hid hcv

              clear hy2
              replace BX := BX.below sb
              replace hcv := hcv.below sb
              replace BEL := Below.chain BEL sb
              clear sb
              refine hK.out _ _ (trivial) (fun hHeld => ?_)
              clear hK K
              try simp only [Act.put, List.setIfInBounds_toArray, List.set_cons_zero, List.set_cons_succ]
              refine wpAnyH_ready (rs := [4]) (by kernel_rfl) (by simp) ?_
              refine' AllReadyH.cons (o := ?oiz3) ?haz3 (fun K hK => ?stepz3) AllReadyH.nil
              case haz3 => (simp only [List.getElem?_toArray, List.getElem?_cons_succ, List.getElem?_cons_zero]; exact rfl)

              have hro := HRO0.out.below BW12.out
              have hz12 := BW12.out.size
              refine step_pushS (.tmp 57) (.tmp 60) HY12.out rfl rfl rfl hro.own scv (by omega) (by rw [hro.len]; omega) ?_
              intro v9 y9 ho9 hg9 hr9
              have hrr := row_some (v := cv) (by have := HC12.out.ints.cap; have := HYP.out; omega)
              have hcb := (HC12.out.lt _ hrr).1
              have RP := ro_push hro (HC12.out.low (by omega)) HYP.out (fun e => by have h1 := (HO.out.own.lt _ e).2; omega) (fun j hj e => by have h1 := (HO.out.blk hj).2; omega) ho9 hg9 hr9
              have bx9 : CelO y9 NB v 24 := (hg9.block _ (HC0.out.below BW12.out).lt fun e => by have h1 := (hro.own.lt _ e.symm).1; omega).trans (HC0.out.below BW12.out)
              have hz9 := hg9.size
              have s9 := ho9.1
              refine hK.out _ _ (trivial) (fun hHeld => ?_)
              clear hK K
              try simp only [Act.put, List.setIfInBounds_toArray, List.set_cons_zero, List.set_cons_succ]
              refine wpAnyH_ready (rs := [5]) (by kernel_rfl) (by simp) ?_
              refine' AllReadyH.cons (o := ?oiz2) ?haz2 (fun K hK => ?stepz2) AllReadyH.nil
              case haz2 => (simp only [List.getElem?_toArray, List.getElem?_cons_succ, List.getElem?_cons_zero]; exact rfl)
              have f0 := bx9.free; have b0 := bx9.cell
              go_simp

              clear f0 b0
              refine hK.out _ _ (trivial) (fun hHeld => ?_)
              clear hK K
              try simp only [Act.put, List.setIfInBounds_toArray, List.set_cons_zero, List.set_cons_succ]
              refine wpAnyH_done (by kernel_rfl) ?_ _
              have hbb := Below_of_grown (Below.chain HB13.out BW12.out) hg9 (by omega) (fun b hb => by have h1 := (hro.own.lt _ hb).1; omega)
              have HR := Lib.hid (show OrbSt n S NB (y9.setCell ⟨NB, 0, none⟩ v9) (i + 1) ∧ Below w.heap.size w (y9.setCell ⟨NB, 0, none⟩ v9) ∧ NB + 1 ≤ (y9.setCell ⟨NB, 0, none⟩ v9).heap.size from ⟨⟨_, _, _, bx9.set _, RP.setOther (Nat.lt_succ_self _) _, HM.out.1, HM.out.2, by rw [List.length_append]; simp only [List.length_cons, List.length_nil]; omega⟩, hbb.setCell (p := ⟨NB, 0, none⟩) (by show w.heap.size ≤ NB; have := HNB.out; omega) _, by simp; omega⟩)
              clear hbb hro ho9 hg9 hr9 RP bx9
              go_wp2_with fail
              go_roundw
              case rel => exact ⟨i + 1, rfl, hlt, HR.out⟩
              case measure => (simp [intOf]; try omega)
            case stepz15 =>
              go_simp
              refine (clipB_calls _ ys w1.heap.size y0 HOY).mono ?_
              rintro e y4 ⟨cv, rfl, hcv, sb⟩
              have scv := hcv.isSl
              clear HOY
              replace BX := BX.below sb
              replace BEL := Below.chain BEL sb
              clear sb
              refine hK.out _ _ (trivial) (fun hHeld => ?_)
              clear hK K
              try simp only [Act.put, List.setIfInBounds_toArray, List.set_cons_zero, List.set_cons_succ]
              refine wpAnyH_ready (rs := [0, 3]) (by kernel_rfl) (by simp) ?_
              refine' AllReadyH.cons (o := ?oiz12) ?haz12 (fun K hK => ?stepz12) (AllReadyH.cons (o := ?oiz13) ?haz13 (fun K hK => ?stepz13) AllReadyH.nil)
              case haz12 => (simp only [List.getElem?_toArray, List.getElem?_cons_zero]; exact rfl)
              case haz13 => (simp only [List.getElem?_toArray, List.getElem?_cons_succ, List.getElem?_cons_zero]; exact rfl)
              case stepz12 =>
                have kk := BX.cell
                go_simp

                clear kk
                refine hK.out _ _ (trivial) (fun hHeld => ?_)
                clear hK K
                try simp only [Act.put, List.setIfInBounds_toArray, List.set_cons_zero, List.set_cons_succ]
                refine wpAnyH_ready (rs := [3]) (by kernel_rfl) (by simp) ?_
                refine' AllReadyH.cons (o := ?oiz8) ?haz8 (fun K hK => ?stepz8) AllReadyH.nil
                case haz8 => (simp only [List.getElem?_toArray, List.getElem?_cons_succ, List.getElem?_cons_zero]; exact rfl)
                go_simp
                obtain ⟨y5, hy5⟩ : ∃ y5, y5 = World.alloc y4 (.cells #[cv] 22) := ⟨_, rfl⟩
                rw [← hy5]
                have sb : Below (World.heap y4).size y4 y5 := by rw [hy5]; exact (Below.refl _ _).alloc (Nat.le_refl _) _
                have HY12 := Lib.hid hy5
                have BW12 := Lib.hid BEL
                have HC12 := Lib.hid hcv

                clear hy5
                replace BX := BX.below sb
                replace hcv := hcv.below sb
                replace BEL := Below.chain BEL sb
                clear sb
                refine hK.out _ _ (trivial) (fun hHeld => ?_)
                clear hK K
                try simp only [Act.put, List.setIfInBounds_toArray, List.set_cons_zero, List.set_cons_succ]
                refine wpAnyH_ready (rs := [4]) (by kernel_rfl) (by simp) ?_
                refine' AllReadyH.cons (o := ?oiz7) ?haz7 (fun K hK => ?stepz7) AllReadyH.nil
                case haz7 => (simp only [List.getElem?_toArray, List.getElem?_cons_succ, List.getElem?_cons_zero]; exact rfl)

                have hro := HRO0.out.below BW12.out
                have hz12 := BW12.out.size
                refine step_pushS (.tmp 57) (.tmp 60) HY12.out rfl rfl rfl hro.own scv (by omega) (by rw [hro.len]; omega) ?_
                intro v9 y9 ho9 hg9 hr9
                have hrr := row_some (v := cv) (by have := HC12.out.ints.cap; have := HYP.out; omega)
                have hcb := (HC12.out.lt _ hrr).1
                have RP := ro_push hro (HC12.out.low (by omega)) HYP.out (fun e => by have h1 := (HO.out.own.lt _ e).2; omega) (fun j hj e => by have h1 := (HO.out.blk hj).2; omega) ho9 hg9 hr9
                have bx9 : CelO y9 NB v 24 := (hg9.block _ (HC0.out.below BW12.out).lt fun e => by have h1 := (hro.own.lt _ e.symm).1; omega).trans (HC0.out.below BW12.out)
                have hz9 := hg9.size
                have s9 := ho9.1
                refine hK.out _ _ (trivial) (fun hHeld => ?_)
                clear hK K
                try simp only [Act.put, List.setIfInBounds_toArray, List.set_cons_zero, List.set_cons_succ]
                refine wpAnyH_ready (rs := [5]) (by kernel_rfl) (by simp) ?_
                refine' AllReadyH.cons (o := ?oiz6) ?haz6 (fun K hK => ?stepz6) AllReadyH.nil
                case haz6 => (simp only [List.getElem?_toArray, List.getElem?_cons_succ, List.getElem?_cons_zero]; exact rfl)
                have f0 := bx9.free; have b0 := bx9.cell
                go_simp

                clear f0 b0
                refine hK.out _ _ (trivial) (fun hHeld => ?_)
                clear hK K
                try simp only [Act.put, List.setIfInBounds_toArray, List.set_cons_zero, List.set_cons_succ]
                refine wpAnyH_done (by kernel_rfl) ?_ _
                have hbb := Below_of_grown (Below.chain HB13.out BW12.out) hg9 (by omega) (fun b hb => by have h1 := (hro.own.lt _ hb).1; omega)
                have HR := Lib.hid (show OrbSt n S NB (y9.setCell ⟨NB, 0, none⟩ v9) (i + 1) ∧ Below w.heap.size w (y9.setCell ⟨NB, 0, none⟩ v9) ∧ NB + 1 ≤ (y9.setCell ⟨NB, 0, none⟩ v9).heap.size from ⟨⟨_, _, _, bx9.set _, RP.setOther (Nat.lt_succ_self _) _, HM.out.1, HM.out.2, by rw [List.length_append]; simp only [List.length_cons, List.length_nil]; omega⟩, hbb.setCell (p := ⟨NB, 0, none⟩) (by show w.heap.size ≤ NB; have := HNB.out; omega) _, by simp; omega⟩)
                clear hbb hro ho9 hg9 hr9 RP bx9
                go_wp2_with fail
                go_roundw
                case rel => exact ⟨i + 1, rfl, hlt, HR.out⟩
                case measure => (simp [intOf]; try omega)
              case stepz13 =>
                go_simp
                obtain ⟨y7, hy7⟩ : ∃ y7, y7 = World.alloc y4 (.cells #[cv] 22) := ⟨_, rfl⟩
                rw [← hy7]
                have sb : Below (World.heap y4).size y4 y7 := by rw [hy7]; exact (Below.refl _ _).alloc (Nat.le_refl _) _
                have HY12 := Lib.hid hy7
                have BW12 := Lib.hid BEL
                have HC12 := Lib.hid hcv

                clear hy7
                replace BX := BX.below sb
                replace hcv := hcv.below sb
                replace BEL := Below.chain BEL sb
                clear sb
                refine hK.out _ _ (trivial) (fun hHeld => ?_)
                clear hK K
                try simp only [Act.put, List.setIfInBounds_toArray, List.set_cons_zero, List.set_cons_succ]
                refine wpAnyH_ready (rs := [0]) (by kernel_rfl) (by simp) ?_
                refine' AllReadyH.cons (o := ?oiz11) ?haz11 (fun K hK => ?stepz11) AllReadyH.nil
                case haz11 => (simp only [List.getElem?_toArray, List.getElem?_cons_zero]; exact rfl)
                have kk := BX.cell
                go_simp

                clear kk
                refine hK.out _ _ (trivial) (fun hHeld => ?_)
                clear hK K
                try simp only [Act.put, List.setIfInBounds_toArray, List.set_cons_zero, List.set_cons_succ]
                refine wpAnyH_ready (rs := [4]) (by kernel_rfl) (by simp) ?_
                refine' AllReadyH.cons (o := ?oiz10) ?haz10 (fun K hK => ?stepz10) AllReadyH.nil
                case haz10 => (simp only [List.getElem?_toArray, List.getElem?_cons_succ, List.getElem?_cons_zero]; exact rfl)

                have hro := HRO0.out.below BW12.out
                have hz12 := BW12.out.size
                refine step_pushS (.tmp 57) (.tmp 60) HY12.out rfl rfl rfl hro.own scv (by omega) (by rw [hro.len]; omega) ?_
                intro v9 y9 ho9 hg9 hr9
                have hrr := row_some (v := cv) (by have := HC12.out.ints.cap; have := HYP.out; omega)
                have hcb := (HC12.out.lt _ hrr).1
                have RP := ro_push hro (HC12.out.low (by omega)) HYP.out (fun e => by have h1 := (HO.out.own.lt _ e).2; omega) (fun j hj e => by have h1 := (HO.out.blk hj).2; omega) ho9 hg9 hr9
                have bx9 : CelO y9 NB v 24 := (hg9.block _ (HC0.out.below BW12.out).lt fun e => by have h1 := (hro.own.lt _ e.symm).1; omega).trans (HC0.out.below BW12.out)
                have hz9 := hg9.size
                have s9 := ho9.1
                refine hK.out _ _ (trivial) (fun hHeld => ?_)
                clear hK K
                try simp only [Act.put, List.setIfInBounds_toArray, List.set_cons_zero, List.set_cons_succ]
                refine wpAnyH_ready (rs := [5]) (by kernel_rfl) (by simp) ?_
                refine' AllReadyH.cons (o := ?oiz9) ?haz9 (fun K hK => ?stepz9) AllReadyH.nil
                case haz9 => (simp only [List.getElem?_toArray, List.getElem?_cons_succ, List.getElem?_cons_zero]; exact rfl)
                have f0 := bx9.free; have b0 := bx9.cell
                go_simp

                clear f0 b0
                refine hK.out _ _ (trivial) (fun hHeld => ?_)
                clear hK K
                try simp only [Act.put, List.setIfInBounds_toArray, List.set_cons_zero, List.set_cons_succ]
                refine wpAnyH_done (by kernel_rfl) ?_ _
                have hbb := Below_of_grown (Below.chain HB13.out BW12.out) hg9 (by omega) (fun b hb => by have h1 := (hro.own.lt _ hb).1; omega)
                have HR := Lib.hid (show OrbSt n S NB (y9.setCell ⟨NB, 0, none⟩ v9) (i + 1) ∧ Below w.heap.size w (y9.setCell ⟨NB, 0, none⟩ v9) ∧ NB + 1 ≤ (y9.setCell ⟨NB, 0, none⟩ v9).heap.size from ⟨⟨_, _, _, bx9.set _, RP.setOther (Nat.lt_succ_self _) _, HM.out.1, HM.out.2, by rw [List.length_append]; simp only [List.length_cons, List.length_nil]; omega⟩, hbb.setCell (p := ⟨NB, 0, none⟩) (by show w.heap.size ≤ NB; have := HNB.out; omega) _, by simp; omega⟩)
                clear hbb hro ho9 hg9 hr9 RP bx9
                go_wp2_with fail
                go_roundw
                case rel => exact ⟨i + 1, rfl, hlt, HR.out⟩
                case measure => (simp [intOf]; try omega)
      · go_wp2_with fail
        go_roundw
        case rel => exact ⟨i + 1, rfl, hlt, ⟨v, vs, out, HC.out, HO.out, HOB.out, fun j hj => by
          rcases Nat.lt_succ_iff_lt_or_eq.1 hj with h1 | rfl
          · exact HALL.out j h1
          · exact HBV.out, by omega⟩, HB.out, by omega⟩
        case measure => (simp [intOf]; try omega)
    · obtain rfl : i = n := by omega
      go_wp2_with fail
      go_ret
      exact ⟨_, _, _, rfl, HO.out.low (by have := HNB.out; omega), .of HOB.out HALL.out, hol, HB.out⟩
end Go.Proofs.Ytplekfgadbjgdaa

