/- Colors along a braid: propagate, Propagate, walked. -/
import Derived.Test.YtplekfgadbjgdaaQTopSums0
import Derived.Test.YtplekfgadbjgdaaQTopSums1
import Derived.Test.YtplekfgadbjgdaaQTopSums3
import Derived.Test.YtplekfgadbjgdaaQTopSums4
import Derived.Test.YtplekfgadbjgdaaQTopSums5
import Derived.Test.YtplekfgadbjgdaaQTopSums7
import Derived.Test.YtplekfgadbjgdaaQTopSums8
import Derived.Test.YtplekfgadbjgdaaQTopSums10
import Derived.Test.YtplekfgadbjgdaaQTopSums15
import Derived.RangeFuncNested
import Derived.RangeFuncBound
import Derived.RangeFuncCalls
import Derived.RangeFuncLeaves
import Derived.RangeFuncBox
import Derived.Shelf.Abstract
import Derived.Shelf.RegionOpen
import Derived.OwnWalkIn
import Derived.TacticsInMore
import Derived.LoopNIn
import Derived.LoopIn
import Derived.Maps.AppendAt
import Derived.Deep.RegionLaw
namespace Go.Proofs.Ytplekfgadbjgdaa
open Go.RowKit Go.Sl

set_option maxHeartbeats 1000000 in
set_option maxRecDepth 100000 in
theorem propagate_calls (m : Int) (n : Nat) (vw vc : Value) (ws cs : List Int) (w : World) (hw : Ints w vw ws) (hc : Ints w vc cs) (hm : 0 < m) (hm2 : m ≤ 1000) (hn : cs.length = n) (hn2 : n ≤ 1000) (hws : BWord n ws) (hcs : Colors m cs) :
    Calls Try.prog 112 #[vw, vc, .int .i64 m] w fun e w' => ∃ u, e = .returned u ∧ OwnI w' w.heap.size u (prop m cs ws) ∧ Below w.heap.size w w' := by
  have sw := hw.isSl
  have lw := hw.len
  have i63 := sw.i63
  rw [lw] at i63
  have sc := hc.isSl
  have HW := Lib.hid hw; have HX := Lib.hid hws; have HC := Lib.hid hcs; have HN := Lib.hid hn
  have HCC := Lib.hid hc
  clear hw hws hcs hc hn
  go_enter Try.func112, Try.ntmps112
  go_wp2_with fail
  refine (clone_calls vc cs _ HCC.out (by rw [HN.out]; omega)).mono ?_
  rintro e w1 ⟨out, rfl, ho, hb1⟩
  have so := ho.isSl
  have HO := Lib.hid ho; have HB1 := Lib.hid hb1; clear ho hb1
  go_wp2_with fail
  go_loopw [17] (fun i wr => ∃ (k : Nat) (ds : List Int), k ≤ ws.length ∧ i = .int .i64 k ∧ ds = prop m cs (ws.take k) ∧ OwnI wr w.heap.size out ds ∧ Below w.heap.size w wr) (fun i _ => ws.length - (intOf i).toNat)
  case atStart => exact ⟨0, cs, Nat.zero_le _, rfl, rfl, HO.out, HB1.out⟩
  case round =>
    obtain ⟨k, ds, hk, rfl, hds, ho, hbr⟩ := hrel
    by_cases hlt : k < ws.length
    · have c1 := (HW.out.below hbr).cell hlt
      obtain ⟨x, hx⟩ : ∃ x, nth ws k = x := ⟨_, rfl⟩
      have hxb := HX.out _ (nth_mem hlt)
      rw [hx] at c1 hxb
      obtain ⟨hx0, hx1, hx2⟩ := hxb
      have hlen : ds.length = n := by rw [hds, prop_length, HN.out]
      have hdc : Colors m ds := by
        rw [hds]
        refine prop_colors hm HC.out fun y hy => ?_
        have := HX.out y (List.mem_of_mem_take hy)
        rw [HN.out]; omega
      have hnx : cstep m ds x = prop m cs (ws.take (k + 1)) := by
        rw [hds, List.take_succ_eq_append_getElem hlt, prop_append, ← nth_lt hlt, hx]; rfl
      obtain ⟨j, hj⟩ : ∃ j, x.natAbs = j := ⟨_, rfl⟩
      obtain ⟨i, hi⟩ : ∃ i, i = j - 1 := ⟨_, rfl⟩
      have hij : i + 1 = j := by omega
      have hjn : j < ds.length := by omega
      have hin : i < ds.length := by omega
      have lo := ho.len
      have d1 := ho.cell hin
      have d2 := ho.cell hjn
      obtain ⟨a, ha⟩ : ∃ a, nth ds i = a := ⟨_, rfl⟩
      obtain ⟨b, hb⟩ : ∃ b, nth ds j = b := ⟨_, rfl⟩
      have hab := hdc _ (nth_mem hin)
      have hbb := hdc _ (nth_mem hjn)
      rw [ha] at d1 hab
      rw [hb] at d2 hbb
      obtain ⟨ha1, ha2⟩ := hab
      obtain ⟨hb1, hb2⟩ := hbb
      have hji : (j : Int) - 1 = (i : Int) := by omega
      have hst : cstep m ds x = if 0 < x then (ds.set i ((2 * a - b + m) % m)).set j a else (ds.set i b).set j ((2 * b - a + m) % m) := by
        unfold cstep; rw [hj, ← hi, ha, hb]
      have f1 := ho.frozen hin
      have hx3 : -1000 ≤ x := by omega
      have hx4 : x ≤ 1000 := by omega
      have HJ := Lib.hid hj
      have HOO := Lib.hid ho; have HBR := Lib.hid hbr; have HNX := Lib.hid hnx; have HST := Lib.hid hst; have HIN := Lib.hid hin; have HJN := Lib.hid hjn
      have hm0 : (m == 0) = false := by rw [beq_eq_false_iff_ne]; omega
      clear ho hbr hnx hst hds hdc hx hj hi ha hb
      go_wp2_with fail
      refine (bindex_calls x _ hx3 hx4).mono ?_
      rintro e w' ⟨rfl, rfl⟩
      rw [HJ.out]
      go_wp2_with fail
      go_quiet (fail)
      have ho' := HOO.out.below (Below.drawn nq)
      have hbr' := HBR.out.trans ((Below.drawn nq).mono HBR.out.size)
      generalize wr.drewN nq = W at ho' hbr' ⊢
      have HO' := Lib.hid ho'; have HBR' := Lib.hid hbr'
      have fi := ho'.frozen HIN.out
      have fj := ho'.frozen HJN.out
      have gi := ho'.cell HIN.out
      have gj := ho'.cell HJN.out
      clear ho' hbr'
      by_cases hp : 0 < x
      · have hp' : x > 0 := hp
        obtain ⟨r, hr⟩ : ∃ r, (2 * a - b + m).tmod m = r := ⟨_, rfl⟩
        have hr2 : r = (2 * a - b + m) % m := by rw [← hr]; exact Int.tmod_eq_emod_of_nonneg (by omega)
        have hr3 : IntKind.i64.wrap ((2 * a - b + m).tmod m) = r := by
          rw [hr]
          have h1 := Int.emod_nonneg (2 * a - b + m) (show m ≠ 0 by omega)
          have h2 := Int.emod_lt_of_pos (2 * a - b + m) hm
          exact IntWalk.i64_in _ (by omega)
        have o2 := HO'.out.set HIN.out r
        have f2 := o2.frozen (k := j) (by rw [List.length_set]; exact HJN.out)
        have e2 := o2.cell (k := j) (by rw [List.length_set]; exact HJN.out)
        have o3 := o2.set (k := j) (by rw [List.length_set]; exact HJN.out) a
        have hfin : (ds.set i r).set j a = prop m cs (ws.take (k + 1)) := by rw [← HNX.out, HST.out, if_pos hp, hr2]
        have hbb : Below w.heap.size w ((W.setCell (vat out i) (.int .i64 r)).setCell (vat out j) (.int .i64 a)) := (HBR'.out.setCell (by exact HO'.out.ge HIN.out) _).setCell (by exact HO'.out.ge HJN.out) _
        have HF := Lib.hid hfin; have HO3 := Lib.hid o3; have HR2 := Lib.hid hr2; have HBB := Lib.hid hbb
        clear hbb o2 o3 hfin hr2
        go_wp2_with fail
        go_roundw
        case rel => exact ⟨k + 1, _, by omega, by go_num, HF.out, HO3.out, HBB.out⟩
        case measure => simp [intOf]; omega
      · have hp' : ¬ x > 0 := hp
        obtain ⟨r, hr⟩ : ∃ r, (2 * b - a + m).tmod m = r := ⟨_, rfl⟩
        have hr2 : r = (2 * b - a + m) % m := by rw [← hr]; exact Int.tmod_eq_emod_of_nonneg (by omega)
        have hr3 : IntKind.i64.wrap ((2 * b - a + m).tmod m) = r := by
          rw [hr]
          have h1 := Int.emod_nonneg (2 * b - a + m) (show m ≠ 0 by omega)
          have h2 := Int.emod_lt_of_pos (2 * b - a + m) hm
          exact IntWalk.i64_in _ (by omega)
        have o2 := HO'.out.set HIN.out b
        have f2 := o2.frozen (k := j) (by rw [List.length_set]; exact HJN.out)
        have e2 := o2.cell (k := j) (by rw [List.length_set]; exact HJN.out)
        have o3 := o2.set (k := j) (by rw [List.length_set]; exact HJN.out) r
        have hfin : (ds.set i b).set j r = prop m cs (ws.take (k + 1)) := by rw [← HNX.out, HST.out, if_neg hp, hr2]
        have hbb : Below w.heap.size w ((W.setCell (vat out i) (.int .i64 b)).setCell (vat out j) (.int .i64 r)) := (HBR'.out.setCell (by exact HO'.out.ge HIN.out) _).setCell (by exact HO'.out.ge HJN.out) _
        have HF := Lib.hid hfin; have HO3 := Lib.hid o3; have HR2 := Lib.hid hr2; have HBB := Lib.hid hbb
        clear hbb o2 o3 hfin hr2
        go_wp2_with fail
        go_region
        go_wp2_with fail
        go_roundw
        case rel => exact ⟨k + 1, _, by omega, by go_num, HF.out, HO3.out.below (Below.refl _ _).drew, HBB.out.drew⟩
        case measure => simp [intOf]; omega
    · have hfin : prop m cs (ws.take k) = prop m cs ws := by rw [List.take_of_length_le (by omega)]
      rw [hfin] at hds
      subst hds
      have HO' := Lib.hid ho; have HBR := Lib.hid hbr; clear ho hbr hfin
      go_wp2_with fail
      go_ret
      exact ⟨_, rfl, HO'.out, HBR.out⟩

end Go.Proofs.Ytplekfgadbjgdaa

