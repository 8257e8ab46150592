/- slices.BinarySearchFunc over rows in rising order, of which one is the wanted one. -/
import Derived.Test.YtplekfgadbjgdaaQMatchingCounts0
import Derived.Test.YtplekfgadbjgdaaQMatchingCounts1
import Derived.Test.YtplekfgadbjgdaaQMatchingCounts2
import Derived.Test.YtplekfgadbjgdaaQMatchingCounts3
import Derived.Test.YtplekfgadbjgdaaQMatchingCounts4
import Derived.Test.YtplekfgadbjgdaaQMatchingCounts5
import Derived.Test.YtplekfgadbjgdaaQMatchingCounts6
import Derived.Test.YtplekfgadbjgdaaQMatchingCounts7
import Derived.Test.YtplekfgadbjgdaaQMatchingCounts8
import Derived.Test.YtplekfgadbjgdaaQMatchingCounts9
import Derived.Test.YtplekfgadbjgdaaQMatchingCounts10
import Derived.Test.YtplekfgadbjgdaaQMatchingCounts11
import Derived.Test.YtplekfgadbjgdaaQMatchingCounts12
import Derived.Test.YtplekfgadbjgdaaQMatchingCounts13
import Derived.Test.YtplekfgadbjgdaaQMatchingCounts14
import Derived.Test.YtplekfgadbjgdaaQMatchingCounts15
import Derived.Test.YtplekfgadbjgdaaQMatchingCounts16
import Derived.Test.YtplekfgadbjgdaaQMatchingCounts17
import Derived.Test.YtplekfgadbjgdaaQMatchingCounts18
import Derived.Test.YtplekfgadbjgdaaQMatchingCounts19
import Derived.Test.YtplekfgadbjgdaaQMatchingCounts20
import Derived.Test.YtplekfgadbjgdaaQMatchingCounts21
import Derived.Test.YtplekfgadbjgdaaQMatchingCounts22
import Derived.Test.YtplekfgadbjgdaaQMatchingCounts23
import Derived.Test.YtplekfgadbjgdaaQMatchingCounts24
import Derived.Test.YtplekfgadbjgdaaQMatchingCounts25
import Derived.Test.YtplekfgadbjgdaaQMatchingCounts26
import Derived.Test.YtplekfgadbjgdaaQMatchingCounts27
import Derived.Test.YtplekfgadbjgdaaQMatchingCounts28
import Derived.Test.YtplekfgadbjgdaaQMatchingCounts29
import Derived.Test.YtplekfgadbjgdaaQMatchingCounts31
import Derived.Test.YtplekfgadbjgdaaQMatchingCounts32
import Derived.Test.YtplekfgadbjgdaaQMatchingCounts33
import Derived.Test.YtplekfgadbjgdaaQMatchingCounts36
import Derived.Test.YtplekfgadbjgdaaQMatchingCounts37
import Derived.Test.YtplekfgadbjgdaaQMatchingCounts38
import Derived.Test.YtplekfgadbjgdaaQMatchingCounts39
import Derived.Test.YtplekfgadbjgdaaQMatchingCounts40
import Derived.Test.YtplekfgadbjgdaaQMatchingCounts41
import Derived.Test.YtplekfgadbjgdaaQMatchingCounts42
import Derived.Deep.RegionLaw
import Derived.RangeFuncNested
import Derived.RangeFuncBound
import Derived.RangeFuncCalls
import Derived.RangeFuncLeaves
import Derived.RangeFuncBox
import Derived.Shelf.Abstract
import Derived.Shelf.RegionOpen
import Derived.OwnWalkIn
import Derived.TacticsInMore
import Derived.LoopNIn
import Derived.LoopIn
import Derived.Maps.AppendAt
namespace Go.Proofs.Ytplekfgadbjgdaa
open Go.RowKit Go.Sl Go.TL

set_option maxRecDepth 100000 in
theorem mc1_calls (a b : Value) (xs ys : List Int) (w : World) (ha : Ints w a xs) (hb : Ints w b ys) :
    Calls Try.prog 21 #[a, b] w fun e w' => e = .returned (.int .i64 (cmpL xs ys)) ∧ w = w' := by
  have HA := Lib.hid ha; have HB := Lib.hid hb
  have sa := ha.isSl
  have sb := hb.isSl
  clear ha hb
  go_enter Try.func21, Try.ntmps21
  go_wp2_with fail
  refine (compare_calls a b xs ys _ HA.out HB.out).mono ?_
  rintro e w' ⟨rfl, rfl⟩
  go_wp2_with fail
  go_ret
  exact ⟨rfl, rfl⟩
theorem pair_at {xss : List (List Int)} (hp : xss.Pairwise (fun a b => cmpL a b < 0)) {i j : Nat} (hij : i < j) (hj : j < xss.length) : cmpL (nthr xss i) (nthr xss j) < 0 := by
  rw [nthr_lt (by omega), nthr_lt hj]
  exact List.pairwise_iff_getElem.1 hp i j (by omega) hj hij

set_option maxRecDepth 100000 in
set_option maxHeartbeats 4000000 in
theorem bsearch_calls (v t : Value) (vs : List Value) (xss : List (List Int)) (ys : List Int) (m : Nat) (w : World) (hr : RowsV w v vs xss) (ht : Ints w t ys) (hm : m < xss.length) (hy : nthr xss m = ys) (hp : xss.Pairwise (fun a b => cmpL a b < 0)) (hlen : xss.length ≤ 1000) :
    Calls Try.prog 20 #[v, t, .func (.func 21) #[] #[]] w fun e w' => e = .returned (.tuple #[.int .i64 m, .bool true]) ∧ w = w' := by
  have sv := hr.isSl
  have lv := hr.len
  have st := ht.isSl
  obtain ⟨L, hL⟩ : ∃ L, xss.length = L := ⟨_, rfl⟩
  rw [hL] at lv hlen hm
  have HR := Lib.hid hr; have HT := Lib.hid ht; have HL := Lib.hid hL; have HY := Lib.hid hy; have HP := Lib.hid hp
  clear hr ht hL hy hp
  go_enter Try.func20, Try.ntmps20
  go_wp2_with fail
  go_loopw [9, 10] (fun si sj wr => ∃ i j : Nat, si = .int .i64 i ∧ sj = .int .i64 j ∧ i ≤ m ∧ m ≤ j ∧ j ≤ L ∧ wr = w) (fun si sj _ => (intOf sj).toNat - (intOf si).toNat)
  case atStart => exact ⟨0, L, rfl, rfl, Nat.zero_le _, by omega, Nat.le_refl _, rfl⟩
  case round =>
    obtain ⟨i, j, rfl, rfl, hi, hj, hjL, rfl⟩ := hrel
    by_cases hlt : i < j
    · obtain ⟨h, hh⟩ : ∃ h, (i + j) / 2 = h := ⟨_, rfl⟩
      have hhi : ((i : Int) + (j : Int)) / 2 = (h : Int) := by omega
      have h1 : i ≤ h := by omega
      have h2 : h < j := by omega
      have hhL : h < L := by omega
      have ch := HR.out.cell (i := h) (by rw [HL.out]; exact hhL)
      have rh := HR.out.row (i := h) (by rw [HL.out]; exact hhL)
      obtain ⟨r, hr⟩ : ∃ r, nthv vs h = r := ⟨_, rfl⟩
      rw [hr] at ch rh
      have sr := rh.isSl
      have RH := Lib.hid rh
      clear rh hr hh
      go_wp2_with fail
      refine (mc1_calls r t _ _ _ RH.out HT.out).mono ?_
      rintro e w' ⟨rfl, rfl⟩
      by_cases hm2 : h < m
      · have hc : cmpL (nthr xss h) ys < 0 := by rw [← HY.out]; exact pair_at HP.out hm2 (by rw [HL.out]; exact hm)
        obtain ⟨c, hcc⟩ : ∃ c, cmpL (nthr xss h) ys = c := ⟨_, rfl⟩
        rw [hcc] at hc ⊢
        clear hcc
        go_wp2_with fail
        go_roundw
        case rel => exact ⟨h + 1, j, by go_num, rfl, by omega, hj, hjL, trivial⟩
        case measure => simp [intOf]; omega
      · have hc : ¬ cmpL (nthr xss h) ys < 0 := by
          by_cases e : h = m
          · rw [e, HY.out, cmpL_self]; decide
          · have := cmpL_flip _ _ (pair_at HP.out (show m < h by omega) (by rw [HL.out]; exact hhL))
            rw [HY.out] at this; omega
        obtain ⟨c, hcc⟩ : ∃ c, cmpL (nthr xss h) ys = c := ⟨_, rfl⟩
        rw [hcc] at hc ⊢
        clear hcc
        go_wp2_with fail
        go_roundw
        case rel => exact ⟨i, h, rfl, rfl, hi, by omega, by omega, trivial⟩
        case measure => simp [intOf]; omega
    · obtain rfl : i = m := by omega
      obtain rfl : j = i := by omega
      have ch := HR.out.cell (i := j) (by rw [HL.out]; exact hm)
      have rh := HR.out.row (i := j) (by rw [HL.out]; exact hm)
      obtain ⟨r, hr⟩ : ∃ r, nthv vs j = r := ⟨_, rfl⟩
      rw [hr] at ch rh
      rw [HY.out] at rh
      have sr := rh.isSl
      have RH := Lib.hid rh
      clear rh hr
      go_wp2_with fail
      refine (mc1_calls r t _ _ _ RH.out HT.out).mono ?_
      rw [cmpL_self]
      rintro e w' ⟨rfl, rfl⟩
      go_wp2_with fail
      go_ret2
      exact ⟨rfl, rfl⟩

end Go.Proofs.Ytplekfgadbjgdaa

