/- braid.Sum, ExponentSum and the statements' braided walked. -/
import Derived.Test.YtplekfgadbjgdaaQTopSums0
import Derived.Test.YtplekfgadbjgdaaQTopSums1
import Derived.Test.YtplekfgadbjgdaaQTopSums3
import Derived.Test.YtplekfgadbjgdaaQTopSums4
import Derived.Test.YtplekfgadbjgdaaQTopSums5
import Derived.Test.YtplekfgadbjgdaaQTopSums6
import Derived.Test.YtplekfgadbjgdaaQTopSums7
import Derived.Test.YtplekfgadbjgdaaQTopSums8
import Derived.Test.YtplekfgadbjgdaaQTopSums10
import Derived.Test.YtplekfgadbjgdaaQTopSums11
import Derived.Test.YtplekfgadbjgdaaQTopSums12
import Derived.Test.YtplekfgadbjgdaaQTopSums13
import Derived.Test.YtplekfgadbjgdaaQTopSums14
import Derived.Test.YtplekfgadbjgdaaQTopSums15
import Derived.Test.YtplekfgadbjgdaaQTopSums18
import Derived.Test.YtplekfgadbjgdaaQTopSums19
import Derived.Test.YtplekfgadbjgdaaQTopSums25
import Derived.Test.YtplekfgadbjgdaaQTopSums26
import Derived.RangeFuncNested
import Derived.RangeFuncCalls
import Derived.OrdersIn
import Derived.OrdersHeld
import Derived.Deep.RegionHeld
import Derived.RangeFuncBound
import Derived.RangeFuncLeaves
import Derived.RangeFuncBox
import Derived.Shelf.Abstract
import Derived.Shelf.RegionOpen
import Derived.OwnWalkIn
import Derived.TacticsInMore
import Derived.LoopNIn
import Derived.LoopIn
import Derived.Maps.AppendAt
import Derived.Deep.RegionLaw
namespace Go.Proofs.Ytplekfgadbjgdaa
open Go.RowKit Go.Sl

def sgnI (x : Int) : Int := if x < 0 then -1 else 1
def sumL (xs : List Int) : Int := xs.foldl (fun s x => s + sgnI x) 0
theorem sumL_from (xs : List Int) : ∀ s : Int, xs.foldl (fun s x => s + sgnI x) s = s + sumL xs := by
  induction xs with
  | nil => intro s; simp [sumL]
  | cons x t ih =>
    intro s
    have h1 := ih (s + sgnI x)
    have h2 := ih (0 + sgnI x)
    simp only [sumL, List.foldl_cons] at *
    rw [h1, h2]; omega
theorem sumL_append (xs ys : List Int) : sumL (xs ++ ys) = sumL xs + sumL ys := by
  unfold sumL; rw [List.foldl_append]; exact sumL_from ys _
theorem sumL_bound (xs : List Int) : -(xs.length : Int) ≤ sumL xs ∧ sumL xs ≤ xs.length := by
  induction xs with
  | nil => simp [sumL]
  | cons x t ih =>
    have h : sumL (x :: t) = sgnI x + sumL t := by
      have := sumL_append [x] t
      simpa [sumL] using this
    have : sgnI x = 1 ∨ sgnI x = -1 := by unfold sgnI; split <;> simp
    rw [h, List.length_cons]
    omega
theorem sumL_take (xs : List Int) {k : Nat} (h : k < xs.length) : sumL (xs.take (k + 1)) = sumL (xs.take k) + sgnI (nth xs k) := by
  rw [← List.take_append_getElem (h := h), sumL_append, nth_lt h]
  simp [sumL]
theorem sgn_quo {x : Int} (h0 : x ≠ 0) : x.tdiv (x.natAbs : Int) = sgnI x := by
  unfold sgnI
  by_cases h : x < 0
  · rw [if_pos h]
    have : (x.natAbs : Int) = -x := by omega
    rw [this, Int.tdiv_neg, Int.tdiv_self h0]
  · rw [if_neg h]
    have : (x.natAbs : Int) = x := by omega
    rw [this, Int.tdiv_self h0]

set_option maxRecDepth 100000 in
theorem bsum_calls (v : Value) (xs : List Int) (n : Int) (w : World) (hv : Ints w v xs) (hx : BWord n xs) (hn : n ≤ 1000) (hl : xs.length ≤ 100) :
    Calls Try.prog 69 #[v] w fun e w' => e = .returned (.int .i64 (sumL xs)) ∧ w = w' := by
  have sv := hv.isSl
  have lv := hv.len
  have HV := Lib.hid hv; have HX := Lib.hid hx
  clear hv hx
  go_enter Try.func69, Try.ntmps69
  go_wp2_with fail
  go_loop [3, 8] (fun s i => ∃ k : Nat, k ≤ xs.length ∧ i = .int .i64 k ∧ s = .int .i64 (sumL (xs.take k))) (fun _ i => xs.length - (intOf i).toNat)
  case atStart => exact ⟨0, Nat.zero_le _, rfl, rfl⟩
  case round =>
    obtain ⟨k, hk, rfl, rfl⟩ := hrel
    by_cases hlt : k < xs.length
    · have c1 := HV.out.cell hlt
      have hxk := HX.out _ (nth_mem hlt)
      have hst := sumL_take xs hlt
      obtain ⟨x, hxe⟩ : ∃ x, nth xs k = x := ⟨_, rfl⟩
      rw [hxe] at c1 hxk hst
      have hb := sumL_bound (xs.take k)
      have hlk : (xs.take k).length = k := by simp; omega
      rw [hlk] at hb
      have hq := sgn_quo hxk.1
      have hs1 : sgnI x = 1 ∨ sgnI x = -1 := by unfold sgnI; split <;> simp
      obtain ⟨S, hS⟩ : ∃ S, sumL (xs.take k) = S := ⟨_, rfl⟩
      obtain ⟨g, hg⟩ : ∃ g, sgnI x = g := ⟨_, rfl⟩
      obtain ⟨y, hy⟩ : ∃ y : Int, (x.natAbs : Int) = y := ⟨_, rfl⟩
      have hy0 : y ≠ 0 := by omega
      have HI := Lib.hid (bindex_calls x w (by omega) (by omega))
      rw [hy] at hq HI
      rw [hg] at hq hst hs1
      rw [hS] at hst hb ⊢
      have w1 : IntKind.i64.wrap g = g := IntWalk.i64_in _ ⟨by omega, by omega⟩
      have w2 : IntKind.i64.wrap (S + g) = S + g := IntWalk.i64_in _ ⟨by omega, by omega⟩
      have HST := Lib.hid hst
      clear hst hS hg hy hxe hxk
      go_wp2_with fail
      refine HI.out.mono ?_
      rintro e w' ⟨rfl, rfl⟩
      go_wp2_with fail
      go_round
      case rel => exact ⟨k + 1, by omega, by go_num, by rw [HST.out]⟩
      case measure => simp [intOf]; omega
    · obtain rfl : k = xs.length := by omega
      go_wp2_with fail
      go_ret
      exact ⟨rfl, rfl⟩

end Go.Proofs.Ytplekfgadbjgdaa

