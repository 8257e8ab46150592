/- temperleylieb: around, planar, walked. -/
import Derived.Test.YtplekfgadbjgdaaQMatchingCounts0
import Derived.Test.YtplekfgadbjgdaaQMatchingCounts1
import Derived.Test.YtplekfgadbjgdaaQMatchingCounts10
import Derived.Test.YtplekfgadbjgdaaQMatchingCounts11
import Derived.Test.YtplekfgadbjgdaaQMatchingCounts12
import Derived.Test.YtplekfgadbjgdaaQMatchingCounts13
import Derived.Test.YtplekfgadbjgdaaQMatchingCounts14
import Derived.Test.YtplekfgadbjgdaaQMatchingCounts15
import Derived.Test.YtplekfgadbjgdaaQMatchingCounts16
import Derived.Test.YtplekfgadbjgdaaQMatchingCounts17
import Derived.Test.YtplekfgadbjgdaaQMatchingCounts18
import Derived.Test.YtplekfgadbjgdaaQMatchingCounts19
import Derived.Test.YtplekfgadbjgdaaQMatchingCounts20
import Derived.Test.YtplekfgadbjgdaaQMatchingCounts21
import Derived.Test.YtplekfgadbjgdaaQMatchingCounts22
import Derived.Test.YtplekfgadbjgdaaQMatchingCounts23
import Derived.Test.YtplekfgadbjgdaaQMatchingCounts24
import Derived.Test.YtplekfgadbjgdaaQMatchingCounts25
import Derived.Test.YtplekfgadbjgdaaQMatchingCounts26
import Derived.Deep.RegionLaw
import Derived.RangeFuncNested
import Derived.RangeFuncBound
import Derived.RangeFuncCalls
import Derived.RangeFuncLeaves
import Derived.RangeFuncBox
import Derived.Shelf.Abstract
import Derived.Shelf.RegionOpen
import Derived.OwnWalkIn
import Derived.TacticsInMore
import Derived.LoopNIn
import Derived.LoopIn
import Derived.Maps.AppendAt
namespace Go.Proofs.Ytplekfgadbjgdaa
open Go.RowKit Go.Sl

def aroundL (n : Nat) : List Nat := List.range n ++ (List.range n).map fun i => 2 * n - 1 - i
theorem aroundL_length (n : Nat) : (aroundL n).length = 2 * n := by simp [aroundL]; omega
theorem aroundL_lt {n j : Nat} (h : j < 2 * n) : (aroundL n).getD j 0 < 2 * n := by
  have hg : (aroundL n).getD j 0 = (aroundL n)[j]'(by rw [aroundL_length]; exact h) := by rw [List.getD, List.getElem?_eq_getElem (by rw [aroundL_length]; exact h)]; rfl
  rw [hg]
  have key : ∀ x ∈ aroundL n, x < 2 * n := fun x hx => by
    simp only [aroundL, List.mem_append, List.mem_range, List.mem_map] at hx
    rcases hx with h | ⟨a, h1, h2⟩ <;> omega
  exact key _ (List.getElem_mem _)

theorem iz_append (a b : List Nat) : iz (a ++ b) = iz a ++ iz b := by simp [iz]

set_option maxRecDepth 100000 in
set_option maxHeartbeats 2000000 in
theorem around_calls (n : Nat) (w : World) (h1 : 1 ≤ n) (h6 : n ≤ 6) :
    Calls Try.prog 102 #[.int .i64 n] w fun e w' => ∃ u, e = .returned u ∧ OwnI w' w.heap.size u (iz (aroundL n)) ∧ Below w.heap.size w w' := by
  obtain ⟨N2, hN2⟩ : ∃ N2, 2 * n = N2 := ⟨_, rfl⟩
  have hi2 : (2 : Int) * (n : Int) = (N2 : Int) := by omega
  have hN2b : N2 ≤ 12 := by omega
  have hN2a : n ≤ N2 := by omega
  have HN2 := Lib.hid hN2
  clear hN2
  go_enter Try.func102, Try.ntmps102
  go_wp2_with fail
  go_loopw [3, 7] (fun out i wr => ∃ k : Nat, k ≤ n ∧ i = .int .i64 k ∧ OwnI wr w.heap.size out (iz (List.range k)) ∧ Below w.heap.size w wr) (fun _ i _ => n - (intOf i).toNat)
  case atStart => exact ⟨0, Nat.zero_le _, rfl, ownI_nil _ _, Below.refl _ _⟩
  case round =>
    rename World => W
    obtain ⟨k, hk, rfl, ho, hbr⟩ := hrel
    have hbs := hbr.size
    by_cases hlt : k < n
    · have hll : (iz (List.range k)).length ≤ 1000 := by simp [iz]; omega
      have hnx : iz (List.range k) ++ [(k : Int)] = iz (List.range (k + 1)) := by rw [List.range_succ, iz_append]; rfl
      have HX := Lib.hid hnx; clear hnx
      have HBR := Lib.hid hbr; clear hbr
      go_wp2_with (at_builtin; refine wpList_push rfl _ _ rfl rfl rfl ho hbs (by omega) ?_; intro out2 w2 ho2 hg2 hr2)
      rw [HX.out] at ho2
      have hb2 : Below w.heap.size w w2 := Below_of_grown HBR.out hg2 hbs (fun b hb => (ho.lt b hb).1)
      go_roundw
      case rel => exact ⟨k + 1, by omega, by go_num, ho2, hb2⟩
      case measure => simp [intOf]; omega
    · obtain rfl : k = n := by omega
      have HBR := Lib.hid hbr; have HO := Lib.hid ho
      clear hbr ho hbs
      go_wp2_with fail
      go_loopw [3, 16] (fun out i wr => ∃ j : Nat, j ≤ k ∧ i = .int .i64 j ∧ OwnI wr w.heap.size out (iz (List.range k ++ (List.range j).map fun i => 2 * k - 1 - i)) ∧ Below w.heap.size w wr) (fun _ i _ => k - (intOf i).toNat)
      case atStart => exact ⟨0, Nat.zero_le _, rfl, by simpa using HO.out, HBR.out⟩
      case round =>
        rename World => W2
        obtain ⟨j, hj, rfl, ho, hbr⟩ := hrel
        have hbs := hbr.size
        by_cases hlt : j < k
        · have hll : (iz (List.range k ++ (List.range j).map fun i => 2 * k - 1 - i)).length ≤ 1000 := by simp [iz]; omega
          obtain ⟨x, hx⟩ : ∃ x, 2 * k - 1 - j = x := ⟨_, rfl⟩
          have hnx : iz (List.range k ++ (List.range j).map fun i => 2 * k - 1 - i) ++ [(x : Int)] = iz (List.range k ++ (List.range (j + 1)).map fun i => 2 * k - 1 - i) := by
            rw [List.range_succ, List.map_append, ← List.append_assoc, iz_append (_ ++ _)]; rw [← hx]; rfl
          have hxi : (N2 : Int) - 1 - (j : Int) = (x : Int) := by have := HN2.out; omega
          have hw1 : IntKind.i64.wrap ((N2 : Int) - 1 - (j : Int)) = (x : Int) := by rw [hxi]; exact IntWalk.i64_in _ ⟨by omega, by omega⟩
          clear hx
          have HX := Lib.hid hnx; clear hnx
          have HBR2 := Lib.hid hbr; clear hbr
          go_wp2_with (at_builtin; refine wpList_push rfl _ _ rfl rfl rfl ho hbs (by omega) ?_; intro out2 w2 ho2 hg2 hr2)
          rw [HX.out] at ho2
          have hb2 : Below w.heap.size w w2 := Below_of_grown HBR2.out hg2 hbs (fun b hb => (ho.lt b hb).1)
          go_roundw
          case rel => exact ⟨j + 1, by omega, by go_num, ho2, hb2⟩
          case measure => simp [intOf]; omega
        · obtain rfl : j = k := by omega
          have so := ho.isSl
          have HO2 := Lib.hid ho; have HB2 := Lib.hid hbr
          clear ho hbr
          go_wp2_with fail
          go_ret
          exact ⟨_, rfl, HO2.out, HB2.out⟩

end Go.Proofs.Ytplekfgadbjgdaa

