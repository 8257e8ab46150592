/- topsums: shifted, walked: the first word, with the letters of the second one moved up behind it. -/
import Derived.Test.YtplekfgadbjgdaaQTopSums0
import Derived.Test.YtplekfgadbjgdaaQTopSums1
import Derived.Test.YtplekfgadbjgdaaQTopSums2
import Derived.Test.YtplekfgadbjgdaaQTopSums3
import Derived.Test.YtplekfgadbjgdaaQTopSums4
import Derived.Test.YtplekfgadbjgdaaQTopSums5
import Derived.Test.YtplekfgadbjgdaaQTopSums6
import Derived.Test.YtplekfgadbjgdaaQTopSums7
import Derived.Test.YtplekfgadbjgdaaQTopSums8
import Derived.Test.YtplekfgadbjgdaaQTopSums9
import Derived.Test.YtplekfgadbjgdaaQTopSums10
import Derived.Test.YtplekfgadbjgdaaQTopSums11
import Derived.Test.YtplekfgadbjgdaaQTopSums12
import Derived.Test.YtplekfgadbjgdaaQTopSums13
import Derived.Test.YtplekfgadbjgdaaQTopSums14
import Derived.Test.YtplekfgadbjgdaaQTopSums15
import Derived.Test.YtplekfgadbjgdaaQTopSums19
import Derived.Test.YtplekfgadbjgdaaQTopSums23
import Derived.Test.YtplekfgadbjgdaaQTopSums24
import Derived.Test.YtplekfgadbjgdaaQTopSums26
import Derived.Test.YtplekfgadbjgdaaQTopSums35
import Derived.Test.YtplekfgadbjgdaaQTopSums36
import Derived.Test.YtplekfgadbjgdaaQTopSums37
import Derived.Test.YtplekfgadbjgdaaQTopSums39
import Derived.Test.YtplekfgadbjgdaaQTopSums40
import Derived.Deep.RegionWith
import Derived.RangeFuncNested
import Derived.RangeFuncBound
import Derived.RangeFuncCalls
import Derived.RangeFuncLeaves
import Derived.RangeFuncBox
import Derived.Shelf.Abstract
import Derived.Shelf.RegionOpen
import Derived.OwnWalkIn
import Derived.TacticsInMore
import Derived.LoopNIn
import Derived.LoopIn
import Derived.Maps.AppendAt
import Derived.Deep.RegionLaw
namespace Go.Proofs.Ytplekfgadbjgdaa
open Go.RowKit Go.Sl

theorem shW_succ {d : Nat} {Y : List Int} {k : Nat} (h : k < Y.length) : shW d (Y.take (k + 1)) = shW d (Y.take k) ++ [if Y[k] < 0 then Y[k] - d else Y[k] + d] := by
  unfold shW
  rw [List.take_succ_eq_append_getElem h, List.map_append]
  rfl
theorem shW_length (d : Nat) (Y : List Int) : (shW d Y).length = Y.length := by simp [shW]

set_option maxHeartbeats 4000000 in
set_option maxRecDepth 100000 in
theorem shifted_calls (d B1 B2 : Nat) (xv yv : Value) (X Y : List Int) (w : World) (h1 : w.heap[B1]? = some (.cells #[xv] 22 (0, 0))) (h2 : w.heap[B2]? = some (.cells #[yv] 22 (0, 0)))
    (hx : Ints w xv X) (hy : Ints w yv Y) (hlx : X.length ≤ 100) (hly : Y.length ≤ 100) (hd : d ≤ 100) (hY : ∀ y ∈ Y, y.natAbs ≤ 100) :
    Calls Try.prog 24 #[.int .i64 d, .pointer (some ⟨B1, 0, none⟩), .pointer (some ⟨B2, 0, none⟩)] w fun e w' => ∃ v, e = .returned v ∧ OwnI w' w.heap.size v (X ++ shW d Y) ∧ Below w.heap.size w w' := by
  have sx := hx.isSl
  have sy := hy.isSl
  have lx := hx.len
  have ly := hy.len
  obtain ⟨L, hL⟩ : ∃ L, Y.length = L := ⟨_, rfl⟩
  rw [hL] at ly hly
  have c1 := cell_of_one h1
  have c2 := cell_of_one h2
  have q1 := lt_of_block h1
  have q2 := lt_of_block h2
  have HX := Lib.hid hx; have HY := Lib.hid hy; have HL := Lib.hid hL; have H2 := Lib.hid h2; have HZ := Lib.hid hY
  clear hx hy hL h1 h2 hY
  go_enter Try.func24, Try.ntmps24
  go_wp2_with fail
  refine (clone_calls xv X _ HX.out (by omega)).mono ?_
  rintro e w1 ⟨u, rfl, ho, hb⟩
  have su := ho.isSl
  have HO := Lib.hid ho; have HB := Lib.hid hb
  have c2' := cell_of_one ((hb.block _ q2).trans H2.out)
  clear ho hb c1 c2
  go_wp2_with fail
  clear c2'
  go_loopw [0, 5, 12] (fun b o i wr => ∃ (k : Nat) (s : Int), k ≤ L ∧ i = .int .i64 k ∧ b = .int .i64 s ∧ (s = (d : Int) ∨ s = -(d : Int)) ∧ OwnI wr w.heap.size o (X ++ shW d (Y.take k)) ∧ Below w.heap.size w wr) (fun _ _ i _ => L - (intOf i).toNat)
  case atStart => exact ⟨0, d, Nat.zero_le _, rfl, rfl, .inl rfl, by simpa [shW] using HO.out, HB.out⟩
  case round =>
    obtain ⟨k, s, hk, rfl, rfl, hs, ho, hbr⟩ := hrel
    have hbs := hbr.size
    have so := ho.isSl
    by_cases hlt : k < L
    · have hkY : k < Y.length := by rw [HL.out]; exact hlt
      have cy := (HY.out.below hbr).cell (k := k) hkY
      rw [nth_lt hkY] at cy
      have hsu := shW_succ (d := d) hkY
      have hab := HZ.out _ (List.getElem_mem hkY)
      obtain ⟨z, hz⟩ : ∃ z, Y[k] = z := ⟨_, rfl⟩
      rw [hz] at cy hsu hab
      have hll : (X ++ shW d (Y.take k)).length ≤ 1000 := by rw [List.length_append, shW_length, List.length_take]; omega
      have HSU := Lib.hid hsu
      clear hz hsu
      by_cases hz0 : z < 0
      · have m1 : max s (-s) = (d : Int) := by omega
        go_wp2_with (at_builtin; refine wpList_push rfl _ _ rfl rfl rfl ho hbs (by omega) ?_; intro v' w' ho' hg' hr')
        rw [List.append_assoc] at ho'
        have e1 : z + -(d : Int) = z - d := by omega
        go_roundw
        case rel => exact ⟨k + 1, -d, by omega, by go_num, rfl, .inr rfl, by rw [HSU.out, if_pos hz0, ← e1]; exact ho', Below_of_grown hbr hg' hbs (fun b hb => (ho.lt b hb).1)⟩
        case measure => simp [intOf]; omega
      · have m1 : max s (-s) = (d : Int) := by omega
        go_wp2_with (at_builtin; refine wpList_push rfl _ _ rfl rfl rfl ho hbs (by omega) ?_; intro v' w' ho' hg' hr')
        rw [List.append_assoc] at ho'
        go_roundw
        case rel => exact ⟨k + 1, d, by omega, by go_num, rfl, .inl rfl, by rw [HSU.out, if_neg hz0]; exact ho', Below_of_grown hbr hg' hbs (fun b hb => (ho.lt b hb).1)⟩
        case measure => simp [intOf]; omega
    · obtain rfl : k = L := by omega
      rw [List.take_of_length_le (by rw [HL.out]; exact Nat.le_refl _)] at ho
      have HO2 := Lib.hid ho; have HB2 := Lib.hid hbr
      clear ho hbr
      go_wp2_with fail
      go_ret
      exact ⟨_, rfl, HO2.out, HB2.out⟩

end Go.Proofs.Ytplekfgadbjgdaa

