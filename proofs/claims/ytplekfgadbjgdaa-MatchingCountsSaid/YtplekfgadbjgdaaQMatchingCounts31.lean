/- temperleylieb: Product, walked. -/
import Derived.Test.YtplekfgadbjgdaaQMatchingCounts0
import Derived.Test.YtplekfgadbjgdaaQMatchingCounts1
import Derived.Test.YtplekfgadbjgdaaQMatchingCounts10
import Derived.Test.YtplekfgadbjgdaaQMatchingCounts11
import Derived.Test.YtplekfgadbjgdaaQMatchingCounts12
import Derived.Test.YtplekfgadbjgdaaQMatchingCounts13
import Derived.Test.YtplekfgadbjgdaaQMatchingCounts14
import Derived.Test.YtplekfgadbjgdaaQMatchingCounts15
import Derived.Test.YtplekfgadbjgdaaQMatchingCounts16
import Derived.Test.YtplekfgadbjgdaaQMatchingCounts17
import Derived.Test.YtplekfgadbjgdaaQMatchingCounts18
import Derived.Test.YtplekfgadbjgdaaQMatchingCounts19
import Derived.Test.YtplekfgadbjgdaaQMatchingCounts20
import Derived.Test.YtplekfgadbjgdaaQMatchingCounts21
import Derived.Test.YtplekfgadbjgdaaQMatchingCounts22
import Derived.Test.YtplekfgadbjgdaaQMatchingCounts23
import Derived.Test.YtplekfgadbjgdaaQMatchingCounts24
import Derived.Test.YtplekfgadbjgdaaQMatchingCounts25
import Derived.Test.YtplekfgadbjgdaaQMatchingCounts26
import Derived.Test.YtplekfgadbjgdaaQMatchingCounts27
import Derived.Test.YtplekfgadbjgdaaQMatchingCounts28
import Derived.Test.YtplekfgadbjgdaaQMatchingCounts29
import Derived.Deep.RegionLaw
import Derived.RangeFuncNested
import Derived.RangeFuncBound
import Derived.RangeFuncCalls
import Derived.RangeFuncLeaves
import Derived.RangeFuncBox
import Derived.Shelf.Abstract
import Derived.Shelf.RegionOpen
import Derived.OwnWalkIn
import Derived.TacticsInMore
import Derived.LoopNIn
import Derived.LoopIn
import Derived.Maps.AppendAt
namespace Go.Proofs.Ytplekfgadbjgdaa
open Go.RowKit Go.Sl
open Go.TL (lnAt addLn tlWalk tlLoops putLines putL closeLines closeL)

set_option maxRecDepth 100000 in
set_option maxHeartbeats 4000000 in
theorem tproduct_calls (n : Nat) (A Q : List Nat) (va vb : Value) (w : World) (ha : Ints w va (iz A)) (hb : Ints w vb (iz Q)) (hn1 : 1 ≤ n) (hn6 : n ≤ 6) (hA : TOk n A) (hQ : TOk n Q) (O : List Nat) (C : Nat) (hput : putL n A Q = some (O, C)) (hrows : ∀ j, (lnAt (putLines n A Q (2 * n)) j).length ≤ 2) :
    Calls Try.prog 67 #[.int .i64 n, va, vb] w fun e w' => ∃ u, e = .returned (.tuple #[u, .int .i64 (C : Nat), .int .i64 0]) ∧ OwnI w' w.heap.size u (iz O) ∧ Below w.heap.size w w' := by
  obtain ⟨W1, hW1⟩ : ∃ W1, W1 = w.alloc (.cells #[va, vb] 22) := ⟨_, rfl⟩
  have z1 : W1.heap.size = w.heap.size + 1 := by rw [hW1]; simp
  have b1 : Below w.heap.size w W1 := by rw [hW1]; exact (Below.refl _ _).alloc (Nat.le_refl _) _
  have ca : W1.cell? ⟨w.heap.size, 0, none⟩ = some va := by rw [hW1]; unfold World.cell?; rw [heap_alloc_new w]; rfl
  have cb : W1.cell? ⟨w.heap.size, 1, none⟩ = some vb := by rw [hW1]; unfold World.cell?; rw [heap_alloc_new w]; rfl
  have cac : ∀ V, Below W1.heap.size W1 V → V.cell? ⟨w.heap.size, 0, none⟩ = some va := fun V hV => by
    rw [hV.cell (p := ⟨w.heap.size, 0, none⟩) (by show w.heap.size < _; omega)]; exact ca
  have cbc : ∀ V, Below W1.heap.size W1 V → V.cell? ⟨w.heap.size, 1, none⟩ = some vb := fun V hV => by
    rw [hV.cell (p := ⟨w.heap.size, 1, none⟩) (by show w.heap.size < _; omega)]; exact cb
  have bw : ∀ V, Below W1.heap.size W1 V → Below w.heap.size w V := fun V hV => b1.trans (hV.mono (by omega))
  have hput2 : ∀ V, Below w.heap.size w V → _ := fun V hV => put_calls n A Q va vb V (ha.below hV) (hb.below hV) hn1 hn6 hA.len hQ.len hA.lt hQ.lt O C hput hrows
  have hca : ∀ V, Below w.heap.size w V → _ := fun V hV => tcheck_calls n A va V (ha.below hV) hA hn1 hn6
  have hcb : ∀ V, Below w.heap.size w V → _ := fun V hV => tcheck_calls n Q vb V (hb.below hV) hQ hn1 hn6
  have sa := ha.isSl
  have sb := hb.isSl
  obtain ⟨a1, l1, p1, rfl, -⟩ := sa.cases
  obtain ⟨a2, l2, p2, rfl, -⟩ := sb.cases
  have HPUT := Lib.hid hput2; have HCA := Lib.hid hca; have HCB := Lib.hid hcb; have CAC := Lib.hid cac; have CBC := Lib.hid cbc; have BW := Lib.hid bw; have HW1 := Lib.hid hW1.symm
  clear hput2 hca hcb ca cb cac cbc b1 bw ha hb hput hrows hA hQ hW1
  go_enter Try.func67, Try.ntmps67
  go_wp2_with fail
  rw [HW1.out]
  go_loopw [18] (fun i wr => ∃ k : Nat, k ≤ 2 ∧ i = .int .i64 k ∧ Below W1.heap.size W1 wr) (fun i _ => 2 - (intOf i).toNat)
  case atStart => exact ⟨0, Nat.zero_le _, rfl, Below.refl _ _⟩
  case round =>
    rename World => V
    obtain ⟨k, hk, rfl, hbr⟩ := hrel
    have c1 := CAC.out V hbr
    have c2 := CBC.out V hbr
    have hbw := BW.out V hbr
    have HBW := Lib.hid hbw; have HBR := Lib.hid hbr
    clear hbw hbr
    by_cases hlt : k < 2
    · obtain rfl | rfl : k = 0 ∨ k = 1 := by omega
      · go_wp2_with fail
        refine (HCA.out V HBW.out).mono ?_
        rintro e V2 ⟨rfl, hb2⟩
        have HB2 := Lib.hid (HBR.out.trans (hb2.mono HBR.out.size))
        clear hb2
        go_wp2_with fail
        go_roundw
        case rel => exact ⟨1, by omega, by go_num, HB2.out⟩
        case measure => simp [intOf]
      · go_wp2_with fail
        refine (HCB.out V HBW.out).mono ?_
        rintro e V2 ⟨rfl, hb2⟩
        have HB2 := Lib.hid (HBR.out.trans (hb2.mono HBR.out.size))
        clear hb2
        go_wp2_with fail
        go_roundw
        case rel => exact ⟨2, by omega, by go_num, HB2.out⟩
        case measure => simp [intOf]
    · obtain rfl : k = 2 := by omega
      go_wp2_with fail
      refine (HPUT.out V HBW.out).mono ?_
      rintro e V2 ⟨u, rfl, ho, hb2⟩
      have su := ho.isSl
      have HO := Lib.hid (ho.low HBW.out.size); have HB := Lib.hid (HBW.out.trans (hb2.mono HBW.out.size))
      clear ho hb2
      go_wp2_with fail
      go_ret3
      exact ⟨u, rfl, HO.out, HB.out⟩

end Go.Proofs.Ytplekfgadbjgdaa

