/- The fact trefoil, walked. -/
import Derived.Test.YtplekfgadbjgdaaQTopSums0
import Derived.Test.YtplekfgadbjgdaaQTopSums1
import Derived.Test.YtplekfgadbjgdaaQTopSums2
import Derived.Test.YtplekfgadbjgdaaQTopSums3
import Derived.Test.YtplekfgadbjgdaaQTopSums4
import Derived.Test.YtplekfgadbjgdaaQTopSums5
import Derived.Test.YtplekfgadbjgdaaQTopSums6
import Derived.Test.YtplekfgadbjgdaaQTopSums7
import Derived.Test.YtplekfgadbjgdaaQTopSums8
import Derived.Test.YtplekfgadbjgdaaQTopSums9
import Derived.Test.YtplekfgadbjgdaaQTopSums10
import Derived.Test.YtplekfgadbjgdaaQTopSums11
import Derived.Test.YtplekfgadbjgdaaQTopSums12
import Derived.Test.YtplekfgadbjgdaaQTopSums13
import Derived.Test.YtplekfgadbjgdaaQTopSums14
import Derived.Test.YtplekfgadbjgdaaQTopSums15
import Derived.Test.YtplekfgadbjgdaaQTopSums16
import Derived.Test.YtplekfgadbjgdaaQTopSums17
import Derived.Test.YtplekfgadbjgdaaQTopSums18
import Derived.Test.YtplekfgadbjgdaaQTopSums19
import Derived.Test.YtplekfgadbjgdaaQTopSums20
import Derived.Test.YtplekfgadbjgdaaQTopSums21
import Derived.Test.YtplekfgadbjgdaaQTopSums22
import Derived.Test.YtplekfgadbjgdaaQTopSums23
import Derived.Test.YtplekfgadbjgdaaQTopSums24
import Derived.Test.YtplekfgadbjgdaaQTopSums25
import Derived.Test.YtplekfgadbjgdaaQTopSums26
import Derived.Test.YtplekfgadbjgdaaQTopSums27
import Derived.Test.YtplekfgadbjgdaaQTopSums28
import Derived.Test.YtplekfgadbjgdaaQTopSums29
import Derived.Test.YtplekfgadbjgdaaQTopSums30
import Derived.Test.YtplekfgadbjgdaaQTopSums31
import Derived.Test.YtplekfgadbjgdaaQTopSums32
import Derived.Test.YtplekfgadbjgdaaQTopSums33
import Derived.Test.YtplekfgadbjgdaaQTopSums34
import Derived.Test.YtplekfgadbjgdaaQTopSums35
import Derived.Test.YtplekfgadbjgdaaQTopSums36
import Derived.Test.YtplekfgadbjgdaaQTopSums37
import Derived.Test.YtplekfgadbjgdaaQTopSums38
import Derived.Test.YtplekfgadbjgdaaQTopSums39
import Derived.Test.YtplekfgadbjgdaaQTopSums40
import Derived.Test.YtplekfgadbjgdaaQTopSums42
import Derived.Test.YtplekfgadbjgdaaQTopSums43
import Derived.Test.YtplekfgadbjgdaaQTopSums44
import Derived.Test.YtplekfgadbjgdaaQTopSums45
import Derived.Test.YtplekfgadbjgdaaQTopSums46
import Derived.Test.YtplekfgadbjgdaaQTopSums47
import Derived.Test.YtplekfgadbjgdaaQTopSums48
import Derived.Test.YtplekfgadbjgdaaQTopSums49
import Derived.Shelf.Strings.Builder1
import Derived.Deep.RegionWith
import Derived.RangeFuncNested
import Derived.RangeFuncCalls
import Derived.OrdersIn
import Derived.OrdersHeld
import Derived.Deep.RegionHeld
import Derived.RangeFuncBound
import Derived.RangeFuncLeaves
import Derived.RangeFuncBox
import Derived.Shelf.Abstract
import Derived.Shelf.RegionOpen
import Derived.OwnWalkIn
import Derived.TacticsInMore
import Derived.LoopNIn
import Derived.LoopIn
import Derived.Maps.AppendAt
import Derived.Deep.RegionLaw
namespace Go.Proofs.Ytplekfgadbjgdaa
open Go.RowKit Go.Sl Go.Mp Go.TL

theorem topsame_yes (p q : LP) (s t : Value) (w : World) (hs : Ints w s p.c) (ht : Ints w t q.c) (h : p = q) :
    Calls Try.prog 29 #[.agg #[.int .i64 p.low, s], .agg #[.int .i64 q.low, t]] w fun e w' => e = .returned (.bool true) ∧ Below w.heap.size w w' := by
  subst h
  have ss := hs.isSl
  have st := ht.isSl
  have HS := Lib.hid hs; have HT := Lib.hid ht; clear hs ht
  go_enter Try.func29, Try.ntmps29
  go_wp2_with fail
  refine (equal_yes _ _ p.c p.c _ ((HS.out.alloc _).alloc _) ((HT.out.alloc _).alloc _) rfl).mono ?_
  rintro e u1 ⟨rfl, hb1⟩
  go_wp2_with fail
  go_ret
  exact ⟨rfl, Below.chain (((Below.refl _ _).alloc (Nat.le_refl _) _).alloc (by simp) _) hb1⟩

set_option maxRecDepth 100000 in
set_option maxHeartbeats 4000000 in
theorem trefoil_calls (w : World) :
    Calls Try.prog 28 #[] w fun e w' => e = .returned (.bool true) ∧ Below w.heap.size w w' := by
  have hbw : BWord ((2 : Nat) : Int) [1, 1, 1] := fun x hx => by simp at hx; subst hx; decide
  have hnw : NWord 2 [-1, -1, -1] := fun x hx => by simp at hx; subst hx; decide
  have HF := Lib.hid (afit hbw.nword (by decide) (by decide) (by decide))
  have HP := Lib.hid (fun W v hv => alex_calls 2 v [1, 1, 1] W hv (by decide) (by decide) hbw (by decide) HF.out.pf HF.out.fit HF.out.ok)
  have HJ := Lib.hid (fun W v hv => jones_eq mj2 (by decide) (by decide) v [-1, -1, -1] W hv hnw (by decide) trefP tref_tr (fun t ht => ev_tref ht))
  have HC := Lib.hid (fun W v hv => ccount_calls 2 3 v [1, 1, 1] W hv (by decide) (by decide) (by decide) (by decide) hbw (by decide))
  rw [tref_count] at HC
  clear hbw hnw
  go_enter Try.func28, Try.ntmps28
  go_wp2_with fail
  refine (HP.out _ _ (ints_lit [1, 1, 1] (by simp) rfl rfl (by decide))).mono ?_
  rintro e w1 ⟨u, rfl, hu, hb⟩
  rw [alex_lit] at hu
  rw [alex_lit]
  have su := hu.isSl
  obtain ⟨W2, hW2⟩ : ∃ W2, W2 = w1.alloc (.cells #[.int .i64 0, u] 40) := ⟨_, rfl⟩
  have p2 : Pair W2 w1.heap.size 40 (.int .i64 0) u := by rw [hW2]; exact pair_new _ _ _ _
  have b2 : Below w1.heap.size w1 W2 := by rw [hW2]; exact (Below.refl _ _).alloc (Nat.le_refl _) _
  have z2 : W2.heap.size = w1.heap.size + 1 := by rw [hW2]; simp
  have hW2' := hW2.symm
  have bl : Below W2.heap.size W2 (W2.alloc (.cells #[.int .i64 (-1), .int .i64 (-1), .int .i64 (-1)] 3)) := (Below.refl _ _).alloc (Nat.le_refl _) _
  have K1 := Lib.hid (p2.below bl); have S1 := Lib.hid ((hu.ints.below b2).below bl); have HB := Lib.hid (Below.chain (Below.chain (Below.chain ((Below.refl _ _).alloc (Nat.le_refl _) _) hb) b2) bl)
  have hlit := ints_lit (w := W2) (b := W2.heap.size) [-1, -1, -1] rfl rfl rfl (by decide)
  have HL := Lib.hid hlit; have Z2 := Lib.hid z2
  clear hu hb hW2 p2 b2 z2 bl hlit
  go_wp2_with fail
  clear hW2'
  refine (HJ.out _ _ HL.out).mono ?_
  rintro e w3 ⟨v, rfl, hv, hb⟩
  have sv := hv.isSl
  have lv := hv.ints.len
  replace K1 := Lib.hid (K1.out.below hb); replace S1 := Lib.hid (S1.out.below hb); replace HB := Lib.hid (Below.chain HB.out hb)
  obtain ⟨W4, hW4⟩ : ∃ W4, W4 = w3.alloc (.cells #[.int .i64 trefP.low, v] 40) := ⟨_, rfl⟩
  have p4 : Pair W4 w3.heap.size 40 (.int .i64 trefP.low) v := by rw [hW4]; exact pair_new _ _ _ _
  have b4 : Below w3.heap.size w3 W4 := by rw [hW4]; exact (Below.refl _ _).alloc (Nat.le_refl _) _
  have hW4' := hW4.symm
  have bl : Below W4.heap.size W4 (W4.alloc (.cells #[.int .i64 1, .int .i64 1, .int .i64 1] 3)) := (Below.refl _ _).alloc (Nat.le_refl _) _
  have hlit := ints_lit (w := W4) (b := W4.heap.size) [1, 1, 1] rfl rfl rfl (by decide)
  have HL := Lib.hid hlit
  have K2 := Lib.hid (p4.below bl)
  replace K1 := Lib.hid ((K1.out.below b4).below bl); replace S1 := Lib.hid ((S1.out.below b4).below bl); replace HB := Lib.hid (Below.chain (Below.chain HB.out b4) bl)
  have lv13 : vlen v = 13 := lv
  clear hv hb hW4 p4 b4 bl hlit lv
  go_wp2_with fail
  clear hW4'
  refine (HC.out _ _ HL.out).mono ?_
  rintro e w5 ⟨rfl, hb⟩
  replace K1 := Lib.hid (K1.out.below hb); replace K2 := Lib.hid (K2.out.below hb); replace S1 := Lib.hid (S1.out.below hb); replace HB := Lib.hid (Below.chain HB.out hb)
  have c0 := K1.out.cell0; have c1 := K1.out.cell1; have hk1 := K1.out.lt
  clear hb
  go_wp2_with fail
  refine (topsame_yes ⟨0, [1, -1, 1]⟩ ⟨0, [1, -1, 1]⟩ _ _ _ (S1.out.alloc _) (ints_lit (w := w5) [1, -1, 1] rfl rfl rfl (by decide)) rfl).mono ?_
  rintro e w6 ⟨rfl, hb⟩
  have hbb := Below.chain ((Below.refl _ _).alloc (Nat.le_refl _) _) hb
  replace K2 := Lib.hid (K2.out.below hbb); replace HB := Lib.hid (Below.chain HB.out hbb)
  clear hb hbb c0 c1
  have d1 := K2.out.cell1
  go_wp2_with fail
  go_ret
  exact ⟨rfl, HB.out⟩

end Go.Proofs.Ytplekfgadbjgdaa

