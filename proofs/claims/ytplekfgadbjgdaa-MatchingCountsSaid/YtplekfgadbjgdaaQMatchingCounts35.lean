/- The statements' numbers of generators, walked. -/
import Derived.Test.YtplekfgadbjgdaaQMatchingCounts0
import Derived.Test.YtplekfgadbjgdaaQMatchingCounts1
import Derived.Test.YtplekfgadbjgdaaQMatchingCounts10
import Derived.Test.YtplekfgadbjgdaaQMatchingCounts11
import Derived.Test.YtplekfgadbjgdaaQMatchingCounts12
import Derived.Test.YtplekfgadbjgdaaQMatchingCounts13
import Derived.Test.YtplekfgadbjgdaaQMatchingCounts14
import Derived.Test.YtplekfgadbjgdaaQMatchingCounts15
import Derived.Test.YtplekfgadbjgdaaQMatchingCounts16
import Derived.Test.YtplekfgadbjgdaaQMatchingCounts17
import Derived.Test.YtplekfgadbjgdaaQMatchingCounts18
import Derived.Test.YtplekfgadbjgdaaQMatchingCounts19
import Derived.Test.YtplekfgadbjgdaaQMatchingCounts20
import Derived.Test.YtplekfgadbjgdaaQMatchingCounts21
import Derived.Test.YtplekfgadbjgdaaQMatchingCounts22
import Derived.Test.YtplekfgadbjgdaaQMatchingCounts23
import Derived.Test.YtplekfgadbjgdaaQMatchingCounts24
import Derived.Test.YtplekfgadbjgdaaQMatchingCounts25
import Derived.Test.YtplekfgadbjgdaaQMatchingCounts26
import Derived.Deep.RegionLaw
import Derived.RangeFuncNested
import Derived.RangeFuncBound
import Derived.RangeFuncCalls
import Derived.RangeFuncLeaves
import Derived.RangeFuncBox
import Derived.Shelf.Abstract
import Derived.Shelf.RegionOpen
import Derived.OwnWalkIn
import Derived.TacticsInMore
import Derived.LoopNIn
import Derived.LoopIn
import Derived.Maps.AppendAt
namespace Go.Proofs.Ytplekfgadbjgdaa
open Go.RowKit Go.Sl

def genOf (N : Nat) (x : Int) : Int := 1 + x % ((N : Int) - 1)
def gensL (N : Nat) (zs : List Int) (most : Nat) : List Nat := (zs.take most).map fun x => (genOf N x).toNat
theorem iz_gens (N : Nat) (zs : List Int) (most : Nat) (h : 2 ≤ N) : iz (gensL N zs most) = (zs.take most).map (genOf N) := by
  unfold iz gensL
  rw [List.map_map]
  refine List.map_congr_left fun x _ => ?_
  have := Int.emod_nonneg x (show (N : Int) - 1 ≠ 0 by omega)
  show ((genOf N x).toNat : Int) = genOf N x
  exact Int.toNat_of_nonneg (by unfold genOf; omega)
theorem gens_in (N : Nat) (zs : List Int) (most : Nat) (h : 2 ≤ N) : ∀ x ∈ gensL N zs most, 1 ≤ x ∧ x < N := fun x hx => by
  obtain ⟨y, _, rfl⟩ := List.mem_map.1 hx
  have := Int.emod_nonneg y (show (N : Int) - 1 ≠ 0 by omega)
  have := Int.emod_lt_of_pos y (show 0 < (N : Int) - 1 by omega)
  unfold genOf; omega
theorem gens_length (N : Nat) (zs : List Int) (most : Nat) : (gensL N zs most).length ≤ most := by simp [gensL]; omega

set_option maxHeartbeats 4000000 in
set_option maxRecDepth 100000 in
theorem generators_calls (N : Nat) (raw : Value) (zs : List Int) (most : Nat) (w : World) (hr : Ints w raw zs) (hz : ∀ z ∈ zs, I64 z) (h0 : 2 ≤ N) (h1 : N ≤ 1000) (hm : most ≤ 1000) :
    Calls Try.prog 19 #[.int .i64 N, raw, .int .i64 most] w fun e w' => ∃ v, e = .returned v ∧ OwnI w' w.heap.size v (iz (gensL N zs most)) ∧ Below w.heap.size w w' := by
  have hwN : IntKind.i64.wrap ((N : Int) - 1) = (N : Int) - 1 := IntWalk.i64_in _ ⟨by omega, by omega⟩
  have sr := hr.isSl
  have lr := hr.len
  have hcap := hr.cap
  obtain ⟨ys, hys⟩ : ∃ ys, ys = zs.take most := ⟨_, rfl⟩
  have hgoal : iz (gensL N zs most) = ys.map (genOf N) := by rw [hys]; exact iz_gens N zs most (by omega)
  rw [hgoal]
  clear hgoal
  obtain ⟨L, hL⟩ : ∃ L, L = zs.length := ⟨_, rfl⟩
  rw [← hL] at lr hcap
  have i63 := sr.i63
  rw [lr] at i63
  obtain ⟨n, hn⟩ : ∃ n, n = min L most := ⟨_, rfl⟩
  have hn1 : n ≤ L := by omega
  have hn2 : n ≤ most := by omega
  have htk : zs.take n = ys := by
    rw [hys, hn, hL, List.take_eq_take_iff]; omega
  have hcut : Ints w (vcut raw 0 n (vcap raw) 1) ys := by
    have := hr.cut (l := 0) (r := n) (m := vcap raw) (by omega) (by omega) (by omega) (by omega)
    rw [← htk]
    simpa using this
  have hlt' : ys.length = n := by rw [← htk]; simp; omega
  have hyz : ∀ y ∈ ys, I64 y := fun y hy => hz y (List.mem_of_mem_take (by rw [htk]; exact hy))
  have hcase : (most < L ∧ n = most) ∨ (¬ most < L ∧ n = L) := by omega
  have hmn : min (L : Int) (most : Int) = (n : Int) := by omega
  clear hn hys htk hL
  have hnc : n ≤ vcap raw := by omega
  have HC := Lib.hid hcut; clear hcut
  have sc := HC.out.isSl
  have lc := HC.out.len
  rw [hlt'] at lc
  have HL := Lib.hid hlt'; clear hlt'
  clear hr hz
  have HZ := Lib.hid hyz; clear hyz
  rcases hcase with ⟨hms, hh⟩ | ⟨hms, hh⟩
  all_goals
    subst hh
    go_enter Try.func19, Try.ntmps19
    go_wp2_with fail
    go_loopw [7, 17] (fun out i wr => ∃ k : Nat, k ≤ n ∧ i = .int .i64 k ∧ OwnI wr w.heap.size out ((ys.take k).map (genOf N)) ∧ Below w.heap.size w wr) (fun _ i _ => n - (intOf i).toNat)
    case atStart => exact ⟨0, Nat.zero_le _, rfl, ownI_nil _ _, Below.refl _ _⟩
    case round =>
      obtain ⟨k, hk, rfl, ho, hbr⟩ := hrel
      have hbs := hbr.size
      by_cases hlt : k < n
      · have c1 := (HC.out.below hbr).cell (k := k) (by rw [HL.out]; exact hlt)
        have hi : I64 (nth ys k) := HZ.out _ (nth_mem (by rw [HL.out]; exact hlt))
        have hll : ((ys.take k).map (genOf N)).length ≤ 1000 := by simp; omega
        have hnx : (ys.take k).map (genOf N) ++ [genOf N (nth ys k)] = (ys.take (k + 1)).map (genOf N) := by
          have hk2 : k < ys.length := by rw [HL.out]; exact hlt
          rw [List.take_succ_eq_append_getElem hk2, List.map_append, nth_lt hk2]; rfl
        have e1 := Int.emod_nonneg (nth ys k) (show (N : Int) - 1 ≠ 0 by omega)
        have e2 := Int.emod_lt_of_pos (nth ys k) (show 0 < (N : Int) - 1 by omega)
        have hw1 : IntKind.i64.wrap (1 + nth ys k % ((N : Int) - 1)) = genOf N (nth ys k) := IntWalk.i64_in _ ⟨by omega, by omega⟩
        have HX := Lib.hid hnx; clear hnx
        have HBR := Lib.hid hbr; clear hbr
        go_wp2_with (first
          | (go_at_call 13; refine (below_calls _ ((N : Int) - 1) _ (by omega) (by omega) hi).mono ?_; rintro e w' ⟨rfl, rfl⟩)
          | (at_builtin; refine wpList_push (v := u7) rfl _ _ rfl rfl rfl ho hbs (by omega) ?_; intro out2 w2 ho2 hg2 hr2))
        rw [HX.out] at ho2
        have hb2 : Below w.heap.size w w2 := Below_of_grown HBR.out hg2 hbs (fun b hb => (ho.lt b hb).1)
        go_roundw
        case rel => exact ⟨k + 1, by omega, by go_num, ho2, hb2⟩
        case measure => simp [intOf]; omega
      · go_wp2_with fail
        go_ret
        have hk' : k = n := by omega
        subst hk'
        exact ⟨u7, rfl, by rw [List.take_of_length_le (by rw [HL.out]; exact Nat.le_refl _)] at ho; exact ho, hbr⟩
end Go.Proofs.Ytplekfgadbjgdaa

