/- temperleylieb: One, Cup, Identity, Generator, walked. -/
import Derived.Test.YtplekfgadbjgdaaQMatchingCounts0
import Derived.Test.YtplekfgadbjgdaaQMatchingCounts1
import Derived.Test.YtplekfgadbjgdaaQMatchingCounts10
import Derived.Test.YtplekfgadbjgdaaQMatchingCounts11
import Derived.Test.YtplekfgadbjgdaaQMatchingCounts12
import Derived.Test.YtplekfgadbjgdaaQMatchingCounts13
import Derived.Test.YtplekfgadbjgdaaQMatchingCounts14
import Derived.Test.YtplekfgadbjgdaaQMatchingCounts15
import Derived.Test.YtplekfgadbjgdaaQMatchingCounts16
import Derived.Test.YtplekfgadbjgdaaQMatchingCounts17
import Derived.Test.YtplekfgadbjgdaaQMatchingCounts18
import Derived.Test.YtplekfgadbjgdaaQMatchingCounts19
import Derived.Test.YtplekfgadbjgdaaQMatchingCounts20
import Derived.Test.YtplekfgadbjgdaaQMatchingCounts21
import Derived.Test.YtplekfgadbjgdaaQMatchingCounts22
import Derived.Test.YtplekfgadbjgdaaQMatchingCounts23
import Derived.Test.YtplekfgadbjgdaaQMatchingCounts24
import Derived.Test.YtplekfgadbjgdaaQMatchingCounts25
import Derived.Deep.RegionLaw
import Derived.RangeFuncNested
import Derived.RangeFuncBound
import Derived.RangeFuncCalls
import Derived.RangeFuncLeaves
import Derived.RangeFuncBox
import Derived.Shelf.Abstract
import Derived.Shelf.RegionOpen
import Derived.OwnWalkIn
import Derived.TacticsInMore
import Derived.LoopNIn
import Derived.LoopIn
import Derived.Maps.AppendAt
namespace Go.Proofs.Ytplekfgadbjgdaa
open Go.RowKit Go.Sl
open Go.TL (oneL cupL)

def onePart (n i : Nat) : List Nat := (List.range (2 * n)).map fun j => if j < i then n + j else if n ≤ j ∧ j < n + i then j - n else 0
theorem onePart_length (n i : Nat) : (onePart n i).length = 2 * n := by simp [onePart]
theorem onePart_start (n : Nat) : onePart n 0 = List.replicate (2 * n) 0 := by
  refine List.ext_getElem (by simp [onePart]) fun j h1 h2 => ?_
  simp [onePart]; omega
theorem onePart_end (n : Nat) : onePart n n = oneL n := by
  refine List.ext_getElem (by simp [onePart, oneL]) fun j h1 h2 => ?_
  have hj : j < 2 * n := by simpa [onePart] using h1
  simp only [onePart, oneL, List.getElem_map, List.getElem_range]
  split
  · rfl
  · rw [if_pos (by omega)]
theorem onePart_step {n i : Nat} (h : i < n) : ((onePart n i).set i (n + i)).set (n + i) i = onePart n (i + 1) := by
  refine List.ext_getElem (by simp [onePart]) fun j h1 h2 => ?_
  have hj : j < 2 * n := by simpa [onePart] using h2
  rw [List.getElem_set, List.getElem_set]
  simp only [onePart, List.getElem_map, List.getElem_range]
  (repeat' split) <;> omega
theorem oneL_length (n : Nat) : (oneL n).length = 2 * n := by simp [oneL]
set_option maxRecDepth 100000 in
set_option maxHeartbeats 2000000 in
theorem one_calls (n : Nat) (w : World) (h1 : 1 ≤ n) (h6 : n ≤ 6) :
    Calls Try.prog 106 #[.int .i64 n] w fun e w' => ∃ u, e = .returned u ∧ OwnI w' w.heap.size u (iz (oneL n)) ∧ Below w.heap.size w w' := by
  obtain ⟨N2, hN2⟩ : ∃ N2, 2 * n = N2 := ⟨_, rfl⟩
  have hi2 : (2 : Int) * (n : Int) = (N2 : Int) := by omega
  have hN2b : N2 ≤ 12 := by omega
  have hst := onePart_start n
  rw [hN2] at hst
  have HST := Lib.hid hst; have HN2 := Lib.hid hN2
  clear hst hN2
  go_enter Try.func106, Try.ntmps106
  go_wp2_with (at_make; refine wpList_make rfl _ _ rfl _ _ N2 rfl rfl rfl rfl (by omega) ?_; intro u W1 ho hg hl hsz; have su := ho.isSl; have hb := below_grown_none (Below.refl _ _) hg; have HO := Lib.hid ho; have HB := Lib.hid hb; clear ho hg hb)
  have lu := HO.out.len
  rw [List.length_replicate] at lu
  have h0 : OwnI W1 w.heap.size u (iz (onePart n 0)) := by rw [HST.out]; unfold iz; rw [List.map_replicate]; exact HO.out
  have H0 := Lib.hid h0
  clear h0 HO HST
  go_loopw [9] (fun i wr => ∃ k : Nat, k ≤ n ∧ i = .int .i64 k ∧ OwnI wr w.heap.size u (iz (onePart n k)) ∧ Below w.heap.size w wr) (fun i _ => n - (intOf i).toNat)
  case atStart => exact ⟨0, Nat.zero_le _, rfl, H0.out, HB.out⟩
  case round =>
    rename World => W
    obtain ⟨k, hk, rfl, ho, hb⟩ := hrel
    by_cases hlt : k < n
    · have hl0 : (iz (onePart n k)).length = N2 := by rw [iz_length, onePart_length, HN2.out]
      have hn2 := HN2.out
      have c1 := ho.cell (k := k) (by omega)
      have f1 := ho.frozen (k := k) (by omega)
      have ho1 := ho.set (k := k) (by omega) ((n : Int) + (k : Int))
      have c2 := ho1.cell (k := n + k) (by rw [List.length_set]; omega)
      have f2 := ho1.frozen (k := n + k) (by rw [List.length_set]; omega)
      have ho2 := ho1.set (k := n + k) (by rw [List.length_set]; omega) (k : Int)
      obtain ⟨z1, hz1⟩ : ∃ z, nth (iz (onePart n k)) k = z := ⟨_, rfl⟩
      obtain ⟨z2, hz2⟩ : ∃ z, nth ((iz (onePart n k)).set k ((n : Int) + (k : Int))) (n + k) = z := ⟨_, rfl⟩
      rw [hz1] at c1
      rw [hz2] at c2
      have hst := onePart_step hlt
      have ho3 : OwnI ((W.setCell (vat u k) (.int .i64 ((n : Int) + (k : Int)))).setCell (vat u (n + k)) (.int .i64 k)) w.heap.size u (iz (onePart n (k + 1))) := by
        rw [← hst, iz_set, iz_set, Int.natCast_add]; exact ho2
      have hbu : w.heap.size ≤ vblk u := (ho.lt _ (row_some (v := u) (by have := su.le; omega))).1
      have hb3 := (hb.setCell (p := vat u k) (by rw [vat_block]; exact hbu) (.int .i64 ((n : Int) + (k : Int)))).setCell (p := vat u (n + k)) (by rw [vat_block]; exact hbu) (.int .i64 k)
      have hwr1 : IntKind.i64.wrap ((n : Int) + (k : Int)) = (n : Int) + (k : Int) := IntWalk.i64_in _ ⟨by omega, by omega⟩
      have HO3 := Lib.hid ho3; have HB3 := Lib.hid hb3
      clear ho ho1 ho2 ho3 hb hb3 hz1 hz2 hst hn2 hl0
      obtain ⟨nk, hnk⟩ : ∃ nk, n + k = nk := ⟨_, rfl⟩
      have hnki : (n : Int) + (k : Int) = (nk : Int) := by omega
      rw [hnk] at c2 f2 HO3 HB3
      rw [hnki] at hwr1 c2 f2 HO3 HB3
      have hnkb : nk < N2 := by have := HN2.out; omega
      go_wp2_with fail
      go_roundw
      case rel => exact ⟨k + 1, by omega, by go_num, HO3.out, HB3.out⟩
      case measure => simp [intOf]; omega
    · obtain rfl : k = n := by omega
      rw [onePart_end] at ho
      have HO := Lib.hid ho; have HBB := Lib.hid hb
      clear ho hb
      go_wp2_with fail
      go_ret
      exact ⟨u, rfl, HO.out, HBB.out⟩

set_option maxRecDepth 100000 in
set_option maxHeartbeats 4000000 in
theorem cup_calls (n i : Nat) (w : World) (h1 : 1 ≤ n) (h6 : n ≤ 6) (hi : 1 ≤ i) (hin : i < n) :
    Calls Try.prog 103 #[.int .i64 n, .int .i64 i] w fun e w' => ∃ u, e = .returned u ∧ OwnI w' w.heap.size u (iz (cupL n i)) ∧ Below w.heap.size w w' := by
  obtain ⟨j, hj⟩ : ∃ j, i - 1 = j := ⟨_, rfl⟩
  have hji : (i : Int) - 1 = (j : Int) := by omega
  obtain ⟨a, ha⟩ : ∃ a, n + i = a := ⟨_, rfl⟩
  have hai : (n : Int) + (i : Int) = (a : Int) := by omega
  obtain ⟨b, hb⟩ : ∃ b, n + i - 1 = b := ⟨_, rfl⟩
  have hbi : (a : Int) - 1 = (b : Int) := by omega
  obtain ⟨N2, hN2⟩ : ∃ N2, 2 * n = N2 := ⟨_, rfl⟩
  have lj : j < N2 := by omega
  have li : i < N2 := by omega
  have la : a < N2 := by omega
  have lb : b < N2 := by omega
  have hl := oneL_length n
  rw [hN2] at hl
  have hcup : cupL n i = ((((oneL n).set j i).set i j).set b a).set a b := by unfold cupL; rw [hj, hb, ha]
  have HC := Lib.hid hcup; have HL := Lib.hid hl
  clear hcup hj ha hb hl hN2
  go_enter Try.func103, Try.ntmps103
  go_wp2_with fail
  refine (one_calls n w h1 h6).mono ?_
  rintro e W ⟨u, rfl, ho, hb0⟩
  have su := ho.isSl
  have lu := ho.len
  rw [iz_length, HL.out] at lu
  have le : ∀ (x1 y1 x2 y2 x3 y3 : Nat), ((((iz (oneL n)).set x1 (y1 : Int)).set x2 (y2 : Int)).set x3 (y3 : Int)).length = N2 := fun x1 y1 x2 y2 x3 y3 => by simp [iz_length, HL.out]
  have q0 := ho
  have c1 := q0.cell (k := j) (by rw [iz_length, HL.out]; exact lj)
  have f1 := q0.frozen (k := j) (by rw [iz_length, HL.out]; exact lj)
  have q1 := q0.set (k := j) (by rw [iz_length, HL.out]; exact lj) (i : Int)
  have c2 := q1.cell (k := i) (by rw [List.length_set, iz_length, HL.out]; exact li)
  have f2 := q1.frozen (k := i) (by rw [List.length_set, iz_length, HL.out]; exact li)
  have q2 := q1.set (k := i) (by rw [List.length_set, iz_length, HL.out]; exact li) (j : Int)
  have c3 := q2.cell (k := b) (by rw [List.length_set, List.length_set, iz_length, HL.out]; exact lb)
  have f3 := q2.frozen (k := b) (by rw [List.length_set, List.length_set, iz_length, HL.out]; exact lb)
  have q3 := q2.set (k := b) (by rw [List.length_set, List.length_set, iz_length, HL.out]; exact lb) (a : Int)
  have c4 := q3.cell (k := a) (by rw [le]; exact la)
  have f4 := q3.frozen (k := a) (by rw [le]; exact la)
  have q4 := q3.set (k := a) (by rw [le]; exact la) (b : Int)
  rw [← iz_set, ← iz_set, ← iz_set, ← iz_set, ← HC.out] at q4
  obtain ⟨z1, hz1⟩ : ∃ z, nth (iz (oneL n)) j = z := ⟨_, rfl⟩
  rw [hz1] at c1
  obtain ⟨z2, hz2⟩ : ∃ z, nth ((iz (oneL n)).set j (i : Int)) i = z := ⟨_, rfl⟩
  rw [hz2] at c2
  obtain ⟨z3, hz3⟩ : ∃ z, nth (((iz (oneL n)).set j (i : Int)).set i (j : Int)) b = z := ⟨_, rfl⟩
  rw [hz3] at c3
  obtain ⟨z4, hz4⟩ : ∃ z, nth ((((iz (oneL n)).set j (i : Int)).set i (j : Int)).set b (a : Int)) a = z := ⟨_, rfl⟩
  rw [hz4] at c4
  have hbu : w.heap.size ≤ vblk u := (ho.lt _ (row_some (v := u) (by have := su.le; omega))).1
  have hb4 := (((hb0.setCell (p := vat u j) (by rw [vat_block]; exact hbu) (.int .i64 i)).setCell (p := vat u i) (by rw [vat_block]; exact hbu) (.int .i64 j)).setCell (p := vat u b) (by rw [vat_block]; exact hbu) (.int .i64 a)).setCell (p := vat u a) (by rw [vat_block]; exact hbu) (.int .i64 b)
  have hw1 : IntKind.i64.wrap ((i : Int) - 1) = (j : Int) := by rw [hji]; exact IntWalk.i64_in _ ⟨by omega, by omega⟩
  have hw2 : IntKind.i64.wrap ((n : Int) + (i : Int)) = (a : Int) := by rw [hai]; exact IntWalk.i64_in _ ⟨by omega, by omega⟩
  have hw3 : IntKind.i64.wrap ((a : Int) - 1) = (b : Int) := by rw [hbi]; exact IntWalk.i64_in _ ⟨by omega, by omega⟩
  have HQ := Lib.hid q4; have HB := Lib.hid hb4
  clear ho q0 q1 q2 q3 q4 hb0 hb4 hz1 hz2 hz3 hz4 le HC hbu
  go_wp2_with fail
  go_ret
  exact ⟨u, rfl, HQ.out, HB.out⟩

set_option maxRecDepth 100000 in
theorem tstrands_calls (n : Nat) (w : World) (h1 : 1 ≤ n) (h6 : n ≤ 6) :
    Calls Try.prog 58 #[.int .i64 n] w fun e w' => e = .returned (.int .i64 0) ∧ w = w' := by
  go_enter Try.func58, Try.ntmps58
  go_wp2_with fail
  go_ret
  exact ⟨rfl, rfl⟩
set_option maxRecDepth 100000 in
theorem tidentity_calls (n : Nat) (w : World) (h1 : 1 ≤ n) (h6 : n ≤ 6) :
    Calls Try.prog 66 #[.int .i64 n] w fun e w' => ∃ u, e = .returned (.tuple #[u, .int .i64 0]) ∧ OwnI w' w.heap.size u (iz (oneL n)) ∧ Below w.heap.size w w' := by
  go_enter Try.func66, Try.ntmps66
  go_wp2_with fail
  refine (tstrands_calls n _ h1 h6).mono ?_
  rintro e w' ⟨rfl, rfl⟩
  go_wp2_with fail
  refine (one_calls n _ h1 h6).mono ?_
  rintro e W ⟨u, rfl, ho, hb⟩
  have su := ho.isSl
  have HO := Lib.hid ho; have HB := Lib.hid hb
  clear ho hb
  go_wp2_with fail
  go_ret2
  exact ⟨u, rfl, HO.out, HB.out⟩
set_option maxRecDepth 100000 in
theorem tgenerator_calls (n i : Nat) (w : World) (h1 : 1 ≤ n) (h6 : n ≤ 6) (hi : 1 ≤ i) (hin : i < n) :
    Calls Try.prog 63 #[.int .i64 n, .int .i64 i] w fun e w' => ∃ u, e = .returned (.tuple #[u, .int .i64 0]) ∧ OwnI w' w.heap.size u (iz (cupL n i)) ∧ Below w.heap.size w w' := by
  go_enter Try.func63, Try.ntmps63
  go_wp2_with fail
  refine (tstrands_calls n _ h1 h6).mono ?_
  rintro e w' ⟨rfl, rfl⟩
  go_wp2_with fail
  refine (cup_calls n i _ h1 h6 hi hin).mono ?_
  rintro e W ⟨u, rfl, ho, hb⟩
  have su := ho.isSl
  have HO := Lib.hid ho; have HB := Lib.hid hb
  clear ho hb
  go_wp2_with fail
  go_ret2
  exact ⟨u, rfl, HO.out, HB.out⟩

end Go.Proofs.Ytplekfgadbjgdaa

