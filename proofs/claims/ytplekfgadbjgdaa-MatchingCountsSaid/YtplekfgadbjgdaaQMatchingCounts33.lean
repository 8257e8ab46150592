/- matchings: stacked, matched, walked. -/
import Derived.Test.YtplekfgadbjgdaaQMatchingCounts0
import Derived.Test.YtplekfgadbjgdaaQMatchingCounts1
import Derived.Test.YtplekfgadbjgdaaQMatchingCounts10
import Derived.Test.YtplekfgadbjgdaaQMatchingCounts11
import Derived.Test.YtplekfgadbjgdaaQMatchingCounts12
import Derived.Test.YtplekfgadbjgdaaQMatchingCounts13
import Derived.Test.YtplekfgadbjgdaaQMatchingCounts14
import Derived.Test.YtplekfgadbjgdaaQMatchingCounts15
import Derived.Test.YtplekfgadbjgdaaQMatchingCounts16
import Derived.Test.YtplekfgadbjgdaaQMatchingCounts17
import Derived.Test.YtplekfgadbjgdaaQMatchingCounts18
import Derived.Test.YtplekfgadbjgdaaQMatchingCounts19
import Derived.Test.YtplekfgadbjgdaaQMatchingCounts20
import Derived.Test.YtplekfgadbjgdaaQMatchingCounts21
import Derived.Test.YtplekfgadbjgdaaQMatchingCounts22
import Derived.Test.YtplekfgadbjgdaaQMatchingCounts23
import Derived.Test.YtplekfgadbjgdaaQMatchingCounts24
import Derived.Test.YtplekfgadbjgdaaQMatchingCounts25
import Derived.Test.YtplekfgadbjgdaaQMatchingCounts26
import Derived.Test.YtplekfgadbjgdaaQMatchingCounts27
import Derived.Test.YtplekfgadbjgdaaQMatchingCounts28
import Derived.Test.YtplekfgadbjgdaaQMatchingCounts29
import Derived.Test.YtplekfgadbjgdaaQMatchingCounts31
import Derived.Test.YtplekfgadbjgdaaQMatchingCounts32
import Derived.Deep.RegionLaw
import Derived.RangeFuncNested
import Derived.RangeFuncBound
import Derived.RangeFuncCalls
import Derived.RangeFuncLeaves
import Derived.RangeFuncBox
import Derived.Shelf.Abstract
import Derived.Shelf.RegionOpen
import Derived.OwnWalkIn
import Derived.TacticsInMore
import Derived.LoopNIn
import Derived.LoopIn
import Derived.Maps.AppendAt
namespace Go.Proofs.Ytplekfgadbjgdaa
open Go.RowKit Go.Sl
open Go.TL (lnAt addLn tlWalk tlLoops putLines putL closeLines closeL oneL cupL)

def rowsB (n : Nat) (a b : List Nat) : Bool := (putLines n a b (2 * n)).all fun r => decide (r.length ≤ 2)
def closeB (n : Nat) (d : List Nat) : Bool := (closeLines n d (2 * n)).all fun r => decide (r.length ≤ 2)
theorem lnAt_all {L : List (List Nat)} (h : (L.all fun r => decide (r.length ≤ 2)) = true) (j : Nat) : (lnAt L j).length ≤ 2 := by
  simp only [List.all_eq_true, decide_eq_true_eq] at h
  by_cases hj : j < L.length
  · have : lnAt L j = L[j] := by unfold lnAt; rw [List.getD_eq_getElem?_getD, List.getElem?_eq_getElem hj]; rfl
    rw [this]; exact h _ (List.getElem_mem hj)
  · rw [lnAt_ge (by omega)]; simp
theorem rows_of {n : Nat} {a b : List Nat} (h : rowsB n a b = true) (j : Nat) : (lnAt (putLines n a b (2 * n)) j).length ≤ 2 := lnAt_all h j
theorem close_of {n : Nat} {d : List Nat} (h : closeB n d = true) (j : Nat) : (lnAt (closeLines n d (2 * n)) j).length ≤ 2 := lnAt_all h j

/-- What stacked computes, with all that must hold on the way. -/
def runS (n : Nat) : List Nat → List Nat → Nat → Option (List Nat × Nat)
  | [], d, c => some (d, c)
  | x :: xs, d, c =>
    if 1 ≤ x ∧ x < n ∧ c ≤ 1000 ∧ tokB n d = true ∧ tokB n (cupL n x) = true ∧ rowsB n d (cupL n x) = true then
      match putL n d (cupL n x) with
      | some (e, k) => if k ≤ 1000 then runS n xs e (c + k) else none
      | none => none
    else none

set_option maxRecDepth 100000 in
set_option maxHeartbeats 4000000 in
theorem stacked_calls (n : Nat) (X : List Nat) (v : Value) (w : World) (hv : Ints w v (iz X)) (hX : X.length ≤ 1000) (h1 : 1 ≤ n) (h6 : n ≤ 6) (O : List Nat) (C : Nat) (hrun : runS n X (oneL n) 0 = some (O, C)) :
    Calls Try.prog 18 #[.int .i64 n, v] w fun e w' => ∃ u, e = .returned (.tuple #[u, .int .i64 (C : Nat), .bool true]) ∧ OwnI w' w.heap.size u (iz O) ∧ Below w.heap.size w w' := by
  have sv := hv.isSl
  have lv := hv.len
  rw [iz_length] at lv
  obtain ⟨N, hN⟩ : ∃ N, X.length = N := ⟨_, rfl⟩
  rw [hN] at lv hX
  have HV := Lib.hid hv; have HR := Lib.hid hrun; have HN := Lib.hid hN
  clear hv hrun hN
  go_enter Try.func18, Try.ntmps18
  go_wp2_with fail
  refine (tidentity_calls n w h1 h6).mono ?_
  rintro e W ⟨u, rfl, ho, hb⟩
  have su := ho.isSl
  have HO := Lib.hid ho; have HB := Lib.hid hb
  clear ho hb
  go_wp2_with fail
  go_loopw [7, 9, 10, 27] (fun o m b i wr => ∃ (k c : Nat) (d : List Nat), k ≤ N ∧ i = .int .i64 k ∧ m = .int .i64 c ∧ b = .bool true ∧ runS n (X.drop k) d c = some (O, C) ∧ OwnI wr w.heap.size o (iz d) ∧ Below w.heap.size w wr) (fun _ _ _ i _ => N - (intOf i).toNat)
  case atStart => exact ⟨0, 0, oneL n, Nat.zero_le _, rfl, rfl, rfl, HR.out, HO.out, HB.out⟩
  case round =>
    rename World => V
    obtain ⟨k, c, d, hk, rfl, rfl, rfl, hrun, ho, hbr⟩ := hrel
    by_cases hlt : k < N
    · have hkX : k < X.length := by rw [HN.out]; exact hlt
      rw [List.drop_eq_getElem_cons hkX] at hrun
      have cx := (HV.out.below hbr).cell (k := k) (by rw [iz_length]; exact hkX)
      rw [nth_iz hkX] at cx
      obtain ⟨x, hx⟩ : ∃ x, X[k] = x := ⟨_, rfl⟩
      rw [hx] at hrun cx
      rw [runS] at hrun
      split at hrun
      next hc =>
        obtain ⟨q1, q2, q3, q4, q5, q6⟩ := hc
        cases hp : putL n d (cupL n x) with
        | none => rw [hp] at hrun; cases hrun
        | some r =>
          obtain ⟨e, t⟩ := r
          rw [hp] at hrun
          dsimp only at hrun
          split at hrun
          next ht =>
            have hg := tgenerator_calls n x V h1 h6 q1 q2
            have hpr : ∀ (Z : World) (va vb : Value), Ints Z va (iz d) → Ints Z vb (iz (cupL n x)) → _ := fun Z va vb ha hb => tproduct_calls n d (cupL n x) va vb Z ha hb h1 h6 (TOk.of q4) (TOk.of q5) e t hp (rows_of q6)
            have so := ho.isSl
            have HG := Lib.hid hg; have HP := Lib.hid hpr; have HR2 := Lib.hid hrun; have HO2 := Lib.hid ho; have HBR := Lib.hid hbr
            clear hg hpr hrun ho hbr q4 q5 q6 hp hx
            go_wp2_with fail
            refine HG.out.mono ?_
            rintro _ V2 ⟨r, rfl, hr, hb2⟩
            have sr := hr.isSl
            have HRR := Lib.hid hr; have HB2 := Lib.hid (HBR.out.trans (hb2.mono HBR.out.size)); have HO3 := Lib.hid (HO2.out.below hb2)
            clear hr hb2
            go_wp2_with fail
            refine (HP.out V2 _ _ HO3.out.ints HRR.out.ints).mono ?_
            rintro _ V3 ⟨r3, rfl, hr3, hb3⟩
            have sr3 := hr3.isSl
            have HR3 := Lib.hid (hr3.low HB2.out.size); have HB3 := Lib.hid (HB2.out.trans (hb3.mono HB2.out.size))
            clear hr3 hb3
            have hwr : IntKind.i64.wrap ((c : Int) + (t : Int)) = (c : Int) + (t : Int) := IntWalk.i64_in _ ⟨by omega, by omega⟩
            go_wp2_with fail
            go_roundw
            case rel => exact ⟨k + 1, c + t, e, by omega, by go_num, by go_num, rfl, HR2.out, HR3.out, HB3.out⟩
            case measure => simp [intOf]; omega
          next => cases hrun
      next => cases hrun
    · obtain rfl : k = N := by omega
      rw [List.drop_eq_nil_of_le (by rw [HN.out]; exact Nat.le_refl _), runS] at hrun
      obtain ⟨rfl, rfl⟩ : d = O ∧ c = C := by simpa using hrun
      have so := ho.isSl
      have HO2 := Lib.hid ho; have HBR := Lib.hid hbr
      clear ho hbr
      go_wp2_with fail
      go_ret3
      exact ⟨_, rfl, HO2.out, HBR.out⟩

end Go.Proofs.Ytplekfgadbjgdaa

