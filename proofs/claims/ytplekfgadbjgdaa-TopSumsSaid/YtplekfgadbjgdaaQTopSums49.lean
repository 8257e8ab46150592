/- The fact trefoil, walked; the polynomial of words on two strands. -/
import Derived.Test.YtplekfgadbjgdaaQTopSums0
import Derived.Test.YtplekfgadbjgdaaQTopSums1
import Derived.Test.YtplekfgadbjgdaaQTopSums2
import Derived.Test.YtplekfgadbjgdaaQTopSums3
import Derived.Test.YtplekfgadbjgdaaQTopSums4
import Derived.Test.YtplekfgadbjgdaaQTopSums5
import Derived.Test.YtplekfgadbjgdaaQTopSums6
import Derived.Test.YtplekfgadbjgdaaQTopSums7
import Derived.Test.YtplekfgadbjgdaaQTopSums8
import Derived.Test.YtplekfgadbjgdaaQTopSums9
import Derived.Test.YtplekfgadbjgdaaQTopSums10
import Derived.Test.YtplekfgadbjgdaaQTopSums11
import Derived.Test.YtplekfgadbjgdaaQTopSums12
import Derived.Test.YtplekfgadbjgdaaQTopSums13
import Derived.Test.YtplekfgadbjgdaaQTopSums14
import Derived.Test.YtplekfgadbjgdaaQTopSums15
import Derived.Test.YtplekfgadbjgdaaQTopSums16
import Derived.Test.YtplekfgadbjgdaaQTopSums17
import Derived.Test.YtplekfgadbjgdaaQTopSums18
import Derived.Test.YtplekfgadbjgdaaQTopSums19
import Derived.Test.YtplekfgadbjgdaaQTopSums20
import Derived.Test.YtplekfgadbjgdaaQTopSums21
import Derived.Test.YtplekfgadbjgdaaQTopSums22
import Derived.Test.YtplekfgadbjgdaaQTopSums23
import Derived.Test.YtplekfgadbjgdaaQTopSums24
import Derived.Test.YtplekfgadbjgdaaQTopSums25
import Derived.Test.YtplekfgadbjgdaaQTopSums26
import Derived.Test.YtplekfgadbjgdaaQTopSums27
import Derived.Test.YtplekfgadbjgdaaQTopSums28
import Derived.Test.YtplekfgadbjgdaaQTopSums29
import Derived.Test.YtplekfgadbjgdaaQTopSums30
import Derived.Test.YtplekfgadbjgdaaQTopSums31
import Derived.Test.YtplekfgadbjgdaaQTopSums32
import Derived.Test.YtplekfgadbjgdaaQTopSums33
import Derived.Test.YtplekfgadbjgdaaQTopSums34
import Derived.Test.YtplekfgadbjgdaaQTopSums35
import Derived.Test.YtplekfgadbjgdaaQTopSums36
import Derived.Test.YtplekfgadbjgdaaQTopSums37
import Derived.Test.YtplekfgadbjgdaaQTopSums38
import Derived.Test.YtplekfgadbjgdaaQTopSums39
import Derived.Test.YtplekfgadbjgdaaQTopSums40
import Derived.Test.YtplekfgadbjgdaaQTopSums42
import Derived.Test.YtplekfgadbjgdaaQTopSums43
import Derived.Test.YtplekfgadbjgdaaQTopSums44
import Derived.Test.YtplekfgadbjgdaaQTopSums45
import Derived.Test.YtplekfgadbjgdaaQTopSums46
import Derived.Test.YtplekfgadbjgdaaQTopSums47
import Derived.Test.YtplekfgadbjgdaaQTopSums48
import Derived.Shelf.Strings.Builder1
import Derived.Deep.RegionWith
import Derived.RangeFuncNested
import Derived.RangeFuncCalls
import Derived.OrdersIn
import Derived.OrdersHeld
import Derived.Deep.RegionHeld
import Derived.RangeFuncBound
import Derived.RangeFuncLeaves
import Derived.RangeFuncBox
import Derived.Shelf.Abstract
import Derived.Shelf.RegionOpen
import Derived.OwnWalkIn
import Derived.TacticsInMore
import Derived.LoopNIn
import Derived.LoopIn
import Derived.Maps.AppendAt
import Derived.Deep.RegionLaw
namespace Go.Proofs.Ytplekfgadbjgdaa
open Go.RowKit Go.Sl Go.Mp Go.TL

theorem step2_0 {t : Rat} {x : Int} (hx : x.natAbs = 1) (f : Nat → Rat) : stepJ mP2 2 t x f 0 = t ^ exJ x 0 * f 0 := by
  have a00 : PT mP2 0 0 = (0, 0) := by decide +kernel
  have a01 : PT mP2 0 1 = (1, 0) := by decide +kernel
  have a10 : PT mP2 1 0 = (1, 0) := by decide +kernel
  have a11 : PT mP2 1 1 = (1, 1) := by decide +kernel
  simp only [stepJ, sumQ, cfJ, hx, if_true, Nat.one_ne_zero, if_false, a00, a01, a10, a11, show ¬ (0 : Nat) = 1 by decide, Rat.pow_zero]
  grind
theorem step2_1 {t : Rat} {x : Int} (hx : x.natAbs = 1) (f : Nat → Rat) : stepJ mP2 2 t x f 1 = t ^ exJ x 0 * f 1 + t ^ exJ x 1 * (f 0 + dl t * f 1) := by
  have a00 : PT mP2 0 0 = (0, 0) := by decide +kernel
  have a01 : PT mP2 0 1 = (1, 0) := by decide +kernel
  have a10 : PT mP2 1 0 = (1, 0) := by decide +kernel
  have a11 : PT mP2 1 1 = (1, 1) := by decide +kernel
  simp only [stepJ, sumQ, cfJ, hx, if_true, if_false, a00, a01, a10, a11, show ¬ (1 : Nat) = 0 by decide, Rat.pow_zero, Rat.pow_one]
  grind
theorem bracket2 (t : Rat) (xs : List Int) : bracketJ mP2 2 mT2 t xs = wordJ mP2 2 t xs unitJ 0 * dl t + wordJ mP2 2 t xs unitJ 1 := by
  have d0 : dg mT2 0 = 2 := by decide +kernel
  have d1 : dg mT2 1 = 1 := by decide +kernel
  simp only [bracketJ, sumQ, d0, d1]
  grind
def trefP : LP := ⟨4, [1, 0, 0, 0, 0, 0, 0, 0, 1, 0, 0, 0, -1]⟩
theorem ev_tref {t : Rat} (ht : t ≠ 0) : ev trefP t = jonesV mP2 2 mT2 t [-1, -1, -1] := by
  have e0 : exJ (-1) 0 = -1 := by decide
  have e1 : exJ (-1) 1 = 1 := by decide
  have p1 : t ^ (1 : Int) = t := by
    have h := Rat.zpow_natCast t 1
    rw [Rat.pow_one] at h
    exact h
  have m1 : t ^ (-1 : Int) = t⁻¹ := by rw [Rat.zpow_neg, p1]
  have m2 : t ^ (-2 : Int) = t⁻¹ * t⁻¹ := by rw [show (-2 : Int) = -1 + -1 by omega, Rat.zpow_add ht, m1]
  have h0 : t * t⁻¹ = 1 := Rat.mul_inv_cancel _ ht
  have s3 : sumL [-1, -1, -1] = -3 := by decide
  have sg : signJ (-3) = -1 := by decide
  have z9 : t ^ (-3 * -3 : Int) = t ^ 9 := by rw [show (-3 * -3 : Int) = ((9 : Nat) : Int) by decide]; exact Rat.zpow_natCast t 9
  have z4 : t ^ (4 : Int) = t ^ 4 := by rw [show (4 : Int) = ((4 : Nat) : Int) by decide]; exact Rat.zpow_natCast t 4
  have w0 : wordJ mP2 2 t [-1, -1, -1] unitJ 0 = t⁻¹ * t⁻¹ * t⁻¹ := by
    rw [wordJ_cons, wordJ_cons, wordJ_cons]
    show stepJ mP2 2 t (-1) _ 0 = _
    rw [step2_0 (by decide), step2_0 (by decide), step2_0 (by decide), e0, m1]
    simp only [unitJ, if_true]; grind
  have q1 : stepJ mP2 2 t (-1) unitJ 1 = t := by
    rw [step2_1 (by decide), e0, e1, p1, m1]
    simp only [unitJ, if_true, Nat.one_ne_zero, if_false]; grind
  have q0 : stepJ mP2 2 t (-1) unitJ 0 = t⁻¹ := by
    rw [step2_0 (by decide), e0, m1]
    simp only [unitJ, if_true]; grind
  have r1 : stepJ mP2 2 t (-1) (stepJ mP2 2 t (-1) unitJ) 1 = t⁻¹ * t + t * (t⁻¹ + dl t * t) := by rw [step2_1 (by decide), e0, e1, p1, m1, q1, q0]
  have r0 : stepJ mP2 2 t (-1) (stepJ mP2 2 t (-1) unitJ) 0 = t⁻¹ * t⁻¹ := by rw [step2_0 (by decide), e0, m1, q0]
  have w1 : wordJ mP2 2 t [-1, -1, -1] unitJ 1 = t⁻¹ * (t⁻¹ * t + t * (t⁻¹ + dl t * t)) + t * (t⁻¹ * t⁻¹ + dl t * (t⁻¹ * t + t * (t⁻¹ + dl t * t))) := by
    rw [wordJ_cons, wordJ_cons, wordJ_cons]
    show stepJ mP2 2 t (-1) _ 1 = _
    rw [step2_1 (by decide), e0, e1, p1, m1, r1, r0]
  unfold jonesV
  rw [bracket2, w0, w1, s3, sg, z9]
  have c1 : ((1 : Int) : Rat) = 1 := by simp
  have c0 : ((0 : Int) : Rat) = 0 := by simp
  have cm : ((-1 : Int) : Rat) = -1 := by simp
  simp only [ev, evL, trefP, z4, dl, m2, c1, c0, cm]
  generalize t⁻¹ = v at h0 ⊢
  grind
theorem tref_tr : Trimmed trefP := tr_lit (by decide) (by decide) (by decide)
theorem tref_count : solL (smithL (matI 2 (colF 3 2 ((1 : Int) % ((3 : Nat) : Int)) [1, 1, 1])) 2 2) 3 2 = 9 := by decide +kernel

end Go.Proofs.Ytplekfgadbjgdaa

