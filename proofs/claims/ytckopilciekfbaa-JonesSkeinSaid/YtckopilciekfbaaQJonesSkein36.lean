/- The polynomial with one letter more, of either sign. Plain law. -/
import Derived.Test.YtckopilciekfbaaQJonesSkein0
import Derived.Test.YtckopilciekfbaaQJonesSkein1
import Derived.Test.YtckopilciekfbaaQJonesSkein2
import Derived.Test.YtckopilciekfbaaQJonesSkein3
import Derived.Test.YtckopilciekfbaaQJonesSkein4
import Derived.Test.YtckopilciekfbaaQJonesSkein5
import Derived.Test.YtckopilciekfbaaQJonesSkein6
import Derived.Test.YtckopilciekfbaaQJonesSkein7
import Derived.Test.YtckopilciekfbaaQJonesSkein8
import Derived.Test.YtckopilciekfbaaQJonesSkein9
import Derived.Test.YtckopilciekfbaaQJonesSkein10
import Derived.Test.YtckopilciekfbaaQJonesSkein11
import Derived.Test.YtckopilciekfbaaQJonesSkein12
import Derived.Test.YtckopilciekfbaaQJonesSkein13
import Derived.Test.YtckopilciekfbaaQJonesSkein14
import Derived.Test.YtckopilciekfbaaQJonesSkein15
import Derived.Test.YtckopilciekfbaaQJonesSkein16
import Derived.Test.YtckopilciekfbaaQJonesSkein18
import Derived.Test.YtckopilciekfbaaQJonesSkein19
import Derived.Test.YtckopilciekfbaaQJonesSkein20
import Derived.Test.YtckopilciekfbaaQJonesSkein21
import Derived.Test.YtckopilciekfbaaQJonesSkein22
import Derived.Test.YtckopilciekfbaaQJonesSkein23
import Derived.Test.YtckopilciekfbaaQJonesSkein24
import Derived.Test.YtckopilciekfbaaQJonesSkein25
import Derived.Test.YtckopilciekfbaaQJonesSkein26
import Derived.Test.YtckopilciekfbaaQJonesSkein27
import Derived.Test.YtckopilciekfbaaQJonesSkein28
import Derived.Test.YtckopilciekfbaaQJonesSkein29
import Derived.Test.YtckopilciekfbaaQJonesSkein30
import Derived.Test.YtckopilciekfbaaQJonesSkein31
import Derived.Test.YtckopilciekfbaaQJonesSkein32
import Derived.Test.YtckopilciekfbaaQJonesSkein33
import Derived.Test.YtckopilciekfbaaQJonesSkein34
import Derived.Test.YtckopilciekfbaaQJonesSkein35
import Derived.RangeFuncNested
import Derived.RangeFuncCalls
import Derived.OrdersIn
import Derived.OrdersHeld
import Derived.Deep.RegionHeld
import Derived.RangeFuncBound
import Derived.RangeFuncLeaves
import Derived.RangeFuncBox
import Derived.Shelf.Abstract
import Derived.Shelf.RegionOpen
import Derived.OwnWalkIn
import Derived.TacticsInMore
import Derived.LoopNIn
import Derived.LoopIn
import Derived.Maps.AppendAt
import Derived.Deep.RegionLaw
import Derived.Deep.CutRange
namespace Go.Proofs.Ytckopilciekfbaa
open Go.TL

theorem mj_all (n : Nat) (h2 : 2 ≤ n) (h6 : n ≤ 6) : ∃ N S P Tr, MJ n N S P Tr := by
  obtain rfl | rfl | rfl | rfl | rfl : n = 2 ∨ n = 3 ∨ n = 4 ∨ n = 5 ∨ n = 6 := by omega
  · exact ⟨_, _, _, _, mj2⟩
  · exact ⟨_, _, _, _, mj3⟩
  · exact ⟨_, _, _, _, mj4⟩
  · exact ⟨_, _, _, _, mj5⟩
  · exact ⟨_, _, _, _, mj6⟩
section
variable {P : List Nat} {N Tr : Nat} {t : Rat}
theorem stepJ_congr {f g : Nat → Rat} (h : ∀ i, i < N → f i = g i) (x : Int) (j : Nat) : stepJ P N t x f j = stepJ P N t x g j := sumQ_congr fun i hi => by rw [h i hi]
theorem stepJ_lin (a b : Rat) (f g : Nat → Rat) (x : Int) (j : Nat) : stepJ P N t x (fun i => a * f i + b * g i) j = a * stepJ P N t x f j + b * stepJ P N t x g j := by
  unfold stepJ
  rw [← sumQ_mul, ← sumQ_mul, ← sumQ_add]
  exact sumQ_congr fun i _ => by grind
theorem wordJ_cons (x : Int) (xs : List Int) (f : Nat → Rat) : wordJ P N t (x :: xs) f = wordJ P N t xs (stepJ P N t x f) := rfl
theorem wordJ_append (xs ys : List Int) (f : Nat → Rat) : wordJ P N t (xs ++ ys) f = wordJ P N t ys (wordJ P N t xs f) := by unfold wordJ; rw [List.foldl_append]
theorem wordJ_congr : ∀ (xs : List Int) (f g : Nat → Rat), (∀ i, i < N → f i = g i) → ∀ j, j < N → wordJ P N t xs f j = wordJ P N t xs g j
  | [], _, _, h, j, hj => h j hj
  | x :: xs, f, g, h, j, hj => by
    rw [wordJ_cons, wordJ_cons]
    exact wordJ_congr xs _ _ (fun i _ => stepJ_congr h x i) j hj
theorem wordJ_lin (a b : Rat) : ∀ (xs : List Int) (f g : Nat → Rat) (j : Nat), j < N → wordJ P N t xs (fun i => a * f i + b * g i) j = a * wordJ P N t xs f j + b * wordJ P N t xs g j
  | [], _, _, _, _ => rfl
  | x :: xs, f, g, j, hj => by
    rw [wordJ_cons, wordJ_cons, wordJ_cons, ← wordJ_lin a b xs _ _ j hj]
    exact wordJ_congr xs _ _ (fun i _ => stepJ_lin a b f g x i) j hj
/-- The generator h alone. -/
def genJ (P : List Nat) (N h : Nat) (t : Rat) (f : Nat → Rat) (j : Nat) : Rat := sumQ N fun i => f i * if j = (PT P i h).1 then dl t ^ (PT P i h).2 else 0
theorem stepJ_two {n : Nat} {S : List (List Nat)} (H : MJ n N S P Tr) (x : Int) (f : Nat → Rat) (j : Nat) (hj : j < N) : stepJ P N t x f j = t ^ exJ x 0 * f j + t ^ exJ x 1 * genJ P N x.natAbs t f j := by
  unfold stepJ genJ
  rw [← sumQ_mul]
  have h1 : f j = sumQ N fun i => f i * if j = i then 1 else 0 := by
    rw [sumQ_one hj (fun i _ hi => by rw [if_neg (fun e => hi e.symm), Rat.mul_zero]), if_pos rfl, Rat.mul_one]
  rw [h1, ← sumQ_mul, ← sumQ_add]
  refine sumQ_congr fun i hi => ?_
  unfold cfJ
  have e0 := H.eno i hi
  simp only [if_true, e0, Nat.one_ne_zero, if_false, Rat.pow_zero]
  split <;> split <;> grind
def sumJ (N Tr : Nat) (t : Rat) (f : Nat → Rat) : Rat := sumQ N fun i => f i * dl t ^ (dg Tr i - 1)
theorem bracketJ_mid {n : Nat} {S : List (List Nat)} (H : MJ n N S P Tr) (xs ys : List Int) (x : Int) :
    bracketJ P N Tr t (xs ++ [x] ++ ys) = t ^ exJ x 0 * bracketJ P N Tr t (xs ++ ys) + t ^ exJ x 1 * sumJ N Tr t (wordJ P N t ys (genJ P N x.natAbs t (wordJ P N t xs unitJ))) := by
  unfold bracketJ sumJ
  rw [← sumQ_mul, ← sumQ_mul, ← sumQ_add]
  refine sumQ_congr fun j hj => ?_
  rw [wordJ_append, wordJ_append, wordJ_append]
  have h1 : wordJ P N t ys (wordJ P N t [x] (wordJ P N t xs unitJ)) j = wordJ P N t ys (fun i => t ^ exJ x 0 * wordJ P N t xs unitJ i + t ^ exJ x 1 * genJ P N x.natAbs t (wordJ P N t xs unitJ) i) j :=
    wordJ_congr ys _ _ (fun i hi => stepJ_two H x _ i hi) j hj
  rw [h1, wordJ_lin _ _ ys _ _ j hj]
  grind
end
theorem sumL_one (x : Int) : sumL [x] = sgnI x := by simp [sumL]
theorem sgnI_pos {x : Int} (h : 0 < x) : sgnI x = 1 ∧ sgnI (-x) = -1 := by unfold sgnI; constructor <;> split <;> omega
theorem signJ_succ (s : Int) : signJ (s + 1) = -signJ s ∧ signJ (s + -1) = -signJ s := by unfold signJ; constructor <;> split <;> split <;> omega
theorem exJ_pos {x : Int} (h : 0 < x) : exJ x 0 = 1 ∧ exJ x 1 = -1 ∧ exJ (-x) 0 = -1 ∧ exJ (-x) 1 = 1 := by
  have h2 : ¬ 0 < -x := by omega
  unfold exJ; simp only [decide_eq_true h, decide_eq_false h2]; decide
/-- The skein relation. -/
theorem skein_ev {n N Tr : Nat} {S : List (List Nat)} {P : List Nat} (H : MJ n N S P Tr) {t : Rat} (ht : t ≠ 0) (xs ys : List Int) {x : Int} (hx : 0 < x) :
    t ^ (4 : Int) * jonesV P N Tr t (xs ++ [x] ++ ys) - t ^ (-4 : Int) * jonesV P N Tr t (xs ++ [-x] ++ ys) = t ^ (-2 : Int) * (1 - t ^ (4 : Int)) * jonesV P N Tr t (xs ++ ys) := by
  obtain ⟨g1, g2⟩ := sgnI_pos hx
  obtain ⟨e1, e2, e3, e4⟩ := exJ_pos hx
  unfold jonesV
  rw [bracketJ_mid H xs ys x, bracketJ_mid H xs ys (-x), e1, e2, e3, e4, Int.natAbs_neg]
  have s1 : sumL (xs ++ [x] ++ ys) = sumL (xs ++ ys) + 1 := by rw [sumL_append, sumL_append, sumL_append, sumL_one, g1]; omega
  have s2 : sumL (xs ++ [-x] ++ ys) = sumL (xs ++ ys) + -1 := by rw [sumL_append, sumL_append, sumL_append, sumL_one, g2]; omega
  rw [s1, s2, (signJ_succ _).1, (signJ_succ _).2]
  generalize sumL (xs ++ ys) = s
  generalize bracketJ P N Tr t (xs ++ ys) = b
  generalize sumJ N Tr t (wordJ P N t ys (genJ P N x.natAbs t (wordJ P N t xs unitJ))) = c
  rw [show -3 * (s + 1) = -3 * s + -3 by omega, show -3 * (s + -1) = -3 * s + 3 by omega, Rat.zpow_add ht, Rat.zpow_add ht]
  generalize t ^ (-3 * s) = u
  have h0 : t * t⁻¹ = 1 := Rat.mul_inv_cancel _ ht
  have z4 : t ^ (4 : Int) = t * t * t * t := by
    have : (4 : Int) = ((4 : Nat) : Int) := rfl
    rw [this, Rat.zpow_natCast]; grind
  have z3 : t ^ (3 : Int) = t * t * t := by
    have : (3 : Int) = ((3 : Nat) : Int) := rfl
    rw [this, Rat.zpow_natCast]; grind
  have p1 : t ^ (1 : Int) = t := by
    have h := Rat.zpow_natCast t 1
    rw [Rat.pow_one] at h
    exact h
  have m1 : t ^ (-1 : Int) = t⁻¹ := by rw [Rat.zpow_neg, p1]
  have m2 : t ^ (-2 : Int) = t⁻¹ * t⁻¹ := by rw [show (-2 : Int) = -1 + -1 by omega, Rat.zpow_add ht, m1]
  have m3 : t ^ (-3 : Int) = t⁻¹ * t⁻¹ * t⁻¹ := by rw [show (-3 : Int) = -2 + -1 by omega, Rat.zpow_add ht, m1, m2]
  have m4 : t ^ (-4 : Int) = t⁻¹ * t⁻¹ * t⁻¹ * t⁻¹ := by rw [show (-4 : Int) = -3 + -1 by omega, Rat.zpow_add ht, m1, m3]
  rw [z4, z3, m4, m3, m2, m1, p1]
  generalize t⁻¹ = v at h0
  have e : ((-signJ s : Int) : Rat) = -(signJ s : Rat) := by simp
  rw [e]
  generalize (signJ s : Rat) = g
  grind

end Go.Proofs.Ytckopilciekfbaa

