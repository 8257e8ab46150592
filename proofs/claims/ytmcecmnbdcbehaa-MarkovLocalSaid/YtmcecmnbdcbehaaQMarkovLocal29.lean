/- markov.Undo walked. -/
import Derived.Test.YtmcecmnbdcbehaaQMarkovLocal0
import Derived.Test.YtmcecmnbdcbehaaQMarkovLocal1
import Derived.Test.YtmcecmnbdcbehaaQMarkovLocal2
import Derived.Test.YtmcecmnbdcbehaaQMarkovLocal3
import Derived.Test.YtmcecmnbdcbehaaQMarkovLocal4
import Derived.Test.YtmcecmnbdcbehaaQMarkovLocal5
import Derived.Test.YtmcecmnbdcbehaaQMarkovLocal6
import Derived.Test.YtmcecmnbdcbehaaQMarkovLocal7
import Derived.Test.YtmcecmnbdcbehaaQMarkovLocal8
import Derived.Test.YtmcecmnbdcbehaaQMarkovLocal9
import Derived.Test.YtmcecmnbdcbehaaQMarkovLocal10
import Derived.Test.YtmcecmnbdcbehaaQMarkovLocal11
import Derived.Test.YtmcecmnbdcbehaaQMarkovLocal12
import Derived.Test.YtmcecmnbdcbehaaQMarkovLocal13
import Derived.Test.YtmcecmnbdcbehaaQMarkovLocal14
import Derived.Test.YtmcecmnbdcbehaaQMarkovLocal15
import Derived.Test.YtmcecmnbdcbehaaQMarkovLocal16
import Derived.Test.YtmcecmnbdcbehaaQMarkovLocal17
import Derived.Test.YtmcecmnbdcbehaaQMarkovLocal18
import Derived.Test.YtmcecmnbdcbehaaQMarkovLocal19
import Derived.Test.YtmcecmnbdcbehaaQMarkovLocal20
import Derived.Test.YtmcecmnbdcbehaaQMarkovLocal21
import Derived.Test.YtmcecmnbdcbehaaQMarkovLocal24
import Derived.Test.YtmcecmnbdcbehaaQMarkovLocal25
import Derived.Test.YtmcecmnbdcbehaaQMarkovLocal26
import Derived.Test.YtmcecmnbdcbehaaQMarkovLocal28
import Derived.StillTailTactics
import Derived.RangeFuncNested
import Derived.RangeFuncBound
import Derived.RangeFuncCalls
import Derived.RangeFuncLeaves
import Derived.RangeFuncBox
import Derived.Shelf.Abstract
import Derived.Shelf.RegionOpen
import Derived.OwnWalkIn
import Derived.TacticsInMore
import Derived.LoopNIn
import Derived.LoopIn
import Derived.Maps.AppendAt
import Derived.OrdersIn
import Derived.OrdersHeld
import Derived.Deep.RegionHeld
namespace Go.Proofs.Ytmcecmnbdcbehaa
open Go.RowKit Go.Sl Go.Maps

/-- What Undo needs of Apply: no error. -/
def AppliesTo (n : Int) (v : Value) (xs : List Int) (k j l : Int) : Prop :=
  ∀ W, Ints W v xs → ∃ (a : Int) (ys : List Int), Calls Try.prog 39 #[.int .i64 n, v, .agg #[.int .i64 k, .int .i64 j, .int .i64 l]] W fun e w' => ∃ u, e = .returned (.tuple #[.int .i64 a, u, .int .i64 0]) ∧ OwnI w' W.heap.size u ys ∧ Below W.heap.size W w'
theorem tdiv_abs (x : Int) (h : x ≠ 0) : x.tdiv (x.natAbs : Int) = if 0 < x then 1 else -1 := by
  rcases Int.lt_or_gt_of_ne h with h1 | h1
  · have : x = -(x.natAbs : Int) := by omega
    rw [if_neg (by omega)]
    generalize (x.natAbs : Int) = y at this ⊢
    subst this
    rw [Int.neg_tdiv, Int.tdiv_self (by omega)]
  · have : x = (x.natAbs : Int) := by omega
    rw [if_pos h1]
    generalize (x.natAbs : Int) = y at this ⊢
    subst this
    rw [Int.tdiv_self (by omega)]

set_option maxRecDepth 100000 in
set_option maxHeartbeats 4000000 in
theorem undo1_calls (n : Int) (v : Value) (xs : List Int) (j : Nat) (l : Int) (w : World) (hv : Ints w v xs) (hl : xs.length ≤ 1000) (HAP : AppliesTo n v xs 1 j l) :
    Calls Try.prog 41 #[.int .i64 n, v, .agg #[.int .i64 1, .int .i64 j, .int .i64 l]] w fun e w' => e = .returned (.tuple #[.agg #[.int .i64 2, .int .i64 j, .int .i64 0], .int .i64 0]) ∧ Below w.heap.size w w' := by
  have sv := hv.isSl
  have lv := hv.len
  obtain ⟨W1, hW1⟩ : ∃ W1, W1 = (w.alloc (.cells #[.int .i64 1, .int .i64 j, .int .i64 l] 57)).alloc (.cells #[.int .i64 0, .int .i64 0, .int .i64 0] 57) := ⟨_, rfl⟩
  have hb1 : Below w.heap.size w W1 := by rw [hW1]; exact ((Below.refl _ _).alloc (Nat.le_refl _) _).alloc (by simp) _
  have hs1 : w.heap.size + 1 < W1.heap.size := by rw [hW1]; simp
  have hv1 := hv.below hb1
  obtain ⟨a, ys, HC⟩ := HAP W1 hv1
  have p0 : W1.cell? ⟨w.heap.size, 0, none⟩ = some (.int .i64 1) := by rw [hW1]; simp [go_sem]
  have p1 : W1.cell? ⟨w.heap.size, 1, none⟩ = some (.int .i64 j) := by rw [hW1]; simp [go_sem]
  have p2 : W1.cell? ⟨w.heap.size, 2, none⟩ = some (.int .i64 l) := by rw [hW1]; simp [go_sem]
  have q0 : W1.cell? ⟨w.heap.size + 1, 0, none⟩ = some (.int .i64 0) := by rw [hW1]; simp [go_sem]
  have q1 : W1.cell? ⟨w.heap.size + 1, 1, none⟩ = some (.int .i64 0) := by rw [hW1]; simp [go_sem]
  have q2 : W1.cell? ⟨w.heap.size + 1, 2, none⟩ = some (.int .i64 0) := by rw [hW1]; simp [go_sem]
  have f0 : W1.frozen? ⟨w.heap.size + 1, 0, none⟩ = false := by rw [hW1]; simp [go_sem]
  have f1 : W1.frozen? ⟨w.heap.size + 1, 1, none⟩ = false := by rw [hW1]; simp [go_sem]
  have f2 : W1.frozen? ⟨w.heap.size + 1, 2, none⟩ = false := by rw [hW1]; simp [go_sem]
  have HC1 := Lib.hid HC; have HW := Lib.hid hW1.symm; have HB1 := Lib.hid hb1; have HV := Lib.hid hv1
  have P0 := Lib.hid p0; have P1 := Lib.hid p1; have P2 := Lib.hid p2; have Q0 := Lib.hid q0; have Q1 := Lib.hid q1; have Q2 := Lib.hid q2; have F0 := Lib.hid f0; have F1 := Lib.hid f1; have F2 := Lib.hid f2
  clear HC hW1 hb1 HAP hv hv1 p0 p1 p2 q0 q1 q2 f0 f1 f2
  go_enter Try.func41, Try.ntmps41
  go_wp2_with fail
  rw [HW.out]
  refine HC1.out.mono ?_
  rintro e w2 ⟨u, rfl, hu, hb2⟩
  have su := hu.isSl
  have c0 := (hb2.cell (p := ⟨w.heap.size, 0, none⟩) (by simp only; omega)).trans P0.out
  have c1 := (hb2.cell (p := ⟨w.heap.size, 1, none⟩) (by simp only; omega)).trans P1.out
  have c2 := (hb2.cell (p := ⟨w.heap.size, 2, none⟩) (by simp only; omega)).trans P2.out
  have d0 := (hb2.cell (p := ⟨w.heap.size + 1, 0, none⟩) (by simp only; omega)).trans Q0.out
  have d1 := (hb2.cell (p := ⟨w.heap.size + 1, 1, none⟩) (by simp only; omega)).trans Q1.out
  have d2 := (hb2.cell (p := ⟨w.heap.size + 1, 2, none⟩) (by simp only; omega)).trans Q2.out
  have hf : w2.frozen? ⟨w.heap.size + 1, 0, none⟩ = false := (hb2.frozen (p := ⟨w.heap.size + 1, 0, none⟩) hs1).trans F0.out
  have hf1 : w2.frozen? ⟨w.heap.size + 1, 1, none⟩ = false := (hb2.frozen (p := ⟨w.heap.size + 1, 1, none⟩) hs1).trans F1.out
  have hf2 : w2.frozen? ⟨w.heap.size + 1, 2, none⟩ = false := (hb2.frozen (p := ⟨w.heap.size + 1, 2, none⟩) hs1).trans F2.out
  have HB2 := Lib.hid (Below.chain HB1.out hb2)
  have hv2 := HV.out.below hb2
  clear hu hb2 hv2
  go_wp2_with fail
  refine bodyPost_ret (v := .tuple #[.agg #[.int .i64 2, .int .i64 j, .int .i64 0], .int .i64 0]) (by simp [results, Try.results41, go_sem, d0, d1, d2]) rfl ⟨rfl, ?_⟩
  exact ((HB2.out.setCell (p := ⟨w.heap.size + 1, 0, none⟩) (by simp) _).setCell (p := ⟨w.heap.size + 1, 1, none⟩) (by simp) _).setCell (p := ⟨w.heap.size + 1, 2, none⟩) (by simp) _

set_option maxRecDepth 100000 in
set_option maxHeartbeats 4000000 in
theorem undo2_calls (n : Int) (v : Value) (xs : List Int) (j : Nat) (l : Int) (w : World) (hv : Ints w v xs) (hl : xs.length ≤ 1000) (hj : j < xs.length) (HAP : AppliesTo n v xs 2 j l) :
    Calls Try.prog 41 #[.int .i64 n, v, .agg #[.int .i64 2, .int .i64 j, .int .i64 l]] w fun e w' => e = .returned (.tuple #[.agg #[.int .i64 1, .int .i64 j, .int .i64 (nth xs j)], .int .i64 0]) ∧ Below w.heap.size w w' := by
  have sv := hv.isSl
  have lv := hv.len
  obtain ⟨W1, hW1⟩ : ∃ W1, W1 = (w.alloc (.cells #[.int .i64 2, .int .i64 j, .int .i64 l] 57)).alloc (.cells #[.int .i64 0, .int .i64 0, .int .i64 0] 57) := ⟨_, rfl⟩
  have hb1 : Below w.heap.size w W1 := by rw [hW1]; exact ((Below.refl _ _).alloc (Nat.le_refl _) _).alloc (by simp) _
  have hs1 : w.heap.size + 1 < W1.heap.size := by rw [hW1]; simp
  have hv1 := hv.below hb1
  obtain ⟨a, ys, HC⟩ := HAP W1 hv1
  have p0 : W1.cell? ⟨w.heap.size, 0, none⟩ = some (.int .i64 2) := by rw [hW1]; simp [go_sem]
  have p1 : W1.cell? ⟨w.heap.size, 1, none⟩ = some (.int .i64 j) := by rw [hW1]; simp [go_sem]
  have p2 : W1.cell? ⟨w.heap.size, 2, none⟩ = some (.int .i64 l) := by rw [hW1]; simp [go_sem]
  have q0 : W1.cell? ⟨w.heap.size + 1, 0, none⟩ = some (.int .i64 0) := by rw [hW1]; simp [go_sem]
  have q1 : W1.cell? ⟨w.heap.size + 1, 1, none⟩ = some (.int .i64 0) := by rw [hW1]; simp [go_sem]
  have q2 : W1.cell? ⟨w.heap.size + 1, 2, none⟩ = some (.int .i64 0) := by rw [hW1]; simp [go_sem]
  have f0 : W1.frozen? ⟨w.heap.size + 1, 0, none⟩ = false := by rw [hW1]; simp [go_sem]
  have f1 : W1.frozen? ⟨w.heap.size + 1, 1, none⟩ = false := by rw [hW1]; simp [go_sem]
  have f2 : W1.frozen? ⟨w.heap.size + 1, 2, none⟩ = false := by rw [hW1]; simp [go_sem]
  have HC1 := Lib.hid HC; have HW := Lib.hid hW1.symm; have HB1 := Lib.hid hb1; have HV := Lib.hid hv1
  have P0 := Lib.hid p0; have P1 := Lib.hid p1; have P2 := Lib.hid p2; have Q0 := Lib.hid q0; have Q1 := Lib.hid q1; have Q2 := Lib.hid q2; have F0 := Lib.hid f0; have F1 := Lib.hid f1; have F2 := Lib.hid f2
  clear HC hW1 hb1 HAP hv hv1 p0 p1 p2 q0 q1 q2 f0 f1 f2
  go_enter Try.func41, Try.ntmps41
  go_wp2_with fail
  rw [HW.out]
  refine HC1.out.mono ?_
  rintro e w2 ⟨u, rfl, hu, hb2⟩
  have su := hu.isSl
  have c0 := (hb2.cell (p := ⟨w.heap.size, 0, none⟩) (by simp only; omega)).trans P0.out
  have c1 := (hb2.cell (p := ⟨w.heap.size, 1, none⟩) (by simp only; omega)).trans P1.out
  have c2 := (hb2.cell (p := ⟨w.heap.size, 2, none⟩) (by simp only; omega)).trans P2.out
  have d0 := (hb2.cell (p := ⟨w.heap.size + 1, 0, none⟩) (by simp only; omega)).trans Q0.out
  have d1 := (hb2.cell (p := ⟨w.heap.size + 1, 1, none⟩) (by simp only; omega)).trans Q1.out
  have d2 := (hb2.cell (p := ⟨w.heap.size + 1, 2, none⟩) (by simp only; omega)).trans Q2.out
  have hf : w2.frozen? ⟨w.heap.size + 1, 0, none⟩ = false := (hb2.frozen (p := ⟨w.heap.size + 1, 0, none⟩) hs1).trans F0.out
  have hf1 : w2.frozen? ⟨w.heap.size + 1, 1, none⟩ = false := (hb2.frozen (p := ⟨w.heap.size + 1, 1, none⟩) hs1).trans F1.out
  have hf2 : w2.frozen? ⟨w.heap.size + 1, 2, none⟩ = false := (hb2.frozen (p := ⟨w.heap.size + 1, 2, none⟩) hs1).trans F2.out
  have HB2 := Lib.hid (Below.chain HB1.out hb2)
  have hv2 := HV.out.below hb2
  have cx := hv2.cell hj
  clear hu hb2 hv2
  go_wp2_with fail
  go_still_tail 8, (by kernel_rfl)
  go_wp2_with fail
  refine bodyPost_ret (v := .tuple #[.agg #[.int .i64 1, .int .i64 j, .int .i64 (nth xs j)], .int .i64 0]) (by simp [results, Try.results41, go_sem, d0, d1, d2]) rfl ⟨rfl, ?_⟩
  exact ((HB2.out.drew.setCell (p := ⟨w.heap.size + 1, 0, none⟩) (by simp) _).setCell (p := ⟨w.heap.size + 1, 1, none⟩) (by simp) _).setCell (p := ⟨w.heap.size + 1, 2, none⟩) (by simp) _

set_option maxRecDepth 100000 in
set_option maxHeartbeats 4000000 in
theorem undo3_calls (n : Int) (v : Value) (xs : List Int) (j : Nat) (l : Int) (w : World) (hv : Ints w v xs) (hl : xs.length ≤ 1000) (HAP : AppliesTo n v xs 3 j l) :
    Calls Try.prog 41 #[.int .i64 n, v, .agg #[.int .i64 3, .int .i64 j, .int .i64 l]] w fun e w' => e = .returned (.tuple #[.agg #[.int .i64 3, .int .i64 j, .int .i64 0], .int .i64 0]) ∧ Below w.heap.size w w' := by
  have sv := hv.isSl
  have lv := hv.len
  obtain ⟨W1, hW1⟩ : ∃ W1, W1 = (w.alloc (.cells #[.int .i64 3, .int .i64 j, .int .i64 l] 57)).alloc (.cells #[.int .i64 0, .int .i64 0, .int .i64 0] 57) := ⟨_, rfl⟩
  have hb1 : Below w.heap.size w W1 := by rw [hW1]; exact ((Below.refl _ _).alloc (Nat.le_refl _) _).alloc (by simp) _
  have hs1 : w.heap.size + 1 < W1.heap.size := by rw [hW1]; simp
  have hv1 := hv.below hb1
  obtain ⟨a, ys, HC⟩ := HAP W1 hv1
  have p0 : W1.cell? ⟨w.heap.size, 0, none⟩ = some (.int .i64 3) := by rw [hW1]; simp [go_sem]
  have p1 : W1.cell? ⟨w.heap.size, 1, none⟩ = some (.int .i64 j) := by rw [hW1]; simp [go_sem]
  have p2 : W1.cell? ⟨w.heap.size, 2, none⟩ = some (.int .i64 l) := by rw [hW1]; simp [go_sem]
  have q0 : W1.cell? ⟨w.heap.size + 1, 0, none⟩ = some (.int .i64 0) := by rw [hW1]; simp [go_sem]
  have q1 : W1.cell? ⟨w.heap.size + 1, 1, none⟩ = some (.int .i64 0) := by rw [hW1]; simp [go_sem]
  have q2 : W1.cell? ⟨w.heap.size + 1, 2, none⟩ = some (.int .i64 0) := by rw [hW1]; simp [go_sem]
  have f0 : W1.frozen? ⟨w.heap.size + 1, 0, none⟩ = false := by rw [hW1]; simp [go_sem]
  have f1 : W1.frozen? ⟨w.heap.size + 1, 1, none⟩ = false := by rw [hW1]; simp [go_sem]
  have f2 : W1.frozen? ⟨w.heap.size + 1, 2, none⟩ = false := by rw [hW1]; simp [go_sem]
  have HC1 := Lib.hid HC; have HW := Lib.hid hW1.symm; have HB1 := Lib.hid hb1; have HV := Lib.hid hv1
  have P0 := Lib.hid p0; have P1 := Lib.hid p1; have P2 := Lib.hid p2; have Q0 := Lib.hid q0; have Q1 := Lib.hid q1; have Q2 := Lib.hid q2; have F0 := Lib.hid f0; have F1 := Lib.hid f1; have F2 := Lib.hid f2
  clear HC hW1 hb1 HAP hv hv1 p0 p1 p2 q0 q1 q2 f0 f1 f2
  go_enter Try.func41, Try.ntmps41
  go_wp2_with fail
  rw [HW.out]
  refine HC1.out.mono ?_
  rintro e w2 ⟨u, rfl, hu, hb2⟩
  have su := hu.isSl
  have c0 := (hb2.cell (p := ⟨w.heap.size, 0, none⟩) (by simp only; omega)).trans P0.out
  have c1 := (hb2.cell (p := ⟨w.heap.size, 1, none⟩) (by simp only; omega)).trans P1.out
  have c2 := (hb2.cell (p := ⟨w.heap.size, 2, none⟩) (by simp only; omega)).trans P2.out
  have d0 := (hb2.cell (p := ⟨w.heap.size + 1, 0, none⟩) (by simp only; omega)).trans Q0.out
  have d1 := (hb2.cell (p := ⟨w.heap.size + 1, 1, none⟩) (by simp only; omega)).trans Q1.out
  have d2 := (hb2.cell (p := ⟨w.heap.size + 1, 2, none⟩) (by simp only; omega)).trans Q2.out
  have hf : w2.frozen? ⟨w.heap.size + 1, 0, none⟩ = false := (hb2.frozen (p := ⟨w.heap.size + 1, 0, none⟩) hs1).trans F0.out
  have hf1 : w2.frozen? ⟨w.heap.size + 1, 1, none⟩ = false := (hb2.frozen (p := ⟨w.heap.size + 1, 1, none⟩) hs1).trans F1.out
  have hf2 : w2.frozen? ⟨w.heap.size + 1, 2, none⟩ = false := (hb2.frozen (p := ⟨w.heap.size + 1, 2, none⟩) hs1).trans F2.out
  have HB2 := Lib.hid (Below.chain HB1.out hb2)
  have hv2 := HV.out.below hb2
  clear hu hb2 hv2
  go_wp2_with fail
  refine bodyPost_ret (v := .tuple #[.agg #[.int .i64 3, .int .i64 j, .int .i64 0], .int .i64 0]) (by simp [results, Try.results41, go_sem, d0, d1, d2]) rfl ⟨rfl, ?_⟩
  exact ((HB2.out.setCell (p := ⟨w.heap.size + 1, 0, none⟩) (by simp) _).setCell (p := ⟨w.heap.size + 1, 1, none⟩) (by simp) _).setCell (p := ⟨w.heap.size + 1, 2, none⟩) (by simp) _

set_option maxRecDepth 100000 in
set_option maxHeartbeats 4000000 in
theorem undo4_calls (n : Int) (v : Value) (xs : List Int) (j : Nat) (l : Int) (w : World) (hv : Ints w v xs) (hl : xs.length ≤ 1000) (HAP : AppliesTo n v xs 4 j l) :
    Calls Try.prog 41 #[.int .i64 n, v, .agg #[.int .i64 4, .int .i64 j, .int .i64 l]] w fun e w' => e = .returned (.tuple #[.agg #[.int .i64 4, .int .i64 j, .int .i64 0], .int .i64 0]) ∧ Below w.heap.size w w' := by
  have sv := hv.isSl
  have lv := hv.len
  obtain ⟨W1, hW1⟩ : ∃ W1, W1 = (w.alloc (.cells #[.int .i64 4, .int .i64 j, .int .i64 l] 57)).alloc (.cells #[.int .i64 0, .int .i64 0, .int .i64 0] 57) := ⟨_, rfl⟩
  have hb1 : Below w.heap.size w W1 := by rw [hW1]; exact ((Below.refl _ _).alloc (Nat.le_refl _) _).alloc (by simp) _
  have hs1 : w.heap.size + 1 < W1.heap.size := by rw [hW1]; simp
  have hv1 := hv.below hb1
  obtain ⟨a, ys, HC⟩ := HAP W1 hv1
  have p0 : W1.cell? ⟨w.heap.size, 0, none⟩ = some (.int .i64 4) := by rw [hW1]; simp [go_sem]
  have p1 : W1.cell? ⟨w.heap.size, 1, none⟩ = some (.int .i64 j) := by rw [hW1]; simp [go_sem]
  have p2 : W1.cell? ⟨w.heap.size, 2, none⟩ = some (.int .i64 l) := by rw [hW1]; simp [go_sem]
  have q0 : W1.cell? ⟨w.heap.size + 1, 0, none⟩ = some (.int .i64 0) := by rw [hW1]; simp [go_sem]
  have q1 : W1.cell? ⟨w.heap.size + 1, 1, none⟩ = some (.int .i64 0) := by rw [hW1]; simp [go_sem]
  have q2 : W1.cell? ⟨w.heap.size + 1, 2, none⟩ = some (.int .i64 0) := by rw [hW1]; simp [go_sem]
  have f0 : W1.frozen? ⟨w.heap.size + 1, 0, none⟩ = false := by rw [hW1]; simp [go_sem]
  have f1 : W1.frozen? ⟨w.heap.size + 1, 1, none⟩ = false := by rw [hW1]; simp [go_sem]
  have f2 : W1.frozen? ⟨w.heap.size + 1, 2, none⟩ = false := by rw [hW1]; simp [go_sem]
  have HC1 := Lib.hid HC; have HW := Lib.hid hW1.symm; have HB1 := Lib.hid hb1; have HV := Lib.hid hv1
  have P0 := Lib.hid p0; have P1 := Lib.hid p1; have P2 := Lib.hid p2; have Q0 := Lib.hid q0; have Q1 := Lib.hid q1; have Q2 := Lib.hid q2; have F0 := Lib.hid f0; have F1 := Lib.hid f1; have F2 := Lib.hid f2
  clear HC hW1 hb1 HAP hv hv1 p0 p1 p2 q0 q1 q2 f0 f1 f2
  go_enter Try.func41, Try.ntmps41
  go_wp2_with fail
  rw [HW.out]
  refine HC1.out.mono ?_
  rintro e w2 ⟨u, rfl, hu, hb2⟩
  have su := hu.isSl
  have c0 := (hb2.cell (p := ⟨w.heap.size, 0, none⟩) (by simp only; omega)).trans P0.out
  have c1 := (hb2.cell (p := ⟨w.heap.size, 1, none⟩) (by simp only; omega)).trans P1.out
  have c2 := (hb2.cell (p := ⟨w.heap.size, 2, none⟩) (by simp only; omega)).trans P2.out
  have d0 := (hb2.cell (p := ⟨w.heap.size + 1, 0, none⟩) (by simp only; omega)).trans Q0.out
  have d1 := (hb2.cell (p := ⟨w.heap.size + 1, 1, none⟩) (by simp only; omega)).trans Q1.out
  have d2 := (hb2.cell (p := ⟨w.heap.size + 1, 2, none⟩) (by simp only; omega)).trans Q2.out
  have hf : w2.frozen? ⟨w.heap.size + 1, 0, none⟩ = false := (hb2.frozen (p := ⟨w.heap.size + 1, 0, none⟩) hs1).trans F0.out
  have hf1 : w2.frozen? ⟨w.heap.size + 1, 1, none⟩ = false := (hb2.frozen (p := ⟨w.heap.size + 1, 1, none⟩) hs1).trans F1.out
  have hf2 : w2.frozen? ⟨w.heap.size + 1, 2, none⟩ = false := (hb2.frozen (p := ⟨w.heap.size + 1, 2, none⟩) hs1).trans F2.out
  have HB2 := Lib.hid (Below.chain HB1.out hb2)
  have hv2 := HV.out.below hb2
  clear hu hb2 hv2
  go_wp2_with fail
  refine bodyPost_ret (v := .tuple #[.agg #[.int .i64 4, .int .i64 j, .int .i64 0], .int .i64 0]) (by simp [results, Try.results41, go_sem, d0, d1, d2]) rfl ⟨rfl, ?_⟩
  exact ((HB2.out.setCell (p := ⟨w.heap.size + 1, 0, none⟩) (by simp) _).setCell (p := ⟨w.heap.size + 1, 1, none⟩) (by simp) _).setCell (p := ⟨w.heap.size + 1, 2, none⟩) (by simp) _

set_option maxRecDepth 100000 in
set_option maxHeartbeats 4000000 in
theorem undo5_calls (n : Int) (v : Value) (xs : List Int) (j : Nat) (l : Int) (w : World) (hv : Ints w v xs) (hl : xs.length ≤ 1000) (HAP : AppliesTo n v xs 5 j l) :
    Calls Try.prog 41 #[.int .i64 n, v, .agg #[.int .i64 5, .int .i64 j, .int .i64 l]] w fun e w' => e = .returned (.tuple #[.agg #[.int .i64 0, .int .i64 0, .int .i64 0], .int .i64 4]) ∧ Below w.heap.size w w' := by
  have sv := hv.isSl
  have lv := hv.len
  obtain ⟨W1, hW1⟩ : ∃ W1, W1 = (w.alloc (.cells #[.int .i64 5, .int .i64 j, .int .i64 l] 57)).alloc (.cells #[.int .i64 0, .int .i64 0, .int .i64 0] 57) := ⟨_, rfl⟩
  have hb1 : Below w.heap.size w W1 := by rw [hW1]; exact ((Below.refl _ _).alloc (Nat.le_refl _) _).alloc (by simp) _
  have hs1 : w.heap.size + 1 < W1.heap.size := by rw [hW1]; simp
  have hv1 := hv.below hb1
  obtain ⟨a, ys, HC⟩ := HAP W1 hv1
  have p0 : W1.cell? ⟨w.heap.size, 0, none⟩ = some (.int .i64 5) := by rw [hW1]; simp [go_sem]
  have p1 : W1.cell? ⟨w.heap.size, 1, none⟩ = some (.int .i64 j) := by rw [hW1]; simp [go_sem]
  have p2 : W1.cell? ⟨w.heap.size, 2, none⟩ = some (.int .i64 l) := by rw [hW1]; simp [go_sem]
  have q0 : W1.cell? ⟨w.heap.size + 1, 0, none⟩ = some (.int .i64 0) := by rw [hW1]; simp [go_sem]
  have q1 : W1.cell? ⟨w.heap.size + 1, 1, none⟩ = some (.int .i64 0) := by rw [hW1]; simp [go_sem]
  have q2 : W1.cell? ⟨w.heap.size + 1, 2, none⟩ = some (.int .i64 0) := by rw [hW1]; simp [go_sem]
  have f0 : W1.frozen? ⟨w.heap.size + 1, 0, none⟩ = false := by rw [hW1]; simp [go_sem]
  have f1 : W1.frozen? ⟨w.heap.size + 1, 1, none⟩ = false := by rw [hW1]; simp [go_sem]
  have f2 : W1.frozen? ⟨w.heap.size + 1, 2, none⟩ = false := by rw [hW1]; simp [go_sem]
  have HC1 := Lib.hid HC; have HW := Lib.hid hW1.symm; have HB1 := Lib.hid hb1; have HV := Lib.hid hv1
  have P0 := Lib.hid p0; have P1 := Lib.hid p1; have P2 := Lib.hid p2; have Q0 := Lib.hid q0; have Q1 := Lib.hid q1; have Q2 := Lib.hid q2; have F0 := Lib.hid f0; have F1 := Lib.hid f1; have F2 := Lib.hid f2
  clear HC hW1 hb1 HAP hv hv1 p0 p1 p2 q0 q1 q2 f0 f1 f2
  go_enter Try.func41, Try.ntmps41
  go_wp2_with fail
  rw [HW.out]
  refine HC1.out.mono ?_
  rintro e w2 ⟨u, rfl, hu, hb2⟩
  have su := hu.isSl
  have c0 := (hb2.cell (p := ⟨w.heap.size, 0, none⟩) (by simp only; omega)).trans P0.out
  have c1 := (hb2.cell (p := ⟨w.heap.size, 1, none⟩) (by simp only; omega)).trans P1.out
  have c2 := (hb2.cell (p := ⟨w.heap.size, 2, none⟩) (by simp only; omega)).trans P2.out
  have d0 := (hb2.cell (p := ⟨w.heap.size + 1, 0, none⟩) (by simp only; omega)).trans Q0.out
  have d1 := (hb2.cell (p := ⟨w.heap.size + 1, 1, none⟩) (by simp only; omega)).trans Q1.out
  have d2 := (hb2.cell (p := ⟨w.heap.size + 1, 2, none⟩) (by simp only; omega)).trans Q2.out
  have hf : w2.frozen? ⟨w.heap.size + 1, 0, none⟩ = false := (hb2.frozen (p := ⟨w.heap.size + 1, 0, none⟩) hs1).trans F0.out
  have hf1 : w2.frozen? ⟨w.heap.size + 1, 1, none⟩ = false := (hb2.frozen (p := ⟨w.heap.size + 1, 1, none⟩) hs1).trans F1.out
  have hf2 : w2.frozen? ⟨w.heap.size + 1, 2, none⟩ = false := (hb2.frozen (p := ⟨w.heap.size + 1, 2, none⟩) hs1).trans F2.out
  have HB2 := Lib.hid (Below.chain HB1.out hb2)
  have hv2 := HV.out.below hb2
  clear hu hb2 hv2
  go_wp2_with fail
  refine bodyPost_ret (v := .tuple #[.agg #[.int .i64 0, .int .i64 0, .int .i64 0], .int .i64 4]) (by simp [results, Try.results41, go_sem, d0, d1, d2]) rfl ⟨rfl, ?_⟩
  exact ((HB2.out.setCell (p := ⟨w.heap.size + 1, 0, none⟩) (by simp) _).setCell (p := ⟨w.heap.size + 1, 1, none⟩) (by simp) _).setCell (p := ⟨w.heap.size + 1, 2, none⟩) (by simp) _

set_option maxRecDepth 100000 in
set_option maxHeartbeats 4000000 in
theorem undo6_calls (n : Int) (v : Value) (xs : List Int) (j : Nat) (l : Int) (w : World) (hv : Ints w v xs) (hl : xs.length ≤ 1000) (HAP : AppliesTo n v xs 6 j l) :
    Calls Try.prog 41 #[.int .i64 n, v, .agg #[.int .i64 6, .int .i64 j, .int .i64 l]] w fun e w' => e = .returned (.tuple #[.agg #[.int .i64 7, .int .i64 0, .int .i64 0], .int .i64 0]) ∧ Below w.heap.size w w' := by
  have sv := hv.isSl
  have lv := hv.len
  obtain ⟨W1, hW1⟩ : ∃ W1, W1 = (w.alloc (.cells #[.int .i64 6, .int .i64 j, .int .i64 l] 57)).alloc (.cells #[.int .i64 0, .int .i64 0, .int .i64 0] 57) := ⟨_, rfl⟩
  have hb1 : Below w.heap.size w W1 := by rw [hW1]; exact ((Below.refl _ _).alloc (Nat.le_refl _) _).alloc (by simp) _
  have hs1 : w.heap.size + 1 < W1.heap.size := by rw [hW1]; simp
  have hv1 := hv.below hb1
  obtain ⟨a, ys, HC⟩ := HAP W1 hv1
  have p0 : W1.cell? ⟨w.heap.size, 0, none⟩ = some (.int .i64 6) := by rw [hW1]; simp [go_sem]
  have p1 : W1.cell? ⟨w.heap.size, 1, none⟩ = some (.int .i64 j) := by rw [hW1]; simp [go_sem]
  have p2 : W1.cell? ⟨w.heap.size, 2, none⟩ = some (.int .i64 l) := by rw [hW1]; simp [go_sem]
  have q0 : W1.cell? ⟨w.heap.size + 1, 0, none⟩ = some (.int .i64 0) := by rw [hW1]; simp [go_sem]
  have q1 : W1.cell? ⟨w.heap.size + 1, 1, none⟩ = some (.int .i64 0) := by rw [hW1]; simp [go_sem]
  have q2 : W1.cell? ⟨w.heap.size + 1, 2, none⟩ = some (.int .i64 0) := by rw [hW1]; simp [go_sem]
  have f0 : W1.frozen? ⟨w.heap.size + 1, 0, none⟩ = false := by rw [hW1]; simp [go_sem]
  have f1 : W1.frozen? ⟨w.heap.size + 1, 1, none⟩ = false := by rw [hW1]; simp [go_sem]
  have f2 : W1.frozen? ⟨w.heap.size + 1, 2, none⟩ = false := by rw [hW1]; simp [go_sem]
  have HC1 := Lib.hid HC; have HW := Lib.hid hW1.symm; have HB1 := Lib.hid hb1; have HV := Lib.hid hv1
  have P0 := Lib.hid p0; have P1 := Lib.hid p1; have P2 := Lib.hid p2; have Q0 := Lib.hid q0; have Q1 := Lib.hid q1; have Q2 := Lib.hid q2; have F0 := Lib.hid f0; have F1 := Lib.hid f1; have F2 := Lib.hid f2
  clear HC hW1 hb1 HAP hv hv1 p0 p1 p2 q0 q1 q2 f0 f1 f2
  go_enter Try.func41, Try.ntmps41
  go_wp2_with fail
  rw [HW.out]
  refine HC1.out.mono ?_
  rintro e w2 ⟨u, rfl, hu, hb2⟩
  have su := hu.isSl
  have c0 := (hb2.cell (p := ⟨w.heap.size, 0, none⟩) (by simp only; omega)).trans P0.out
  have c1 := (hb2.cell (p := ⟨w.heap.size, 1, none⟩) (by simp only; omega)).trans P1.out
  have c2 := (hb2.cell (p := ⟨w.heap.size, 2, none⟩) (by simp only; omega)).trans P2.out
  have d0 := (hb2.cell (p := ⟨w.heap.size + 1, 0, none⟩) (by simp only; omega)).trans Q0.out
  have d1 := (hb2.cell (p := ⟨w.heap.size + 1, 1, none⟩) (by simp only; omega)).trans Q1.out
  have d2 := (hb2.cell (p := ⟨w.heap.size + 1, 2, none⟩) (by simp only; omega)).trans Q2.out
  have hf : w2.frozen? ⟨w.heap.size + 1, 0, none⟩ = false := (hb2.frozen (p := ⟨w.heap.size + 1, 0, none⟩) hs1).trans F0.out
  have hf1 : w2.frozen? ⟨w.heap.size + 1, 1, none⟩ = false := (hb2.frozen (p := ⟨w.heap.size + 1, 1, none⟩) hs1).trans F1.out
  have hf2 : w2.frozen? ⟨w.heap.size + 1, 2, none⟩ = false := (hb2.frozen (p := ⟨w.heap.size + 1, 2, none⟩) hs1).trans F2.out
  have HB2 := Lib.hid (Below.chain HB1.out hb2)
  have hv2 := HV.out.below hb2
  clear hu hb2 hv2
  go_wp2_with fail
  refine bodyPost_ret (v := .tuple #[.agg #[.int .i64 7, .int .i64 0, .int .i64 0], .int .i64 0]) (by simp [results, Try.results41, go_sem, d0, d1, d2]) rfl ⟨rfl, ?_⟩
  exact ((HB2.out.setCell (p := ⟨w.heap.size + 1, 0, none⟩) (by simp) _).setCell (p := ⟨w.heap.size + 1, 1, none⟩) (by simp) _).setCell (p := ⟨w.heap.size + 1, 2, none⟩) (by simp) _

set_option maxRecDepth 100000 in
set_option maxHeartbeats 4000000 in
theorem undo7_calls (n : Int) (v : Value) (xs : List Int) (j : Nat) (l : Int) (w : World) (hv : Ints w v xs) (hl : xs.length ≤ 1000) (h0 : 0 < xs.length) (x : Int) (hxx : nth xs (xs.length - 1) = x) (hx1 : -1000 ≤ x) (hx2 : x ≤ 1000) (hx0 : x ≠ 0) (HAP : AppliesTo n v xs 7 j l) :
    Calls Try.prog 41 #[.int .i64 n, v, .agg #[.int .i64 7, .int .i64 j, .int .i64 l]] w fun e w' => e = .returned (.tuple #[.agg #[.int .i64 6, .int .i64 0, .int .i64 (if 0 < x then 1 else -1)], .int .i64 0]) ∧ Below w.heap.size w w' := by
  have sv := hv.isSl
  have lv := hv.len
  obtain ⟨W1, hW1⟩ : ∃ W1, W1 = (w.alloc (.cells #[.int .i64 7, .int .i64 j, .int .i64 l] 57)).alloc (.cells #[.int .i64 0, .int .i64 0, .int .i64 0] 57) := ⟨_, rfl⟩
  have hb1 : Below w.heap.size w W1 := by rw [hW1]; exact ((Below.refl _ _).alloc (Nat.le_refl _) _).alloc (by simp) _
  have hs1 : w.heap.size + 1 < W1.heap.size := by rw [hW1]; simp
  have hv1 := hv.below hb1
  obtain ⟨a, ys, HC⟩ := HAP W1 hv1
  have p0 : W1.cell? ⟨w.heap.size, 0, none⟩ = some (.int .i64 7) := by rw [hW1]; simp [go_sem]
  have p1 : W1.cell? ⟨w.heap.size, 1, none⟩ = some (.int .i64 j) := by rw [hW1]; simp [go_sem]
  have p2 : W1.cell? ⟨w.heap.size, 2, none⟩ = some (.int .i64 l) := by rw [hW1]; simp [go_sem]
  have q0 : W1.cell? ⟨w.heap.size + 1, 0, none⟩ = some (.int .i64 0) := by rw [hW1]; simp [go_sem]
  have q1 : W1.cell? ⟨w.heap.size + 1, 1, none⟩ = some (.int .i64 0) := by rw [hW1]; simp [go_sem]
  have q2 : W1.cell? ⟨w.heap.size + 1, 2, none⟩ = some (.int .i64 0) := by rw [hW1]; simp [go_sem]
  have f0 : W1.frozen? ⟨w.heap.size + 1, 0, none⟩ = false := by rw [hW1]; simp [go_sem]
  have f1 : W1.frozen? ⟨w.heap.size + 1, 1, none⟩ = false := by rw [hW1]; simp [go_sem]
  have f2 : W1.frozen? ⟨w.heap.size + 1, 2, none⟩ = false := by rw [hW1]; simp [go_sem]
  have HC1 := Lib.hid HC; have HW := Lib.hid hW1.symm; have HB1 := Lib.hid hb1; have HV := Lib.hid hv1
  have P0 := Lib.hid p0; have P1 := Lib.hid p1; have P2 := Lib.hid p2; have Q0 := Lib.hid q0; have Q1 := Lib.hid q1; have Q2 := Lib.hid q2; have F0 := Lib.hid f0; have F1 := Lib.hid f1; have F2 := Lib.hid f2
  clear HC hW1 hb1 HAP hv hv1 p0 p1 p2 q0 q1 q2 f0 f1 f2
  have HI := Lib.hid (fun w => bindex_calls x w hx1 hx2)
  have hq := tdiv_abs x hx0
  have hwl : IntKind.i64.wrap ((xs.length : Int) - 1) = (xs.length : Int) - 1 := IntWalk.i64_in _ ⟨by omega, by omega⟩
  obtain ⟨X, hX⟩ : ∃ X : Int, (x.natAbs : Int) = X := ⟨_, rfl⟩
  rw [hX] at HI hq
  have hX0 : X ≠ 0 := by omega
  obtain ⟨S, hS⟩ : ∃ S : Int, (if 0 < x then 1 else -1) = S := ⟨_, rfl⟩
  have hS1 : -1 ≤ S ∧ S ≤ 1 := by rw [← hS]; split <;> omega
  rw [hS] at hq ⊢
  have hws : IntKind.i64.wrap (x.tdiv X) = S := by rw [hq]; exact IntWalk.i64_in _ ⟨by omega, by omega⟩
  clear hS hX
  go_enter Try.func41, Try.ntmps41
  go_wp2_with fail
  rw [HW.out]
  refine HC1.out.mono ?_
  rintro e w2 ⟨u, rfl, hu, hb2⟩
  have su := hu.isSl
  have c0 := (hb2.cell (p := ⟨w.heap.size, 0, none⟩) (by simp only; omega)).trans P0.out
  have c1 := (hb2.cell (p := ⟨w.heap.size, 1, none⟩) (by simp only; omega)).trans P1.out
  have c2 := (hb2.cell (p := ⟨w.heap.size, 2, none⟩) (by simp only; omega)).trans P2.out
  have d0 := (hb2.cell (p := ⟨w.heap.size + 1, 0, none⟩) (by simp only; omega)).trans Q0.out
  have d1 := (hb2.cell (p := ⟨w.heap.size + 1, 1, none⟩) (by simp only; omega)).trans Q1.out
  have d2 := (hb2.cell (p := ⟨w.heap.size + 1, 2, none⟩) (by simp only; omega)).trans Q2.out
  have hf : w2.frozen? ⟨w.heap.size + 1, 0, none⟩ = false := (hb2.frozen (p := ⟨w.heap.size + 1, 0, none⟩) hs1).trans F0.out
  have hf1 : w2.frozen? ⟨w.heap.size + 1, 1, none⟩ = false := (hb2.frozen (p := ⟨w.heap.size + 1, 1, none⟩) hs1).trans F1.out
  have hf2 : w2.frozen? ⟨w.heap.size + 1, 2, none⟩ = false := (hb2.frozen (p := ⟨w.heap.size + 1, 2, none⟩) hs1).trans F2.out
  have HB2 := Lib.hid (Below.chain HB1.out hb2)
  have hv2 := HV.out.below hb2
  have cx := hv2.cell (k := xs.length - 1) (by omega)
  rw [hxx] at cx
  clear hu hb2 hv2
  go_wp2_with fail
  refine (HI.out _).mono ?_
  rintro e w' ⟨rfl, rfl⟩
  go_wp2_with fail
  refine bodyPost_ret (v := .tuple #[.agg #[.int .i64 6, .int .i64 0, .int .i64 S], .int .i64 0]) (by simp [results, Try.results41, go_sem, d0, d1, d2]) rfl ⟨rfl, ?_⟩
  exact ((HB2.out.setCell (p := ⟨w.heap.size + 1, 0, none⟩) (by simp) _).setCell (p := ⟨w.heap.size + 1, 1, none⟩) (by simp) _).setCell (p := ⟨w.heap.size + 1, 2, none⟩) (by simp) _

end Go.Proofs.Ytmcecmnbdcbehaa

