/- The fact jonesed, walked. -/
import Derived.Test.YtckopilciekfbaaQJonesOne0
import Derived.Test.YtckopilciekfbaaQJonesOne1
import Derived.Test.YtckopilciekfbaaQJonesOne2
import Derived.Test.YtckopilciekfbaaQJonesOne5
import Derived.Test.YtckopilciekfbaaQJonesOne6
import Derived.Test.YtckopilciekfbaaQJonesOne7
import Derived.Test.YtckopilciekfbaaQJonesOne8
import Derived.Test.YtckopilciekfbaaQJonesOne9
import Derived.Test.YtckopilciekfbaaQJonesOne10
import Derived.Test.YtckopilciekfbaaQJonesOne11
import Derived.Test.YtckopilciekfbaaQJonesOne13
import Derived.Test.YtckopilciekfbaaQJonesOne14
import Derived.Test.YtckopilciekfbaaQJonesOne15
import Derived.Test.YtckopilciekfbaaQJonesOne16
import Derived.Test.YtckopilciekfbaaQJonesOne17
import Derived.Test.YtckopilciekfbaaQJonesOne18
import Derived.Test.YtckopilciekfbaaQJonesOne19
import Derived.Test.YtckopilciekfbaaQJonesOne20
import Derived.Test.YtckopilciekfbaaQJonesOne21
import Derived.Test.YtckopilciekfbaaQJonesOne22
import Derived.Test.YtckopilciekfbaaQJonesOne23
import Derived.Test.YtckopilciekfbaaQJonesOne24
import Derived.Test.YtckopilciekfbaaQJonesOne25
import Derived.Test.YtckopilciekfbaaQJonesOne26
import Derived.Test.YtckopilciekfbaaQJonesOne27
import Derived.Test.YtckopilciekfbaaQJonesOne28
import Derived.Test.YtckopilciekfbaaQJonesOne29
import Derived.Test.YtckopilciekfbaaQJonesOne30
import Derived.Test.YtckopilciekfbaaQJonesOne31
import Derived.Test.YtckopilciekfbaaQJonesOne32
import Derived.Test.YtckopilciekfbaaQJonesOne34
import Derived.Test.YtckopilciekfbaaQJonesOne35
import Derived.Test.YtckopilciekfbaaQJonesOne36
import Derived.Test.YtckopilciekfbaaQJonesOne37
import Derived.Test.YtckopilciekfbaaQJonesOne38
import Derived.Test.YtckopilciekfbaaQJonesOne39
import Derived.Test.YtckopilciekfbaaQJonesOne40
import Derived.Test.YtckopilciekfbaaQJonesOne41
import Derived.Test.YtckopilciekfbaaQJonesOne42
import Derived.Test.YtckopilciekfbaaQJonesOne43
import Derived.RangeFuncNested
import Derived.RangeFuncBound
import Derived.RangeFuncCalls
import Derived.RangeFuncLeaves
import Derived.RangeFuncBox
import Derived.Shelf.Abstract
import Derived.Shelf.RegionOpen
import Derived.OwnWalkIn
import Derived.TacticsInMore
import Derived.LoopNIn
import Derived.LoopIn
import Derived.Maps.AppendAt
import Derived.OrdersIn
import Derived.OrdersHeld
import Derived.Deep.RegionHeld
import Derived.Deep.CutRange
import Derived.Deep.RegionLaw
namespace Go.Proofs.Ytckopilciekfbaa
open Go.RowKit Go.Sl Go.Mp Go.TL

/-- The polynomial that the function computes is the one with its values. -/
theorem jones_eq {n N : Nat} {S : List (List Nat)} {P : List Nat} {Tr : Nat} (H : MJ n N S P Tr) (h1 : 1 ≤ n) (h6 : n ≤ 6) (wv : Value) (xs : List Int) (w : World) (hw : Ints w wv xs) (hx : NWord n xs) (hl : xs.length ≤ 12) (q : LP) (hq : Trimmed q) (hv : ∀ t : Rat, t ≠ 0 → ev q t = jonesV P N Tr t xs) :
    Calls Try.prog 37 #[.int .i64 n, wv] w fun e w' => ∃ s, e = .returned (.tuple #[.agg #[.int .i64 q.low, s], .int .i64 0]) ∧ OwnI w' w.heap.size s q.c ∧ Below w.heap.size w w' := by
  refine (jones_calls H h1 h6 wv xs w hw hx hl).mono ?_
  rintro e w' ⟨p, s, rfl, hs, htr, _, _, hp, hb⟩
  obtain rfl : p = q := ev_ext htr hq fun t ht => by rw [hp t ht, hv t ht]
  exact ⟨s, rfl, hs, hb⟩
theorem jBracket_eq {n N : Nat} {S : List (List Nat)} {P : List Nat} {Tr : Nat} (H : MJ n N S P Tr) (h1 : 1 ≤ n) (h6 : n ≤ 6) (wv : Value) (xs : List Int) (w : World) (hw : Ints w wv xs) (hx : NWord n xs) (hl : xs.length ≤ 12) (q : LP) (hq : Trimmed q) (hv : ∀ t : Rat, t ≠ 0 → ev q t = bracketJ P N Tr t xs) :
    Calls Try.prog 80 #[.int .i64 n, wv] w fun e w' => ∃ s, e = .returned (.tuple #[.agg #[.int .i64 q.low, s], .int .i64 0]) ∧ OwnI w' w.heap.size s q.c ∧ Below w.heap.size w w' := by
  refine (jBracket_calls H h1 h6 wv xs w hw hx hl).mono ?_
  rintro e w' ⟨p, s, rfl, hs, htr, _, _, hp, hb⟩
  obtain rfl : p = q := ev_ext htr hq fun t ht => by rw [hp t ht, hv t ht]
  exact ⟨s, rfl, hs, hb⟩
theorem tr_lit {lo : Int} {c : List Int} (h0 : c ≠ []) (h1 : nth c 0 ≠ 0) (h2 : nth c (c.length - 1) ≠ 0) : Trimmed ⟨lo, c⟩ := ⟨fun h => absurd h h0, fun _ => h1, fun _ => h2⟩
theorem bracket_one {t : Rat} (ht : t ≠ 0) : bracketJ mP2 2 mT2 t [1] = -(t * t * t) := by
  have a00 : PT mP2 0 0 = (0, 0) := by decide +kernel
  have a01 : PT mP2 0 1 = (1, 0) := by decide +kernel
  have a10 : PT mP2 1 0 = (1, 0) := by decide +kernel
  have a11 : PT mP2 1 1 = (1, 1) := by decide +kernel
  have d0 : dg mT2 0 = 2 := by decide +kernel
  have d1 : dg mT2 1 = 1 := by decide +kernel
  have e0 : exJ 1 0 = 1 := by decide
  have e1 : exJ 1 1 = -1 := by decide
  have p1 : t ^ (1 : Int) = t := by
    have h := Rat.zpow_natCast t 1
    rw [Rat.pow_one] at h
    exact h
  have m1 : t ^ (-1 : Int) = t⁻¹ := by rw [Rat.zpow_neg, p1]
  have m2 : t ^ (-2 : Int) = t⁻¹ * t⁻¹ := by rw [show (-2 : Int) = -1 + -1 by omega, Rat.zpow_add ht, m1]
  have h0 : t * t⁻¹ = 1 := Rat.mul_inv_cancel _ ht
  have w0 : wordJ mP2 2 t [1] unitJ 0 = t := by
    show stepJ mP2 2 t 1 unitJ 0 = t
    simp only [stepJ, sumQ, cfJ, unitJ, show (1 : Int).natAbs = 1 from rfl, if_true, Nat.one_ne_zero, if_false, a00, a01, a10, a11, e0, e1, p1, m1, show ¬ (0 : Nat) = 1 by decide]
    grind
  have w1 : wordJ mP2 2 t [1] unitJ 1 = t⁻¹ := by
    show stepJ mP2 2 t 1 unitJ 1 = t⁻¹
    simp only [stepJ, sumQ, cfJ, unitJ, show (1 : Int).natAbs = 1 from rfl, if_true, Nat.one_ne_zero, if_false, a00, a01, a10, a11, e0, e1, p1, m1]
    grind
  simp only [bracketJ, sumQ, w0, w1, d0, d1, dl, m2]
  generalize t⁻¹ = v at h0 ⊢
  grind
theorem jones_one {t : Rat} (ht : t ≠ 0) : jonesV mP2 2 mT2 t [1] = 1 := by
  unfold jonesV
  rw [bracket_one ht]
  have s : sumL [1] = 1 := by decide
  have sg : signJ 1 = -1 := by decide
  have p1 : t ^ (1 : Int) = t := by
    have h := Rat.zpow_natCast t 1
    rw [Rat.pow_one] at h
    exact h
  have m1 : t ^ (-1 : Int) = t⁻¹ := by rw [Rat.zpow_neg, p1]
  have m3 : t ^ (-3 * 1 : Int) = t⁻¹ * t⁻¹ * t⁻¹ := by rw [show (-3 * 1 : Int) = -1 + (-1 + -1) by omega, Rat.zpow_add ht, Rat.zpow_add ht, m1]; grind
  have h0 : t * t⁻¹ = 1 := Rat.mul_inv_cancel _ ht
  rw [s, sg, m3]
  generalize t⁻¹ = v at h0 ⊢
  have e : ((-1 : Int) : Rat) = -1 := by simp
  rw [e]
  grind
theorem ev_q1 (t : Rat) : ev ⟨0, [1]⟩ t = 1 := by
  simp only [ev, evL, Rat.zpow_zero]
  grind
theorem ev_q3 {t : Rat} (_ht : t ≠ 0) : ev ⟨3, [-1]⟩ t = -(t * t * t) := by
  have z3 : t ^ (3 : Int) = t * t * t := by
    have : (3 : Int) = ((3 : Nat) : Int) := rfl
    rw [this, Rat.zpow_natCast]; grind
  simp only [ev, evL, z3]
  have e : ((-1 : Int) : Rat) = -1 := by simp
  rw [e]
  grind

set_option maxRecDepth 100000 in
set_option maxHeartbeats 4000000 in
theorem jonesed_calls (w : World) :
    Calls Try.prog 38 #[] w fun e w' => e = .returned (.bool true) ∧ Below w.heap.size w w' := by
  have hx : NWord 2 [1] := fun x hx => by simp at hx; subst hx; decide
  have HP := Lib.hid (fun W v hv => jones_eq mj2 (by decide) (by decide) v [1] W hv hx (by decide) ⟨0, [1]⟩ (tr_lit (by decide) (by decide) (by decide)) (fun t ht => by rw [jones_one ht]; exact ev_q1 t))
  have HB := Lib.hid (fun W v hv => jBracket_eq mj2 (by decide) (by decide) v [1] W hv hx (by decide) ⟨3, [-1]⟩ (tr_lit (by decide) (by decide) (by decide)) (fun t ht => by rw [bracket_one ht]; exact ev_q3 ht))
  clear hx
  go_enter Try.func38, Try.ntmps38
  go_wp2_with fail
  refine (HP.out _ _ (ints_lit [1] (by simp) rfl rfl (by decide))).mono ?_
  rintro e w1 ⟨u, rfl, hu, hb⟩
  have su := hu.isSl
  have HU := Lib.hid hu.ints; have HB1 := Lib.hid (Below.chain ((Below.refl _ _).alloc (Nat.le_refl _) _) hb)
  clear hu hb
  go_wp2_with fail
  obtain ⟨W2, hW2⟩ : ∃ W2, W2 = w1.alloc (.cells #[.int .i64 0, u] 35) := ⟨_, rfl⟩
  have p2 : Pair W2 w1.heap.size 35 (.int .i64 0) u := by rw [hW2]; exact pair_new _ _ _ _
  have b2 : Below w1.heap.size w1 W2 := by rw [hW2]; exact (Below.refl _ _).alloc (Nat.le_refl _) _
  have hz2 : W2.heap.size = w1.heap.size + 1 := by rw [hW2]; simp
  have P2 := Lib.hid (p2.alloc (.cells #[.int .i64 1] 3)); have HU2 := Lib.hid ((HU.out.below b2).alloc (.cells #[.int .i64 1] 3)); have HB2 := Lib.hid ((Below.chain HB1.out b2).alloc (Nat.le_trans HB1.out.size b2.size) (.cells #[.int .i64 1] 3))
  rw [← hW2]
  have hlit := ints_lit (w := W2) (b := w1.heap.size + 1) [1] hz2.symm rfl rfl (by decide)
  clear hW2 p2 b2 hz2
  refine (HB.out _ _ hlit).mono ?_
  clear hlit
  rintro e w3 ⟨v, rfl, hv, hb⟩
  have sv := hv.isSl
  have P3 := Lib.hid (P2.out.below hb); have HU3 := Lib.hid (HU2.out.below hb); have HB3 := Lib.hid (Below.chain HB2.out hb); have HV3 := Lib.hid hv.ints
  clear hv hb
  have c0 := P3.out.cell0; have c1 := P3.out.cell1; have hl1 := P3.out.lt
  go_wp2_with fail
  obtain ⟨W4, hW4⟩ : ∃ W4, W4 = w3.alloc (.cells #[.int .i64 3, v] 35) := ⟨_, rfl⟩
  have p4 : Pair W4 w3.heap.size 35 (.int .i64 3) v := by rw [hW4]; exact pair_new _ _ _ _
  have b4 : Below w3.heap.size w3 W4 := by rw [hW4]; exact (Below.refl _ _).alloc (Nat.le_refl _) _
  have hz4 : W4.heap.size = w3.heap.size + 1 := by rw [hW4]; simp
  rw [← hW4]
  have hlit := ints_lit (w := W4) (b := w3.heap.size + 1) [1] hz4.symm rfl rfl (by decide)
  have b5 : Below W4.heap.size W4 (W4.alloc (.cells #[.int .i64 1] 3)) := (Below.refl _ _).alloc (Nat.le_refl _) _
  have P5 := Lib.hid (p4.below b5); have HV5 := Lib.hid ((HV3.out.below b4).below b5); have HU5 := Lib.hid ((HU3.out.below b4).below b5); have HB5 := Lib.hid (Below.chain (Below.chain HB3.out b4) b5)
  clear hW4 p4 b4 hz4 b5 c0 c1 hl1
  refine (same_yes ⟨0, [1]⟩ ⟨0, [1]⟩ _ _ _ HU5.out hlit rfl).mono ?_
  clear hlit
  rintro e w6 ⟨rfl, hb⟩
  have P6 := Lib.hid (P5.out.below hb); have HV6 := Lib.hid (HV5.out.below hb); have HB6 := Lib.hid (Below.chain HB5.out hb)
  clear hb
  have c0 := P6.out.cell0; have c1 := P6.out.cell1; have hl1 := P6.out.lt
  go_wp2_with fail
  refine (same_yes ⟨3, [-1]⟩ ⟨3, [-1]⟩ _ _ _ (HV6.out.alloc _) (ints_lit (w := w6) [-1] rfl rfl rfl (by decide)) rfl).mono ?_
  rintro e w7 ⟨rfl, hb⟩
  have HB7 := Lib.hid (Below.chain (Below.chain HB6.out ((Below.refl _ _).alloc (Nat.le_refl _) _)) hb)
  clear hb c0 c1 hl1
  go_wp2_with fail
  go_ret
  exact ⟨rfl, HB7.out⟩
end Go.Proofs.Ytckopilciekfbaa

