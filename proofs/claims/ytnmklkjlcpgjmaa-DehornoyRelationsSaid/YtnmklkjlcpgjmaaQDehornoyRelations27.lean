/- The two sides of a relation of the braid group, and words around them. -/
import Derived.Test.YtnmklkjlcpgjmaaQDehornoyRelations0
import Derived.Test.YtnmklkjlcpgjmaaQDehornoyRelations1
import Derived.Test.YtnmklkjlcpgjmaaQDehornoyRelations2
import Derived.Test.YtnmklkjlcpgjmaaQDehornoyRelations3
import Derived.Test.YtnmklkjlcpgjmaaQDehornoyRelations8
import Derived.Test.YtnmklkjlcpgjmaaQDehornoyRelations9
import Derived.Test.YtnmklkjlcpgjmaaQDehornoyRelations10
import Derived.Test.YtnmklkjlcpgjmaaQDehornoyRelations11
import Derived.Test.YtnmklkjlcpgjmaaQDehornoyRelations12
import Derived.Test.YtnmklkjlcpgjmaaQDehornoyRelations13
import Derived.Test.YtnmklkjlcpgjmaaQDehornoyRelations15
import Derived.Test.YtnmklkjlcpgjmaaQDehornoyRelations16
import Derived.Test.YtnmklkjlcpgjmaaQDehornoyRelations18
import Derived.Test.YtnmklkjlcpgjmaaQDehornoyRelations19
import Derived.Test.YtnmklkjlcpgjmaaQDehornoyRelations26
import Derived.RangeFuncNested
import Derived.RangeFuncCalls
import Derived.OrdersIn
import Derived.OrdersHeld
import Derived.Deep.RegionHeld
import Derived.Deep.RegionLaw
namespace Go.Proofs.Ytnmklkjlcpgjmaa
open Go.RowKit Go.Sl

set_option maxRecDepth 100000 in
set_option maxHeartbeats 2000000 in
theorem sides_calls (n : Nat) (i k : Int) (w : World) (hn : 2 ≤ n) (hn2 : n ≤ 6) (hi : I64 i) (hk : I64 k) :
    Calls Try.prog 27 #[.int .i64 n, .int .i64 i, .int .i64 k] w fun e w' => ∃ a b, e = .returned (.tuple #[a, b]) ∧ OwnI w' w.heap.size a (sidesL (1 + i % ((n : Int) - 1)) (1 + k % ((n : Int) - 1))).1 ∧ OwnI w' w.heap.size b (sidesL (1 + i % ((n : Int) - 1)) (1 + k % ((n : Int) - 1))).2 ∧ Below w.heap.size w w' := by
  obtain ⟨p, hp⟩ : ∃ p, i % ((n : Int) - 1) = p := ⟨_, rfl⟩
  obtain ⟨q, hq⟩ : ∃ q, k % ((n : Int) - 1) = q := ⟨_, rfl⟩
  have hp1 : 0 ≤ p := by rw [← hp]; exact Int.emod_nonneg _ (by omega)
  have hp2 : p < (n : Int) - 1 := by rw [← hp]; exact Int.emod_lt_of_pos _ (by omega)
  have hq1 : 0 ≤ q := by rw [← hq]; exact Int.emod_nonneg _ (by omega)
  have hq2 : q < (n : Int) - 1 := by rw [← hq]; exact Int.emod_lt_of_pos _ (by omega)
  rw [hp, hq]
  have HP := Lib.hid hp; have HQ := Lib.hid hq; clear hp hq
  have hs0 : w.heap.size ≤ w.heap.size := Nat.le_refl _
  by_cases hc1 : (1 + p) - (1 + q) = 1 ∨ (1 + q) - (1 + p) = 1
  · have hmx : max ((1 + p) - (1 + q)) ((1 + q) - (1 + p)) = 1 := by omega
    have HS : sidesL (1 + p) (1 + q) = ([1 + p, 1 + q, 1 + p], [1 + q, 1 + p, 1 + q]) := by unfold sidesL; rw [if_pos hc1]
    rw [HS]; clear HS
    have HC := Lib.hid hc1; clear hc1
    go_enter Try.func27, Try.ntmps27
    go_wp2_with fail
    refine (below_calls i ((n : Int) - 1) _ (by omega) (by omega) hi).mono ?_
    rintro e w' ⟨rfl, rfl⟩
    rw [HP.out]
    go_wp2_with fail
    refine (below_calls k ((n : Int) - 1) _ (by omega) (by omega) hk).mono ?_
    rintro e w' ⟨rfl, rfl⟩
    rw [HQ.out]
    go_wp2_with fail
    go_ret2
    refine ⟨_, _, rfl, (ownI_lit (B := w.heap.size) [1 + p, 1 + q, 1 + p] rfl rfl rfl (by simp) hs0).below (by exact (Below.refl _ _).alloc (Nat.le_refl _) _), ownI_lit (B := w.heap.size) [1 + q, 1 + p, 1 + q] (by simp) rfl rfl (by simp) (by simp), ((Below.refl _ _).alloc hs0 _).alloc (by simp) _⟩
  · by_cases hc2 : p = q
    · subst hc2
      have hmx : max ((1 + p) - (1 + p)) ((1 + p) - (1 + p)) = 0 := by omega
      have HS : sidesL (1 + p) (1 + p) = ([1 + p, -(1 + p)], []) := by unfold sidesL; rw [if_neg hc1, if_pos rfl]
      rw [HS]; clear HS
      have HC := Lib.hid hc1; clear hc1
      go_enter Try.func27, Try.ntmps27
      go_wp2_with fail
      refine (below_calls i ((n : Int) - 1) _ (by omega) (by omega) hi).mono ?_
      rintro e w' ⟨rfl, rfl⟩
      rw [HP.out]
      go_wp2_with fail
      refine (below_calls k ((n : Int) - 1) _ (by omega) (by omega) hk).mono ?_
      rintro e w' ⟨rfl, rfl⟩
      rw [HQ.out]
      go_wp2_with fail
      go_ret2
      exact ⟨_, _, rfl, ownI_lit (B := w.heap.size) [1 + p, -(1 + p)] rfl rfl rfl (by simp) hs0, ownI_nil _ _, (Below.refl _ _).alloc hs0 _⟩
    · have hm1 : ¬ max ((1 + p) - (1 + q)) ((1 + q) - (1 + p)) = 1 := by omega
      have hm0 : ¬ max ((1 + p) - (1 + q)) ((1 + q) - (1 + p)) = 0 := by omega
      have HS : sidesL (1 + p) (1 + q) = ([1 + p, -(1 + q)], [-(1 + q), 1 + p]) := by unfold sidesL; rw [if_neg hc1, if_neg (by omega)]
      rw [HS]; clear HS
      have HC := Lib.hid hc1; clear hc1
      go_enter Try.func27, Try.ntmps27
      go_wp2_with fail
      refine (below_calls i ((n : Int) - 1) _ (by omega) (by omega) hi).mono ?_
      rintro e w' ⟨rfl, rfl⟩
      rw [HP.out]
      go_wp2_with fail
      refine (below_calls k ((n : Int) - 1) _ (by omega) (by omega) hk).mono ?_
      rintro e w' ⟨rfl, rfl⟩
      rw [HQ.out]
      go_wp2_with fail
      go_ret2
      refine ⟨_, _, rfl, (ownI_lit (B := w.heap.size) [1 + p, -(1 + q)] rfl rfl rfl (by simp) hs0).below (by exact (Below.refl _ _).alloc (Nat.le_refl _) _), ownI_lit (B := w.heap.size) [-(1 + q), 1 + p] (by simp) rfl rfl (by simp) (by simp), ((Below.refl _ _).alloc hs0 _).alloc (by simp) _⟩
theorem sides_bw {n P Q : Int} (hp : 1 ≤ P ∧ P < n) (hq : 1 ≤ Q ∧ Q < n) : BWord n (sidesL P Q).1 ∧ BWord n (sidesL P Q).2 ∧ (sidesL P Q).1.length ≤ 3 ∧ (sidesL P Q).2.length ≤ 3 := by
  unfold sidesL
  split
  · refine ⟨fun x hx => ?_, fun x hx => ?_, by simp, by simp⟩ <;> simp at hx <;> omega
  · split
    · refine ⟨fun x hx => ?_, fun x hx => ?_, by simp, by simp⟩ <;> simp at hx <;> omega
    · refine ⟨fun x hx => ?_, fun x hx => ?_, by simp, by simp⟩ <;> simp at hx <;> omega
/-- The two words. -/
def aroundL (n : Nat) (us vs : List Int) (i k : Int) (most : Nat) : List Int × List Int :=
  (wordL ((n : Int) - 1) us most ++ (sidesL (1 + i % ((n : Int) - 1)) (1 + k % ((n : Int) - 1))).1 ++ wordL ((n : Int) - 1) vs most,
   wordL ((n : Int) - 1) us most ++ (sidesL (1 + i % ((n : Int) - 1)) (1 + k % ((n : Int) - 1))).2 ++ wordL ((n : Int) - 1) vs most)

set_option maxRecDepth 100000 in
set_option maxHeartbeats 2000000 in
theorem around_calls (n most : Nat) (u v : Value) (us vs : List Int) (i k : Int) (w : World) (hu : Ints w u us) (hus : ∀ z ∈ us, I64 z) (hv : Ints w v vs) (hvs : ∀ z ∈ vs, I64 z) (hn : 2 ≤ n) (hn2 : n ≤ 6) (hi : I64 i) (hk : I64 k) (hm : most ≤ 1000) :
    Calls Try.prog 14 #[.int .i64 n, u, v, .int .i64 i, .int .i64 k, .int .i64 most] w fun e w' => ∃ a b, e = .returned (.tuple #[a, b]) ∧ Ints w' a (aroundL n us vs i k most).1 ∧ Ints w' b (aroundL n us vs i k most).2 ∧ Below w.heap.size w w' := by
  have su := hu.isSl
  have sv := hv.isSl
  have HU := Lib.hid hu; have HV := Lib.hid hv; have HUS := Lib.hid hus; have HVS := Lib.hid hvs
  clear hu hv hus hvs
  obtain ⟨S, hS⟩ : ∃ S, S = sidesL (1 + i % ((n : Int) - 1)) (1 + k % ((n : Int) - 1)) := ⟨_, rfl⟩
  obtain ⟨X, hX⟩ : ∃ X, X = wordL ((n : Int) - 1) us most := ⟨_, rfl⟩
  obtain ⟨Y, hY⟩ : ∃ Y, Y = wordL ((n : Int) - 1) vs most := ⟨_, rfl⟩
  unfold aroundL
  rw [← hS, ← hX, ← hY]
  have LX : X.length ≤ 1000 := by rw [hX]; exact Nat.le_trans (wordL_length _ us most) hm
  have LY : Y.length ≤ 1000 := by rw [hY]; exact Nat.le_trans (wordL_length _ vs most) hm
  have hb := sides_bw (n := n) (P := 1 + i % ((n : Int) - 1)) (Q := 1 + k % ((n : Int) - 1)) (by have := Int.emod_nonneg i (b := (n : Int) - 1) (by omega); have := Int.emod_lt_of_pos i (b := (n : Int) - 1) (by omega); omega) (by have := Int.emod_nonneg k (b := (n : Int) - 1) (by omega); have := Int.emod_lt_of_pos k (b := (n : Int) - 1) (by omega); omega)
  rw [← hS] at hb
  have L1 := hb.2.2.1
  have L2 := hb.2.2.2
  clear hb
  have HS := Lib.hid hS.symm; have HX := Lib.hid hX.symm; have HY := Lib.hid hY.symm
  have HLX := Lib.hid LX; have HLY := Lib.hid LY; have HL1 := Lib.hid L1; have HL2 := Lib.hid L2
  clear hS hX hY LX LY L1 L2
  go_enter Try.func14, Try.ntmps14
  go_wp2_with fail
  refine (sides_calls n i k _ hn hn2 hi hk).mono ?_
  rintro e w1 ⟨a, b, rfl, ha, hb, hb1⟩
  rw [HS.out] at ha hb
  have HA := Lib.hid ha.ints; have HB := Lib.hid hb.ints; have HB1 := Lib.hid hb1
  have sa := ha.isSl
  have sb := hb.isSl
  clear ha hb hb1
  obtain ⟨a1, a2, a3, rfl, -⟩ := sa.cases
  obtain ⟨b1, b2, b3, rfl, -⟩ := sb.cases
  go_wp2_with fail
  refine (word_calls ((n : Int) - 1) u us most _ (HU.out.below HB1.out) HUS.out (by omega) (by omega) hm).mono ?_
  rintro e w2 ⟨x, rfl, hx, hb2⟩
  rw [HX.out] at hx
  have sx := hx.isSl
  obtain ⟨x1, x2, x3, rfl, -⟩ := sx.cases
  have HX1 := Lib.hid hx.ints; have HB2 := Lib.hid hb2
  clear hx hb2
  go_wp2_with fail
  refine (word_calls ((n : Int) - 1) v vs most _ (HV.out.below (Below.chain HB1.out HB2.out)) HVS.out (by omega) (by omega) hm).mono ?_
  rintro e w3 ⟨y, rfl, hy, hb3⟩
  rw [HY.out] at hy
  have sy := hy.isSl
  obtain ⟨y1, y2, y3, rfl, -⟩ := sy.cases
  have HY1 := Lib.hid hy.ints; have HB3 := Lib.hid hb3
  clear hy hb3
  have ix : Ints w3 (.slice x1 x2 x3) X := HX1.out.below HB3.out
  have ia : Ints w3 (.slice a1 a2 a3) S.1 := (HA.out.below HB2.out).below HB3.out
  have ib : Ints w3 (.slice b1 b2 b3) S.2 := (HB.out.below HB2.out).below HB3.out
  have r1 := rowsV_3A ix ia HY1.out
  have HIX := Lib.hid ix; have HIA := Lib.hid ia; have HIB := Lib.hid ib; have HR1 := Lib.hid r1
  clear ix ia ib r1
  go_wp2_with fail
  refine (concat_calls _ _ [X, S.1, Y] _ HR1.out (by have := HLX.out; have := HLY.out; have := HL1.out; simp only [List.flatten_cons, List.flatten_nil, List.length_append, List.length_nil]; omega)).mono ?_
  rintro e w4 ⟨p, rfl, hp, hb4⟩
  have sp := hp.isSl
  have hb34 : Below w3.heap.size w3 w4 := Below.chain ((Below.refl _ _).alloc (Nat.le_refl _) _) hb4
  have r2 := rowsV_3A (HIX.out.below hb34) (HIB.out.below hb34) (HY1.out.below hb34)
  have HP := Lib.hid hp.ints; have HB34 := Lib.hid hb34; have HR2 := Lib.hid r2
  clear hp hb4 hb34 r2
  go_wp2_with fail
  refine (concat_calls _ _ [X, S.2, Y] _ HR2.out (by have := HLX.out; have := HLY.out; have := HL2.out; simp only [List.flatten_cons, List.flatten_nil, List.length_append, List.length_nil]; omega)).mono ?_
  rintro e w5 ⟨q, rfl, hq, hb5⟩
  have sq := hq.isSl
  have hb45 : Below w4.heap.size w4 w5 := Below.chain ((Below.refl _ _).alloc (Nat.le_refl _) _) hb5
  have HQ := Lib.hid hq.ints; have HB45 := Lib.hid hb45
  clear hq hb5 hb45
  go_wp2_with fail
  go_ret2
  refine ⟨_, _, rfl, ?_, ?_, Below.chain (Below.chain (Below.chain (Below.chain HB1.out HB2.out) HB3.out) HB34.out) HB45.out⟩
  · have := HP.out.below HB45.out
    simpa using this
  · have := HQ.out
    simpa using this
end Go.Proofs.Ytnmklkjlcpgjmaa

