/- matchingRelations: for every input the statement returns true, and nothing that was there has changed. -/
import Derived.Test.YtckopilciekfbaaQMatchingRelations0
import Derived.Test.YtckopilciekfbaaQMatchingRelations1
import Derived.Test.YtckopilciekfbaaQMatchingRelations2
import Derived.Test.YtckopilciekfbaaQMatchingRelations3
import Derived.Test.YtckopilciekfbaaQMatchingRelations4
import Derived.Test.YtckopilciekfbaaQMatchingRelations5
import Derived.Test.YtckopilciekfbaaQMatchingRelations6
import Derived.Test.YtckopilciekfbaaQMatchingRelations7
import Derived.Test.YtckopilciekfbaaQMatchingRelations8
import Derived.Test.YtckopilciekfbaaQMatchingRelations9
import Derived.Test.YtckopilciekfbaaQMatchingRelations10
import Derived.Test.YtckopilciekfbaaQMatchingRelations11
import Derived.Test.YtckopilciekfbaaQMatchingRelations12
import Derived.Test.YtckopilciekfbaaQMatchingRelations13
import Derived.Test.YtckopilciekfbaaQMatchingRelations14
import Derived.Test.YtckopilciekfbaaQMatchingRelations15
import Derived.Test.YtckopilciekfbaaQMatchingRelations16
import Derived.Test.YtckopilciekfbaaQMatchingRelations17
import Derived.Test.YtckopilciekfbaaQMatchingRelations18
import Derived.Test.YtckopilciekfbaaQMatchingRelations19
import Derived.Test.YtckopilciekfbaaQMatchingRelations20
import Derived.Test.YtckopilciekfbaaQMatchingRelations21
import Derived.Test.YtckopilciekfbaaQMatchingRelations22
import Derived.Test.YtckopilciekfbaaQMatchingRelations23
import Derived.Test.YtckopilciekfbaaQMatchingRelations24
import Derived.Test.YtckopilciekfbaaQMatchingRelations25
import Derived.RangeFuncNested
import Derived.RangeFuncBound
import Derived.RangeFuncCalls
import Derived.RangeFuncLeaves
import Derived.RangeFuncBox
import Derived.Shelf.Abstract
import Derived.Shelf.RegionOpen
import Derived.OwnWalkIn
import Derived.TacticsInMore
import Derived.LoopNIn
import Derived.LoopIn
import Derived.Maps.AppendAt
import Derived.Deep.RegionLaw
namespace Go.Proofs.Ytckopilciekfbaa
open Go.RowKit Go.Sl
open Go.TL (putL oneL cupL)

set_option maxHeartbeats 8000000 in
set_option maxRecDepth 100000 in
theorem matRel_far (i k : Int) (hi : I64 i) (hk : I64 k) (n : Int) (hn : I64 n) (N I K : Nat) (hN : 2 + n % (6 - 1) = (N : Int)) (hN1 : 2 ≤ N) (hN2 : N ≤ 6) (hI : 1 + i % ((N : Int) - 1) = (I : Int)) (hK : 1 + k % ((N : Int) - 1) = (K : Int)) (hI1 : 1 ≤ I) (hI2 : I < N) (hK1 : 1 ≤ K) (hK2 : K < N) (hf : I + 1 < K ∨ K + 1 < I) (w : World) :
    Calls Try.prog 11 #[.int .i64 n, .int .i64 i, .int .i64 k] w fun e w' => e = .returned (.bool true) ∧ Below w.heap.size w w' := by
  have hB : relB N [I, K] [K, I] 0 = true := rel_far ⟨N, by omega⟩ ⟨I, by omega⟩ ⟨K, by omega⟩ hI1 hK1 hI2 hK2 hf
  obtain ⟨x, p, q, r1, r2, hpq, htok, hp⟩ := relB_of hB
  clear hB
  have hwN : IntKind.i64.wrap ((N : Int) - 1) = (N : Int) - 1 := IntWalk.i64_in _ ⟨by omega, by omega⟩
  have hwI : IntKind.i64.wrap (1 + i % ((N : Int) - 1)) = (I : Int) := by rw [hI]; exact IntWalk.i64_in _ ⟨by omega, by omega⟩
  have hwK : IntKind.i64.wrap (1 + k % ((N : Int) - 1)) = (K : Int) := by rw [hK]; exact IntWalk.i64_in _ ⟨by omega, by omega⟩
  have hw1 : IntKind.i64.wrap ((I : Int) - (K : Int)) = (I : Int) - (K : Int) := IntWalk.i64_in _ ⟨by omega, by omega⟩
  have hw2 : IntKind.i64.wrap ((K : Int) - (I : Int)) = (K : Int) - (I : Int) := IntWalk.i64_in _ ⟨by omega, by omega⟩
  have hpe : ((p : Int) == (q : Int)) = true := by simp; omega
  have hq : q ≤ 100 := by omega
  have hpw : IntKind.i64.wrap (q : Int) = (q : Int) := IntWalk.i64_in _ ⟨by omega, by omega⟩
  have hpw0 : IntKind.i64.wrap ((q : Int) + 0) = (q : Int) := by rw [Int.add_zero]; exact hpw
  obtain ⟨m, hm, hm0, hm1⟩ : ∃ m : Int, max ((I : Int) - (K : Int)) ((K : Int) - (I : Int)) = m ∧ (m == 0) = false ∧ (m == 1) = false := ⟨_, rfl, by simp only [beq_eq_false_iff_ne]; omega, by simp only [beq_eq_false_iff_ne]; omega⟩
  have S1 := Lib.hid (fun W v hv => stacked_calls N [I, K] v W hv (by simp) (by omega) hN2 x p r1)
  have S2 := Lib.hid (fun W v hv => stacked_calls N [K, I] v W hv (by simp) (by omega) hN2 x q r2)
  have HT := Lib.hid htok
  have HN := Lib.hid hN
  clear r1 r2 htok hI hK hN hpq
  go_enter Try.func11, Try.ntmps11
  go_wp2_with fail
  refine (strands_calls n 6 w hn (by decide) (by decide)).mono ?_
  rw [HN.out]
  rintro e w' ⟨rfl, rfl⟩
  go_wp2_with fail
  refine (below_calls i ((N : Int) - 1) w (by omega) (by omega) hi).mono ?_
  rintro e w' ⟨rfl, rfl⟩
  go_wp2_with fail
  refine (below_calls k ((N : Int) - 1) w (by omega) (by omega) hk).mono ?_
  rintro e w' ⟨rfl, rfl⟩
  go_wp2_with fail
  have L1 := Lib.hid (show Ints ((w.alloc (.cells #[.int .i64 I, .int .i64 K] 3)).alloc (.cells #[.int .i64 K, .int .i64 I] 3)) (.slice (some ⟨w.heap.size, 0, none⟩) 2 2) (iz [I, K]) from (ints_lit (w := w) [(I : Int), (K : Int)] rfl rfl rfl (by simp)).below ((Below.refl _ _).alloc (Nat.le_refl _) (.cells #[.int .i64 K, .int .i64 I] 3)))
  have L2 := Lib.hid (show Ints ((w.alloc (.cells #[.int .i64 I, .int .i64 K] 3)).alloc (.cells #[.int .i64 K, .int .i64 I] 3)) (.slice (some ⟨w.heap.size + 1, 0, none⟩) 2 2) (iz [K, I]) from ints_lit (w := w.alloc (.cells #[.int .i64 I, .int .i64 K] 3)) [(K : Int), (I : Int)] (by simp) rfl rfl (by simp))
  have HB := Lib.hid (((Below.refl w.heap.size w).alloc (Nat.le_refl _) (.cells #[.int .i64 I, .int .i64 K] 3)).alloc (by simp) (.cells #[.int .i64 K, .int .i64 I] 3))
  refine (S1.out _ _ L1.out).mono ?_
  rintro e u1 ⟨s1, rfl, ho, hb⟩
  have ss1 := ho.isSl
  have R1 := Lib.hid ho.ints
  replace L2 := Lib.hid (L2.out.below hb)
  replace HB := Lib.hid (Below.chain HB.out hb)
  clear ho hb
  go_wp2_with fail
  refine (S2.out _ _ L2.out).mono ?_
  rintro e u2 ⟨s2, rfl, ho, hb⟩
  have ss2 := ho.isSl
  have R2 := Lib.hid ho.ints
  replace R1 := Lib.hid (R1.out.below hb)
  replace HB := Lib.hid (Below.chain HB.out hb)
  clear ho hb
  go_wp2_with fail
  refine (matched_calls u2).mono ?_
  rintro e u3 ⟨rfl, hb⟩
  replace R1 := Lib.hid (R1.out.below hb)
  replace R2 := Lib.hid (R2.out.below hb)
  replace HB := Lib.hid (Below.chain HB.out hb)
  clear hb
  go_wp2_with fail
  refine (equal_calls _ _ _ _ u3 R1.out R2.out).mono ?_
  rintro e u4 ⟨rfl, hb⟩
  rw [decide_eq_true rfl]
  replace R1 := Lib.hid (R1.out.below hb)
  replace HB := Lib.hid (Below.chain HB.out hb)
  clear hb
  go_wp2_with fail
  refine (tcheck_calls N x _ u4 R1.out HT.out (by omega) hN2).mono ?_
  rintro e u5 ⟨rfl, hb⟩
  replace HB := Lib.hid (Below.chain HB.out hb)
  clear hb
  go_wp2_with fail
  go_ret
  exact ⟨rfl, HB.out⟩

set_option maxHeartbeats 8000000 in
set_option maxRecDepth 100000 in
theorem matRel_near (i k : Int) (hi : I64 i) (hk : I64 k) (n : Int) (hn : I64 n) (N I K : Nat) (hN : 2 + n % (6 - 1) = (N : Int)) (hN1 : 2 ≤ N) (hN2 : N ≤ 6) (hI : 1 + i % ((N : Int) - 1) = (I : Int)) (hK : 1 + k % ((N : Int) - 1) = (K : Int)) (hI1 : 1 ≤ I) (hI2 : I < N) (hK1 : 1 ≤ K) (hK2 : K < N) (hf : I + 1 = K ∨ K + 1 = I) (w : World) :
    Calls Try.prog 11 #[.int .i64 n, .int .i64 i, .int .i64 k] w fun e w' => e = .returned (.bool true) ∧ Below w.heap.size w w' := by
  have hB : relB N [I, K, I] [I] 0 = true := rel_near ⟨N, by omega⟩ ⟨I, by omega⟩ ⟨K, by omega⟩ hI1 hK1 hI2 hK2 hf
  obtain ⟨x, p, q, r1, r2, hpq, htok, hp⟩ := relB_of hB
  clear hB
  have hwN : IntKind.i64.wrap ((N : Int) - 1) = (N : Int) - 1 := IntWalk.i64_in _ ⟨by omega, by omega⟩
  have hwI : IntKind.i64.wrap (1 + i % ((N : Int) - 1)) = (I : Int) := by rw [hI]; exact IntWalk.i64_in _ ⟨by omega, by omega⟩
  have hwK : IntKind.i64.wrap (1 + k % ((N : Int) - 1)) = (K : Int) := by rw [hK]; exact IntWalk.i64_in _ ⟨by omega, by omega⟩
  have hw1 : IntKind.i64.wrap ((I : Int) - (K : Int)) = (I : Int) - (K : Int) := IntWalk.i64_in _ ⟨by omega, by omega⟩
  have hw2 : IntKind.i64.wrap ((K : Int) - (I : Int)) = (K : Int) - (I : Int) := IntWalk.i64_in _ ⟨by omega, by omega⟩
  have hpe : ((p : Int) == (q : Int)) = true := by simp; omega
  have hq : q ≤ 100 := by omega
  have hpw : IntKind.i64.wrap (q : Int) = (q : Int) := IntWalk.i64_in _ ⟨by omega, by omega⟩
  have hpw0 : IntKind.i64.wrap ((q : Int) + 0) = (q : Int) := by rw [Int.add_zero]; exact hpw
  have hm : max ((I : Int) - (K : Int)) ((K : Int) - (I : Int)) = 1 := by omega
  have S1 := Lib.hid (fun W v hv => stacked_calls N [I, K, I] v W hv (by simp) (by omega) hN2 x p r1)
  have S2 := Lib.hid (fun W v hv => stacked_calls N [I] v W hv (by simp) (by omega) hN2 x q r2)
  have HT := Lib.hid htok
  have HN := Lib.hid hN
  clear r1 r2 htok hI hK hN hpq
  go_enter Try.func11, Try.ntmps11
  go_wp2_with fail
  refine (strands_calls n 6 w hn (by decide) (by decide)).mono ?_
  rw [HN.out]
  rintro e w' ⟨rfl, rfl⟩
  go_wp2_with fail
  refine (below_calls i ((N : Int) - 1) w (by omega) (by omega) hi).mono ?_
  rintro e w' ⟨rfl, rfl⟩
  go_wp2_with fail
  refine (below_calls k ((N : Int) - 1) w (by omega) (by omega) hk).mono ?_
  rintro e w' ⟨rfl, rfl⟩
  go_wp2_with fail
  have L1 := Lib.hid (show Ints ((((w.alloc (.cells #[.int .i64 I, .int .i64 K] 3)).alloc (.cells #[.int .i64 K, .int .i64 I] 3)).alloc (.cells #[.int .i64 I, .int .i64 K, .int .i64 I] 3)).alloc (.cells #[.int .i64 I] 3)) (.slice (some ⟨w.heap.size + 1 + 1, 0, none⟩) 3 3) (iz [I, K, I]) from (ints_lit (w := (w.alloc (.cells #[.int .i64 I, .int .i64 K] 3)).alloc (.cells #[.int .i64 K, .int .i64 I] 3)) [(I : Int), (K : Int), (I : Int)] (by simp) rfl rfl (by simp)).below ((Below.refl _ _).alloc (Nat.le_refl _) (.cells #[.int .i64 I] 3)))
  have L2 := Lib.hid (show Ints ((((w.alloc (.cells #[.int .i64 I, .int .i64 K] 3)).alloc (.cells #[.int .i64 K, .int .i64 I] 3)).alloc (.cells #[.int .i64 I, .int .i64 K, .int .i64 I] 3)).alloc (.cells #[.int .i64 I] 3)) (.slice (some ⟨w.heap.size + 1 + 1 + 1, 0, none⟩) 1 1) (iz [I]) from ints_lit (w := ((w.alloc (.cells #[.int .i64 I, .int .i64 K] 3)).alloc (.cells #[.int .i64 K, .int .i64 I] 3)).alloc (.cells #[.int .i64 I, .int .i64 K, .int .i64 I] 3)) [(I : Int)] (by simp) rfl rfl (by simp))
  have HB := Lib.hid (((((Below.refl w.heap.size w).alloc (Nat.le_refl _) (.cells #[.int .i64 I, .int .i64 K] 3)).alloc (by simp) (.cells #[.int .i64 K, .int .i64 I] 3)).alloc (by simp; omega) (.cells #[.int .i64 I, .int .i64 K, .int .i64 I] 3)).alloc (by simp; omega) (.cells #[.int .i64 I] 3))
  refine (S1.out _ _ L1.out).mono ?_
  rintro e u1 ⟨s1, rfl, ho, hb⟩
  have ss1 := ho.isSl
  have R1 := Lib.hid ho.ints
  replace L2 := Lib.hid (L2.out.below hb)
  replace HB := Lib.hid (Below.chain HB.out hb)
  clear ho hb
  go_wp2_with fail
  refine (S2.out _ _ L2.out).mono ?_
  rintro e u2 ⟨s2, rfl, ho, hb⟩
  have ss2 := ho.isSl
  have R2 := Lib.hid ho.ints
  replace R1 := Lib.hid (R1.out.below hb)
  replace HB := Lib.hid (Below.chain HB.out hb)
  clear ho hb
  go_wp2_with fail
  refine (matched_calls u2).mono ?_
  rintro e u3 ⟨rfl, hb⟩
  replace R1 := Lib.hid (R1.out.below hb)
  replace R2 := Lib.hid (R2.out.below hb)
  replace HB := Lib.hid (Below.chain HB.out hb)
  clear hb
  go_wp2_with fail
  refine (equal_calls _ _ _ _ u3 R1.out R2.out).mono ?_
  rintro e u4 ⟨rfl, hb⟩
  rw [decide_eq_true rfl]
  replace R1 := Lib.hid (R1.out.below hb)
  replace HB := Lib.hid (Below.chain HB.out hb)
  clear hb
  go_wp2_with fail
  refine (tcheck_calls N x _ u4 R1.out HT.out (by omega) hN2).mono ?_
  rintro e u5 ⟨rfl, hb⟩
  replace HB := Lib.hid (Below.chain HB.out hb)
  clear hb
  go_wp2_with fail
  go_ret
  exact ⟨rfl, HB.out⟩

set_option maxHeartbeats 8000000 in
set_option maxRecDepth 100000 in
theorem matRel_twice (i k : Int) (hi : I64 i) (hk : I64 k) (n : Int) (hn : I64 n) (N I K : Nat) (hN : 2 + n % (6 - 1) = (N : Int)) (hN1 : 2 ≤ N) (hN2 : N ≤ 6) (hI : 1 + i % ((N : Int) - 1) = (I : Int)) (hK : 1 + k % ((N : Int) - 1) = (K : Int)) (hI1 : 1 ≤ I) (hI2 : I < N) (hK1 : 1 ≤ K) (hK2 : K < N) (hf : I = K) (w : World) :
    Calls Try.prog 11 #[.int .i64 n, .int .i64 i, .int .i64 k] w fun e w' => e = .returned (.bool true) ∧ Below w.heap.size w w' := by
  subst hf
  have hB : relB N [I, I] [I] 1 = true := rel_twice ⟨N, by omega⟩ ⟨I, by omega⟩ hI1 hI2
  obtain ⟨x, p, q, r1, r2, hpq, htok, hp⟩ := relB_of hB
  clear hB
  have hwN : IntKind.i64.wrap ((N : Int) - 1) = (N : Int) - 1 := IntWalk.i64_in _ ⟨by omega, by omega⟩
  have hwI : IntKind.i64.wrap (1 + i % ((N : Int) - 1)) = (I : Int) := by rw [hI]; exact IntWalk.i64_in _ ⟨by omega, by omega⟩
  have hwK : IntKind.i64.wrap (1 + k % ((N : Int) - 1)) = (I : Int) := by rw [hK]; exact IntWalk.i64_in _ ⟨by omega, by omega⟩
  have hw1 : IntKind.i64.wrap ((I : Int) - (I : Int)) = (I : Int) - (I : Int) := IntWalk.i64_in _ ⟨by omega, by omega⟩
  have hw2 : IntKind.i64.wrap ((I : Int) - (I : Int)) = (I : Int) - (I : Int) := IntWalk.i64_in _ ⟨by omega, by omega⟩
  have hpe : ((p : Int) == (q : Int) + 1) = true := by simp; omega
  have hq : q ≤ 100 := by omega
  have hpw : IntKind.i64.wrap ((q : Int) + 1) = (q : Int) + 1 := IntWalk.i64_in _ ⟨by omega, by omega⟩
  have hm : max ((I : Int) - (I : Int)) ((I : Int) - (I : Int)) = 0 := by omega
  have S1 := Lib.hid (fun W v hv => stacked_calls N [I, I] v W hv (by simp) (by omega) hN2 x p r1)
  have S2 := Lib.hid (fun W v hv => stacked_calls N [I] v W hv (by simp) (by omega) hN2 x q r2)
  have HT := Lib.hid htok
  have HN := Lib.hid hN
  clear r1 r2 htok hI hK hN hpq
  go_enter Try.func11, Try.ntmps11
  go_wp2_with fail
  refine (strands_calls n 6 w hn (by decide) (by decide)).mono ?_
  rw [HN.out]
  rintro e w' ⟨rfl, rfl⟩
  go_wp2_with fail
  refine (below_calls i ((N : Int) - 1) w (by omega) (by omega) hi).mono ?_
  rintro e w' ⟨rfl, rfl⟩
  go_wp2_with fail
  refine (below_calls k ((N : Int) - 1) w (by omega) (by omega) hk).mono ?_
  rintro e w' ⟨rfl, rfl⟩
  go_wp2_with fail
  have L1 := Lib.hid (show Ints ((((w.alloc (.cells #[.int .i64 I, .int .i64 I] 3)).alloc (.cells #[.int .i64 I, .int .i64 I] 3)).alloc (.cells #[.int .i64 I, .int .i64 I] 3)).alloc (.cells #[.int .i64 I] 3)) (.slice (some ⟨w.heap.size + 1 + 1, 0, none⟩) 2 2) (iz [I, I]) from (ints_lit (w := (w.alloc (.cells #[.int .i64 I, .int .i64 I] 3)).alloc (.cells #[.int .i64 I, .int .i64 I] 3)) [(I : Int), (I : Int)] (by simp) rfl rfl (by simp)).below ((Below.refl _ _).alloc (Nat.le_refl _) (.cells #[.int .i64 I] 3)))
  have L2 := Lib.hid (show Ints ((((w.alloc (.cells #[.int .i64 I, .int .i64 I] 3)).alloc (.cells #[.int .i64 I, .int .i64 I] 3)).alloc (.cells #[.int .i64 I, .int .i64 I] 3)).alloc (.cells #[.int .i64 I] 3)) (.slice (some ⟨w.heap.size + 1 + 1 + 1, 0, none⟩) 1 1) (iz [I]) from ints_lit (w := ((w.alloc (.cells #[.int .i64 I, .int .i64 I] 3)).alloc (.cells #[.int .i64 I, .int .i64 I] 3)).alloc (.cells #[.int .i64 I, .int .i64 I] 3)) [(I : Int)] (by simp) rfl rfl (by simp))
  have HB := Lib.hid (((((Below.refl w.heap.size w).alloc (Nat.le_refl _) (.cells #[.int .i64 I, .int .i64 I] 3)).alloc (by simp) (.cells #[.int .i64 I, .int .i64 I] 3)).alloc (by simp; omega) (.cells #[.int .i64 I, .int .i64 I] 3)).alloc (by simp; omega) (.cells #[.int .i64 I] 3))
  refine (S1.out _ _ L1.out).mono ?_
  rintro e u1 ⟨s1, rfl, ho, hb⟩
  have ss1 := ho.isSl
  have R1 := Lib.hid ho.ints
  replace L2 := Lib.hid (L2.out.below hb)
  replace HB := Lib.hid (Below.chain HB.out hb)
  clear ho hb
  go_wp2_with fail
  refine (S2.out _ _ L2.out).mono ?_
  rintro e u2 ⟨s2, rfl, ho, hb⟩
  have ss2 := ho.isSl
  have R2 := Lib.hid ho.ints
  replace R1 := Lib.hid (R1.out.below hb)
  replace HB := Lib.hid (Below.chain HB.out hb)
  clear ho hb
  go_wp2_with fail
  refine (matched_calls u2).mono ?_
  rintro e u3 ⟨rfl, hb⟩
  replace R1 := Lib.hid (R1.out.below hb)
  replace R2 := Lib.hid (R2.out.below hb)
  replace HB := Lib.hid (Below.chain HB.out hb)
  clear hb
  go_wp2_with fail
  refine (equal_calls _ _ _ _ u3 R1.out R2.out).mono ?_
  rintro e u4 ⟨rfl, hb⟩
  rw [decide_eq_true rfl]
  replace R1 := Lib.hid (R1.out.below hb)
  replace HB := Lib.hid (Below.chain HB.out hb)
  clear hb
  go_wp2_with fail
  refine (tcheck_calls N x _ u4 R1.out HT.out (by omega) hN2).mono ?_
  rintro e u5 ⟨rfl, hb⟩
  replace HB := Lib.hid (Below.chain HB.out hb)
  clear hb
  go_wp2_with fail
  go_ret
  exact ⟨rfl, HB.out⟩

theorem matchingRelations_true (n : Int) (hn : I64 n) (i : Int) (hi : I64 i) (k : Int) (hk : I64 k) (w : World) :
    Calls Try.prog 11 #[.int .i64 n, .int .i64 i, .int .i64 k] w fun e w' => e = .returned (.bool true) ∧ Below w.heap.size w w' := by
  obtain ⟨N, hN⟩ : ∃ N : Nat, 2 + n % (6 - 1) = (N : Int) := ⟨(2 + n % (6 - 1)).toNat, by omega⟩
  have hN1 : 2 ≤ N := by omega
  have hN2 : N ≤ 6 := by omega
  have a1 := Int.emod_nonneg i (show (N : Int) - 1 ≠ 0 by omega)
  have a2 := Int.emod_lt_of_pos i (show 0 < (N : Int) - 1 by omega)
  have b1 := Int.emod_nonneg k (show (N : Int) - 1 ≠ 0 by omega)
  have b2 := Int.emod_lt_of_pos k (show 0 < (N : Int) - 1 by omega)
  obtain ⟨I, hI⟩ : ∃ I : Nat, 1 + i % ((N : Int) - 1) = (I : Int) := ⟨(1 + i % ((N : Int) - 1)).toNat, by omega⟩
  obtain ⟨K, hK⟩ : ∃ K : Nat, 1 + k % ((N : Int) - 1) = (K : Int) := ⟨(1 + k % ((N : Int) - 1)).toNat, by omega⟩
  rcases Nat.lt_trichotomy I K with h | h | h
  · rcases Nat.lt_or_ge (I + 1) K with h2 | h2
    · exact matRel_far i k hi hk n hn N I K hN hN1 hN2 hI hK (by omega) (by omega) (by omega) (by omega) (Or.inl h2) w
    · exact matRel_near i k hi hk n hn N I K hN hN1 hN2 hI hK (by omega) (by omega) (by omega) (by omega) (Or.inl (by omega)) w
  · exact matRel_twice i k hi hk n hn N I K hN hN1 hN2 hI hK (by omega) (by omega) (by omega) (by omega) h w
  · rcases Nat.lt_or_ge (K + 1) I with h2 | h2
    · exact matRel_far i k hi hk n hn N I K hN hN1 hN2 hI hK (by omega) (by omega) (by omega) (by omega) (Or.inr h2) w
    · exact matRel_near i k hi hk n hn N I K hN hN1 hN2 hI hK (by omega) (by omega) (by omega) (by omega) (Or.inr (by omega)) w

end Go.Proofs.Ytckopilciekfbaa

