/- artin.Equal of words whose images are not too long; the fact 'equal'. -/
import Derived.Test.YtnmklkjlcpgjmaaQTopWordProblem0
import Derived.Test.YtnmklkjlcpgjmaaQTopWordProblem1
import Derived.Test.YtnmklkjlcpgjmaaQTopWordProblem3
import Derived.Test.YtnmklkjlcpgjmaaQTopWordProblem5
import Derived.Test.YtnmklkjlcpgjmaaQTopWordProblem6
import Derived.Test.YtnmklkjlcpgjmaaQTopWordProblem7
import Derived.Test.YtnmklkjlcpgjmaaQTopWordProblem8
import Derived.Test.YtnmklkjlcpgjmaaQTopWordProblem9
import Derived.Test.YtnmklkjlcpgjmaaQTopWordProblem10
import Derived.Test.YtnmklkjlcpgjmaaQTopWordProblem11
import Derived.Test.YtnmklkjlcpgjmaaQTopWordProblem12
import Derived.Test.YtnmklkjlcpgjmaaQTopWordProblem13
import Derived.Test.YtnmklkjlcpgjmaaQTopWordProblem15
import Derived.Test.YtnmklkjlcpgjmaaQTopWordProblem16
import Derived.Test.YtnmklkjlcpgjmaaQTopWordProblem17
import Derived.Test.YtnmklkjlcpgjmaaQTopWordProblem18
import Derived.Test.YtnmklkjlcpgjmaaQTopWordProblem19
import Derived.Test.YtnmklkjlcpgjmaaQTopWordProblem20
import Derived.Test.YtnmklkjlcpgjmaaQTopWordProblem23
import Derived.Test.YtnmklkjlcpgjmaaQTopWordProblem29
import Derived.Test.YtnmklkjlcpgjmaaQTopWordProblem30
import Derived.Test.YtnmklkjlcpgjmaaQTopWordProblem31
import Derived.Test.YtnmklkjlcpgjmaaQTopWordProblem32
import Derived.Test.YtnmklkjlcpgjmaaQTopWordProblem33
import Derived.Test.YtnmklkjlcpgjmaaQTopWordProblem34
import Derived.Test.YtnmklkjlcpgjmaaQTopWordProblem35
import Derived.Test.YtnmklkjlcpgjmaaQTopWordProblem36
import Derived.Test.YtnmklkjlcpgjmaaQTopWordProblem37
import Derived.Test.YtnmklkjlcpgjmaaQTopWordProblem38
import Derived.Test.YtnmklkjlcpgjmaaQTopWordProblem39
import Derived.Test.YtnmklkjlcpgjmaaQTopWordProblem40
import Derived.Test.YtnmklkjlcpgjmaaQTopWordProblem41
import Derived.Test.YtnmklkjlcpgjmaaQTopWordProblem42
import Derived.Test.YtnmklkjlcpgjmaaQTopWordProblem43
import Derived.Test.YtnmklkjlcpgjmaaQTopWordProblem44
import Derived.Test.YtnmklkjlcpgjmaaQTopWordProblem45

namespace Go.Proofs.Ytnmklkjlcpgjmaa
open Go.RowKit Go.Sl

theorem not_long6 {n : Nat} {xs : List Int} (h : xs.length ≤ 6) : ¬ TooLong n xs := by
  rintro ⟨j, hj, r, hr, hl⟩
  have h1 := fold_len (xs.reverse.take j) (gensA n) 1 (fun r hr => by
    obtain ⟨i, _, rfl⟩ := List.mem_map.1 hr
    simp) r hr
  have h2 : (xs.reverse.take j).length ≤ 6 := by simp; omega
  have h3 : 3 ^ (xs.reverse.take j).length ≤ 3 ^ 6 := Nat.pow_le_pow_right (by omega) h2
  omega

set_option maxRecDepth 100000 in
set_option maxHeartbeats 2000000 in
/-- artin.Equal of words whose images are short. -/
theorem aequal_ok (n : Nat) (a b : Value) (xs ys : List Int) (w : World) (ha : Ints w a xs) (hb : Ints w b ys) (h1 : 2 ≤ n) (h2 : n ≤ 6) (hx : BWord n xs) (hy : BWord n ys) (hlx : xs.length ≤ 30) (hly : ys.length ≤ 30) (hnx : ¬ TooLong n xs) (hny : ¬ TooLong n ys) :
    Calls Try.prog 10 #[.int .i64 n, a, b] w fun e w' => e = .returned (.tuple #[.bool (decide (imagesA n xs = imagesA n ys)), .int .i64 0]) ∧ Below w.heap.size w w' := by
  have sa := ha.isSl
  have sb := hb.isSl
  have HA := Lib.hid ha; have HB := Lib.hid hb; have HX := Lib.hid hx; have HY := Lib.hid hy; have HLX := Lib.hid hlx; have HLY := Lib.hid hly; have HNX := Lib.hid hnx; have HNY := Lib.hid hny
  clear ha hb hx hy hlx hly hnx hny
  go_enter Try.func10, Try.ntmps10
  go_wp2_with fail
  refine (images_calls' n a xs _ HA.out h1 h2 HX.out HLX.out).mono ?_
  rintro e w1 ⟨u, er, rfl, su, ⟨rfl, h⟩ | ⟨rfl, us, hu⟩, hb1⟩
  · exact (HNX.out h).elim
  · have HU := Lib.hid hu; have HB1 := Lib.hid hb1; clear hu hb1
    obtain ⟨u1, u2, u3, rfl, -⟩ := su.cases
    go_wp2_with fail
    refine (images_calls' n b ys _ (HB.out.below HB1.out) h1 h2 HY.out HLY.out).mono ?_
    rintro e w2 ⟨v, er, rfl, sv, ⟨rfl, h⟩ | ⟨rfl, vs, hv⟩, hb2⟩
    · exact (HNY.out h).elim
    · have HV := Lib.hid hv; have HB2 := Lib.hid hb2; clear hv hb2
      obtain ⟨v1, v2, v3, rfl, -⟩ := sv.cases
      go_wp2_with fail
      refine (equalFunc_calls _ _ us vs (imagesA n xs) (imagesA n ys) _ (enters_some (Go.Proofs.enters_of Try.func24 (by kernel_rfl) rfl)) _ (HU.out.below HB2.out) HV.out (fun W c d xs ys h k => equal_calls c d xs ys W h k)).mono ?_
      rintro e w3 ⟨rfl, hb3⟩
      have HB3 := Lib.hid hb3; clear hb3
      go_wp2_with fail
      go_ret2
      exact ⟨rfl, Below.chain (Below.chain HB1.out HB2.out) HB3.out⟩

theorem tequal_nf : ∀ c d, Cn 3 (mulW 3 (0, []) [1, 2, 1]) c → Cn 3 (mulW 3 (0, []) [2, 1, 2]) d → c = d := fun c d hc hd =>
  cn_unique ((eqv_cn (by decide) (by decide) (braid_mul (n := 3) (by decide) (i := 0) (by decide) (s := (0, [])) (good_nil 3)) c).1 hc) hd
set_option maxRecDepth 100000 in
set_option maxHeartbeats 2000000 in
theorem tequal_calls (w : World) : Calls Try.prog 13 #[] w fun e w' => e = .returned (.bool true) ∧ Below w.heap.size w w' := by
  have hne : decide (imagesA 3 [1, 2] = imagesA 3 [2, 1]) = false := by decide
  obtain ⟨W2, hW2⟩ : ∃ W2, W2 = ((w.alloc (.cells #[.int .i64 1, .int .i64 2, .int .i64 1] 3)).alloc (.cells #[.int .i64 2, .int .i64 1, .int .i64 2] 3)) := ⟨_, rfl⟩
  have i1 : Ints W2 (.slice (some ⟨w.heap.size, 0, none⟩) 3 3) [1, 2, 1] := by rw [hW2]; exact (ints_lit [1, 2, 1] rfl rfl rfl (by decide)).alloc _
  have i2 : Ints W2 (.slice (some ⟨w.heap.size + 1, 0, none⟩) 3 3) [2, 1, 2] := by rw [hW2]; exact ints_lit [2, 1, 2] (by simp) rfl rfl (by decide)
  have b2 : Below w.heap.size w W2 := by rw [hW2]; exact ((Below.refl _ _).alloc (Nat.le_refl _) _).alloc (by simp) _
  have HC := Lib.hid (gequal_calls 3 _ _ _ _ W2 i1 i2 (by decide) (by decide) (by intro x hx; simp at hx; omega) (by intro x hx; simp at hx; omega) (by decide) (by decide))
  have HW := Lib.hid hW2.symm; have HB := Lib.hid b2; have HNE := Lib.hid hne
  clear hW2 i1 i2 b2 hne
  go_enter Try.func13, Try.ntmps13
  go_wp2_with fail
  rw [HW.out]
  refine HC.out.mono ?_
  rintro e w3 ⟨c, d, rfl, hc, hd, hb⟩
  rw [decide_eq_true (tequal_nf c d hc hd)]
  replace HB := Lib.hid (Below.chain HB.out hb)
  clear hc hd hb HC HW
  obtain ⟨W4, hW4⟩ : ∃ W4, W4 = ((w3.alloc (.cells #[.int .i64 1, .int .i64 2] 3)).alloc (.cells #[.int .i64 2, .int .i64 1] 3)) := ⟨_, rfl⟩
  have i1 : Ints W4 (.slice (some ⟨w3.heap.size, 0, none⟩) 2 2) [1, 2] := by rw [hW4]; exact (ints_lit [1, 2] rfl rfl rfl (by decide)).alloc _
  have i2 : Ints W4 (.slice (some ⟨w3.heap.size + 1, 0, none⟩) 2 2) [2, 1] := by rw [hW4]; exact ints_lit [2, 1] (by simp) rfl rfl (by decide)
  have b4 : Below w3.heap.size w3 W4 := by rw [hW4]; exact ((Below.refl _ _).alloc (Nat.le_refl _) _).alloc (by simp) _
  have HC := Lib.hid (aequal_ok 3 _ _ _ _ W4 i1 i2 (by decide) (by decide) (by intro x hx; simp at hx; omega) (by intro x hx; simp at hx; omega) (by decide) (by decide) (not_long6 (by decide)) (not_long6 (by decide)))
  rw [HNE.out] at HC
  have HW := Lib.hid hW4.symm
  replace HB := Lib.hid (Below.chain HB.out b4)
  clear hW4 i1 i2 b4
  go_wp2_with fail
  rw [HW.out]
  refine HC.out.mono ?_
  rintro e w5 ⟨rfl, hb⟩
  replace HB := Lib.hid (Below.chain HB.out hb)
  clear hb
  go_wp2_with fail
  go_ret
  exact ⟨rfl, HB.out⟩

end Go.Proofs.Ytnmklkjlcpgjmaa

