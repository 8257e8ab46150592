/- timbmake.Move walked: what it may return. -/
import Derived.Test.YtmcecmnbdcbehaaQMarkovLocal0
import Derived.Test.YtmcecmnbdcbehaaQMarkovLocal1
import Derived.Test.YtmcecmnbdcbehaaQMarkovLocal2
import Derived.Test.YtmcecmnbdcbehaaQMarkovLocal3
import Derived.Test.YtmcecmnbdcbehaaQMarkovLocal4
import Derived.Test.YtmcecmnbdcbehaaQMarkovLocal5
import Derived.Test.YtmcecmnbdcbehaaQMarkovLocal6
import Derived.Test.YtmcecmnbdcbehaaQMarkovLocal8
import Derived.Test.YtmcecmnbdcbehaaQMarkovLocal9
import Derived.Test.YtmcecmnbdcbehaaQMarkovLocal10
import Derived.Test.YtmcecmnbdcbehaaQMarkovLocal11
import Derived.Test.YtmcecmnbdcbehaaQMarkovLocal12
import Derived.Test.YtmcecmnbdcbehaaQMarkovLocal13
import Derived.Test.YtmcecmnbdcbehaaQMarkovLocal14
import Derived.Test.YtmcecmnbdcbehaaQMarkovLocal15
import Derived.Test.YtmcecmnbdcbehaaQMarkovLocal16
import Derived.Test.YtmcecmnbdcbehaaQMarkovLocal17
import Derived.Test.YtmcecmnbdcbehaaQMarkovLocal18
import Derived.Test.YtmcecmnbdcbehaaQMarkovLocal19
import Derived.Test.YtmcecmnbdcbehaaQMarkovLocal20
import Derived.Test.YtmcecmnbdcbehaaQMarkovLocal21
import Derived.Test.YtmcecmnbdcbehaaQMarkovLocal24
import Derived.Test.YtmcecmnbdcbehaaQMarkovLocal26
import Derived.RangeFuncNested
import Derived.RangeFuncBound
import Derived.RangeFuncCalls
import Derived.RangeFuncLeaves
import Derived.RangeFuncBox
import Derived.Shelf.Abstract
import Derived.Shelf.RegionOpen
import Derived.OwnWalkIn
import Derived.TacticsInMore
import Derived.LoopNIn
import Derived.LoopIn
import Derived.Maps.AppendAt
namespace Go.Proofs.Ytmcecmnbdcbehaa
open Go.RowKit Go.Sl Go.Maps

theorem move_calls (n : Int) (v : Value) (xs : List Int) (kind at_ letter : Int) (w : World) (hv : Ints w v xs) (hn : 2 ≤ n) (hn6 : n ≤ 6) (hl : xs.length ≤ 1000) (h1 : I64 kind) (h2 : I64 at_) (h3 : I64 letter) :
    Calls Try.prog 38 #[.int .i64 n, v, .int .i64 kind, .int .i64 at_, .int .i64 letter] w fun e w' => ∃ (k j : Nat) (l : Int), e = .returned (.agg #[.int .i64 k, .int .i64 j, .int .i64 l]) ∧ (1 ≤ k ∧ k ≤ 7) ∧ j ≤ xs.length ∧ (k = 1 → l ≠ 0 ∧ -n < l ∧ l < n) ∧ (k ≠ 1 → l = 1 ∨ l = -1) ∧ Below w.heap.size w w' := by
  have sv := hv.isSl
  have lv := hv.len
  have hb1 := Int.emod_nonneg kind (b := 7) (by omega)
  have hb2 := Int.emod_lt_of_pos kind (b := 7) (by omega)
  have hb3 := Int.emod_nonneg at_ (b := (xs.length : Int) + 1) (by omega)
  have hb4 := Int.emod_lt_of_pos at_ (b := (xs.length : Int) + 1) (by omega)
  have HB1 := Lib.hid (fun w => below_calls kind 7 w (by omega) (by omega) h1)
  have HB2 := Lib.hid (fun w => below_calls at_ (xs.length + 1) w (by omega) (by omega) h2)
  obtain ⟨K, hK⟩ : ∃ K, kind % 7 = K := ⟨_, rfl⟩
  obtain ⟨J, hJ⟩ : ∃ J, at_ % ((xs.length : Int) + 1) = J := ⟨_, rfl⟩
  rw [hK] at hb1 hb2
  rw [hK] at HB1
  rw [hJ] at hb3 hb4
  rw [hJ] at HB2
  clear hK hJ
  obtain ⟨K', rfl⟩ := Int.eq_ofNat_of_zero_le hb1
  obtain ⟨J', rfl⟩ := Int.eq_ofNat_of_zero_le hb3
  have HL := Lib.hid (fun w => letter_calls letter (n - 1) w h3 (by omega) (by omega))
  have hlet : letterOf (n - 1) letter ≠ 0 ∧ -n < letterOf (n - 1) letter ∧ letterOf (n - 1) letter < n := by
    have a1 := Int.emod_nonneg letter (b := 2 * (n - 1)) (by omega)
    have a2 := Int.emod_lt_of_pos letter (b := 2 * (n - 1)) (by omega)
    unfold letterOf
    split <;> omega
  obtain ⟨T, hT⟩ : ∃ T, letterOf (n - 1) letter = T := ⟨_, rfl⟩
  rw [hT] at HL hlet
  clear hT
  have w1 : IntKind.i64.wrap ((xs.length : Int) + 1) = (xs.length : Int) + 1 := IntWalk.i64_in _ ⟨by omega, by omega⟩
  have w2 : IntKind.i64.wrap (1 + (K' : Int)) = 1 + (K' : Int) := IntWalk.i64_in _ ⟨by omega, by omega⟩
  have w3 : IntKind.i64.wrap (n - 1) = n - 1 := IntWalk.i64_in _ ⟨by omega, by omega⟩
  have n1 : decide (n > 1) = true := by simp; omega
  have n1' : decide (1 < n) = true := n1
  obtain ⟨b, hbb⟩ : ∃ b : Bool, (letter.tmod 2 != 0) = b := ⟨_, rfl⟩
  obtain ⟨q, hqq⟩ : ∃ q : Bool, ((1 + (K' : Int)) == 1) = q := ⟨_, rfl⟩
  have hq1 : q = true → K' = 0 := by rintro rfl; rw [beq_iff_eq] at hqq; omega
  have hq0 : q = false → K' ≠ 0 := by rintro rfl; rw [beq_eq_false_iff_ne] at hqq; omega
  have HQ1 := Lib.hid hq1; have HQ0 := Lib.hid hq0; have HLT := Lib.hid hlet
  clear hv hq1 hq0 hlet
  cases b <;> cases q
  all_goals
    go_enter Try.func38, Try.ntmps38
    go_wp2_with fail
    refine (HB1.out _).mono ?_
    rintro e w' ⟨rfl, rfl⟩
    go_wp2_with fail
    refine (HB2.out _).mono ?_
    rintro e w' ⟨rfl, rfl⟩
    go_wp2_with fail
    try (refine (HL.out _).mono ?_; rintro e w' ⟨rfl, rfl⟩; go_wp2_with fail)
  · have h0 := HQ0.out (by simp)
    refine bodyPost_ret (v := .agg #[.int .i64 (1 + K'), .int .i64 J', .int .i64 1]) (by simp [results, Try.results38, go_sem]) rfl ⟨1 + K', J', 1, by simp, by omega, by omega, fun h => by omega, fun _ => .inl rfl, ((Below.refl _ _).alloc (Nat.le_refl _) _).alloc (by simp) _⟩
  · have h0 := HQ1.out (by simp)
    refine bodyPost_ret (v := .agg #[.int .i64 (1 + K'), .int .i64 J', .int .i64 T]) (by simp [results, Try.results38, go_sem]) rfl ⟨1 + K', J', T, by simp, by omega, by omega, fun _ => HLT.out, fun h => by omega, ((Below.refl _ _).alloc (Nat.le_refl _) _).alloc (by simp) _⟩
  · have h0 := HQ0.out (by simp)
    refine bodyPost_ret (v := .agg #[.int .i64 (1 + K'), .int .i64 J', .int .i64 (-1)]) (by simp [results, Try.results38, go_sem]) rfl ⟨1 + K', J', -1, by simp, by omega, by omega, fun h => by omega, fun _ => .inr rfl, ((Below.refl _ _).alloc (Nat.le_refl _) _).alloc (by simp) _⟩
  · have h0 := HQ1.out (by simp)
    refine bodyPost_ret (v := .agg #[.int .i64 (1 + K'), .int .i64 J', .int .i64 T]) (by simp [results, Try.results38, go_sem]) rfl ⟨1 + K', J', T, by simp, by omega, by omega, fun _ => HLT.out, fun h => by omega, ((Below.refl _ _).alloc (Nat.le_refl _) _).alloc (by simp) _⟩

end Go.Proofs.Ytmcecmnbdcbehaa

