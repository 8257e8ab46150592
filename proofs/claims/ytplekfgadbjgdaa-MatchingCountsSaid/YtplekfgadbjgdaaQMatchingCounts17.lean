/- perm.Identity, Compare of slices, Clip, walked. -/
import Derived.Test.YtplekfgadbjgdaaQMatchingCounts0
import Derived.Test.YtplekfgadbjgdaaQMatchingCounts1
import Derived.Test.YtplekfgadbjgdaaQMatchingCounts10
import Derived.Test.YtplekfgadbjgdaaQMatchingCounts11
import Derived.Test.YtplekfgadbjgdaaQMatchingCounts14
import Derived.Test.YtplekfgadbjgdaaQMatchingCounts15
import Derived.Deep.RegionLaw
namespace Go.Proofs.Ytplekfgadbjgdaa
open Go.RowKit Go.Sl

theorem isnan_calls (x : Int) (w : World) :
    Calls Try.prog 105 #[.int .i64 x] w fun e w' => e = .returned (.bool false) ∧ w = w' := by
  go_enter Try.func105, Try.ntmps105
  go_wp2
  go_ret
  first | exact ⟨rfl, rfl⟩ | exact ⟨by simp, rfl⟩ | trace_state

def cmp1 (x y : Int) : Int := if x < y then -1 else if y < x then 1 else 0
theorem compare1_calls (x y : Int) (w : World) :
    Calls Try.prog 65 #[.int .i64 x, .int .i64 y] w fun e w' => e = .returned (.int .i64 (cmp1 x y)) ∧ w = w' := by
  by_cases h : x < y
  · go_enter Try.func65, Try.ntmps65
    go_wp2_with (first | (go_at_call 105; refine (isnan_calls _ _).mono ?_; rintro e1 w1 ⟨rfl, rfl⟩))
    go_ret
    exact ⟨ret_int' (by unfold cmp1; split <;> (try split) <;> omega), rfl⟩
  · by_cases h2 : y < x
    · go_enter Try.func65, Try.ntmps65
      go_wp2_with (first | (go_at_call 105; refine (isnan_calls _ _).mono ?_; rintro e1 w1 ⟨rfl, rfl⟩))
      go_ret
      exact ⟨ret_int' (by unfold cmp1; split <;> (try split) <;> omega), rfl⟩
    · go_enter Try.func65, Try.ntmps65
      go_wp2_with (first | (go_at_call 105; refine (isnan_calls _ _).mono ?_; rintro e1 w1 ⟨rfl, rfl⟩))
      go_ret
      exact ⟨ret_int' (by unfold cmp1; split <;> (try split) <;> omega), rfl⟩

theorem cmpL_step {xs ys : List Int} {k : Nat} (h1 : k < xs.length) (h2 : k < ys.length) : cmpL (xs.drop k) (ys.drop k) = if cmp1 (nth xs k) (nth ys k) = 0 then cmpL (xs.drop (k + 1)) (ys.drop (k + 1)) else cmp1 (nth xs k) (nth ys k) := by
  rw [List.drop_eq_getElem_cons h1, List.drop_eq_getElem_cons h2, cmpL, nth_lt h1, nth_lt h2]
  unfold cmp1
  split
  · simp
  · split <;> simp

theorem compare_calls (a b : Value) (xs ys : List Int) (w : World) (ha : Ints w a xs) (hb : Ints w b ys) :
    Calls Try.prog 17 #[a, b] w fun e w' => e = .returned (.int .i64 (cmpL xs ys)) ∧ w = w' := by
  have sa := ha.isSl
  have sb := hb.isSl
  have la := ha.len
  have lb := hb.len
  have i63 := sa.i63
  have i64 := sb.i63
  rw [la] at i63
  rw [lb] at i64
  have HA := Lib.hid ha; clear ha
  have HB := Lib.hid hb; clear hb
  go_enter Try.func17, Try.ntmps17
  go_wp2_with fail
  go_loop [11] (fun i => ∃ k : Nat, k ≤ xs.length ∧ k ≤ ys.length ∧ i = .int .i64 k ∧ cmpL xs ys = cmpL (xs.drop k) (ys.drop k)) (fun i => xs.length - (intOf i).toNat)
  case atStart => exact ⟨0, Nat.zero_le _, Nat.zero_le _, rfl, rfl⟩
  case round =>
    obtain ⟨k, hk, hk', rfl, he⟩ := hrel
    have HE := Lib.hid he; clear he
    by_cases hlt : k < xs.length
    · have c1 := HA.out.cell hlt
      by_cases hlt2 : k < ys.length
      · have c2 := HB.out.cell hlt2
        have hst := cmpL_step hlt hlt2
        by_cases h0 : cmp1 (nth xs k) (nth ys k) = 0
        · rw [if_pos h0] at hst
          have HST := Lib.hid hst; clear hst
          go_wp2_with (first | (go_at_call 65; refine (compare1_calls _ _ _).mono ?_; rintro e1 w1 ⟨rfl, rfl⟩))
          go_roundw
          case rel => exact ⟨k + 1, by omega, by omega, by go_num, HE.out.trans HST.out⟩
          case measure => simp [intOf]; omega
        · rw [if_neg h0] at hst
          have HST := Lib.hid hst; clear hst
          have h0' : (cmp1 (nth xs k) (nth ys k) == 0) = false := by simp [h0]
          go_wp2_with (first | (go_at_call 65; refine (compare1_calls _ _ _).mono ?_; rintro e1 w1 ⟨rfl, rfl⟩))
          go_ret
          exact ⟨ret_int' (HE.out.trans HST.out).symm, rfl⟩
      · have he2 : cmpL (xs.drop k) (ys.drop k) = 1 := by
          have hd2 : ys.drop k = [] := List.drop_eq_nil_of_le (by omega)
          rw [List.drop_eq_getElem_cons hlt, hd2, cmpL]
        have HE2 := Lib.hid he2; clear he2
        go_wp2_with fail
        go_ret
        exact ⟨ret_int' (HE.out.trans HE2.out).symm, rfl⟩
    · have hd : xs.drop k = [] := List.drop_eq_nil_of_le (by omega)
      by_cases hlt2 : xs.length < ys.length
      · have he2 : cmpL (xs.drop k) (ys.drop k) = -1 := by
          rw [hd, List.drop_eq_getElem_cons (by omega), cmpL]
        have HE2 := Lib.hid he2; clear he2
        clear hd
        go_wp2_with fail
        go_ret
        exact ⟨ret_int' (HE.out.trans HE2.out).symm, rfl⟩
      · have he2 : cmpL (xs.drop k) (ys.drop k) = 0 := by
          have hd2 : ys.drop k = [] := List.drop_eq_nil_of_le (by omega)
          rw [hd, hd2, cmpL]
        have HE2 := Lib.hid he2; clear he2
        clear hd
        go_wp2_with fail
        go_ret
        exact ⟨ret_int' (HE.out.trans HE2.out).symm, rfl⟩

end Go.Proofs.Ytplekfgadbjgdaa

