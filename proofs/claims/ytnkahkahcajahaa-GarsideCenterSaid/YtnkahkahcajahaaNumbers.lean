/- perm.Identity, Compare of slices, Clip, walked. -/
import Derived.Test.YtnkahkahcajahaaPerm
import Derived.Test.YtnkahkahcajahaaRankLaw
import Derived.Test.YtnkahkahcajahaaClip
namespace Go.Proofs.Ytnkahkahcajahaa
open Go.RowKit Go.Sl

theorem isnan_calls (x : Int) (w : World) :
    Calls Try.prog 140 #[.int .i64 x] w fun e w' => e = .returned (.bool false) ∧ w = w' := by
  go_enter Try.func140, Try.ntmps140
  go_wp2
  go_ret
  first | exact ⟨rfl, rfl⟩ | exact ⟨by simp, rfl⟩ | trace_state

def cmp1 (x y : Int) : Int := if x < y then -1 else if y < x then 1 else 0
theorem compare1_calls (x y : Int) (w : World) :
    Calls Try.prog 122 #[.int .i64 x, .int .i64 y] w fun e w' => e = .returned (.int .i64 (cmp1 x y)) ∧ w = w' := by
  by_cases h : x < y
  · go_enter Try.func122, Try.ntmps122
    go_wp2_with (first | (go_at_call 140; refine (isnan_calls _ _).mono ?_; rintro e1 w1 ⟨rfl, rfl⟩))
    go_ret
    exact ⟨ret_int' (by unfold cmp1; split <;> (try split) <;> omega), rfl⟩
  · by_cases h2 : y < x
    · go_enter Try.func122, Try.ntmps122
      go_wp2_with (first | (go_at_call 140; refine (isnan_calls _ _).mono ?_; rintro e1 w1 ⟨rfl, rfl⟩))
      go_ret
      exact ⟨ret_int' (by unfold cmp1; split <;> (try split) <;> omega), rfl⟩
    · go_enter Try.func122, Try.ntmps122
      go_wp2_with (first | (go_at_call 140; refine (isnan_calls _ _).mono ?_; rintro e1 w1 ⟨rfl, rfl⟩))
      go_ret
      exact ⟨ret_int' (by unfold cmp1; split <;> (try split) <;> omega), rfl⟩

set_option maxRecDepth 100000 in
theorem identity_calls (n : Nat) (w : World) (hn : n ≤ 1000) :
    Calls Try.prog 85 #[.int .i64 n] w fun e w' => ∃ v, e = .returned v ∧ OwnI w' w.heap.size v (iota n) ∧ Below w.heap.size w w' := by
  have hil : (iota n).length = n := by simp [iota]
  go_enter Try.func85, Try.ntmps85
  go_wp2_with (first
    | (at_make; refine wpList_make rfl _ _ rfl _ _ n rfl rfl rfl rfl (by omega) ?_; intro out w1 ho1 hg1 hlo hsz; have so := ho1.isSl))
  have hb1 : Below w.heap.size w w1 := Below_of_grown (Below.refl _ _) hg1 (Nat.le_refl _) (by intro k hk; cases hk)
  have HO := Lib.hid ho1; clear ho1 hg1
  have HS := Lib.hid hsz; clear hsz
  have HB := Lib.hid hb1; clear hb1
  go_loopw [9] (fun i wr => ∃ k : Nat, k ≤ n ∧ i = .int .i64 k ∧ OwnI wr w.heap.size out (fill (iota n) k) ∧ Below w.heap.size w wr) (fun i _ => n - (intOf i).toNat)
  case atStart => exact ⟨0, Nat.zero_le _, rfl, by rw [fill_zero, hil]; exact HO.out, HB.out⟩
  case round =>
    obtain ⟨k, hk, rfl, ho, hbr⟩ := hrel
    by_cases hlt : k < n
    · have hlf : (fill (iota n) k).length = n := by rw [fill_length _ _ (by rw [hil]; exact hk), hil]
      have c3 := ho.cell (k := k) (by omega)
      have f3 := ho.frozen (k := k) (by omega)
      have hset := ho.set (k := k) (by omega) (k : Int)
      have hbs := hbr.setCell (ho.ge (k := k) (by omega)) (.int .i64 (k : Int))
      have hnext := fill_set (iota n) k (by rw [hil]; exact hlt)
      rw [show nth (iota n) k = (k : Int) from by simp [iota, nth, hlt]] at hnext
      rw [hnext] at hset
      have HS1 := Lib.hid hset; clear hset
      have HS2 := Lib.hid hbs; clear hbs
      clear hnext hlf ho hbr
      go_wp2_with fail
      go_roundw
      case rel => exact ⟨k + 1, by omega, by go_num, HS1.out, HS2.out⟩
      case measure => simp [intOf]; omega
    · go_wp2_with fail
      go_ret
      have hk' : k = n := by omega
      subst hk'
      exact ⟨out, rfl, by rw [show fill (iota k) k = iota k from by have := fill_all (iota k); rwa [hil] at this] at ho; exact ho, hbr⟩

theorem cmpL_step {xs ys : List Int} {k : Nat} (h1 : k < xs.length) (h2 : k < ys.length) : cmpL (xs.drop k) (ys.drop k) = if cmp1 (nth xs k) (nth ys k) = 0 then cmpL (xs.drop (k + 1)) (ys.drop (k + 1)) else cmp1 (nth xs k) (nth ys k) := by
  rw [List.drop_eq_getElem_cons h1, List.drop_eq_getElem_cons h2, cmpL, nth_lt h1, nth_lt h2]
  unfold cmp1
  split
  · simp
  · split <;> simp

theorem compare_calls (a b : Value) (xs ys : List Int) (w : World) (ha : Ints w a xs) (hb : Ints w b ys) :
    Calls Try.prog 65 #[a, b] w fun e w' => e = .returned (.int .i64 (cmpL xs ys)) ∧ w = w' := by
  have sa := ha.isSl
  have sb := hb.isSl
  have la := ha.len
  have lb := hb.len
  have i63 := sa.i63
  have i64 := sb.i63
  rw [la] at i63
  rw [lb] at i64
  have HA := Lib.hid ha; clear ha
  have HB := Lib.hid hb; clear hb
  go_enter Try.func65, Try.ntmps65
  go_wp2_with fail
  go_loop [11] (fun i => ∃ k : Nat, k ≤ xs.length ∧ k ≤ ys.length ∧ i = .int .i64 k ∧ cmpL xs ys = cmpL (xs.drop k) (ys.drop k)) (fun i => xs.length - (intOf i).toNat)
  case atStart => exact ⟨0, Nat.zero_le _, Nat.zero_le _, rfl, rfl⟩
  case round =>
    obtain ⟨k, hk, hk', rfl, he⟩ := hrel
    have HE := Lib.hid he; clear he
    by_cases hlt : k < xs.length
    · have c1 := HA.out.cell hlt
      by_cases hlt2 : k < ys.length
      · have c2 := HB.out.cell hlt2
        have hst := cmpL_step hlt hlt2
        by_cases h0 : cmp1 (nth xs k) (nth ys k) = 0
        · rw [if_pos h0] at hst
          have HST := Lib.hid hst; clear hst
          go_wp2_with (first | (go_at_call 122; refine (compare1_calls _ _ _).mono ?_; rintro e1 w1 ⟨rfl, rfl⟩))
          go_roundw
          case rel => exact ⟨k + 1, by omega, by omega, by go_num, HE.out.trans HST.out⟩
          case measure => simp [intOf]; omega
        · rw [if_neg h0] at hst
          have HST := Lib.hid hst; clear hst
          have h0' : (cmp1 (nth xs k) (nth ys k) == 0) = false := by simp [h0]
          go_wp2_with (first | (go_at_call 122; refine (compare1_calls _ _ _).mono ?_; rintro e1 w1 ⟨rfl, rfl⟩))
          go_ret
          exact ⟨ret_int' (HE.out.trans HST.out).symm, rfl⟩
      · have he2 : cmpL (xs.drop k) (ys.drop k) = 1 := by
          have hd2 : ys.drop k = [] := List.drop_eq_nil_of_le (by omega)
          rw [List.drop_eq_getElem_cons hlt, hd2, cmpL]
        have HE2 := Lib.hid he2; clear he2
        go_wp2_with fail
        go_ret
        exact ⟨ret_int' (HE.out.trans HE2.out).symm, rfl⟩
    · have hd : xs.drop k = [] := List.drop_eq_nil_of_le (by omega)
      by_cases hlt2 : xs.length < ys.length
      · have he2 : cmpL (xs.drop k) (ys.drop k) = -1 := by
          rw [hd, List.drop_eq_getElem_cons (by omega), cmpL]
        have HE2 := Lib.hid he2; clear he2
        clear hd
        go_wp2_with fail
        go_ret
        exact ⟨ret_int' (HE.out.trans HE2.out).symm, rfl⟩
      · have he2 : cmpL (xs.drop k) (ys.drop k) = 0 := by
          have hd2 : ys.drop k = [] := List.drop_eq_nil_of_le (by omega)
          rw [hd, hd2, cmpL]
        have HE2 := Lib.hid he2; clear he2
        clear hd
        go_wp2_with fail
        go_ret
        exact ⟨ret_int' (HE.out.trans HE2.out).symm, rfl⟩

end Go.Proofs.Ytnkahkahcajahaa
