/- Words: the makers' Letter and Word, Check; the reduced word. -/
import Derived.Test.YtnmklkjlcpgjmaaQDehornoyRelations0
import Derived.Test.YtnmklkjlcpgjmaaQDehornoyRelations1
import Derived.Test.YtnmklkjlcpgjmaaQDehornoyRelations2
import Derived.Test.YtnmklkjlcpgjmaaQDehornoyRelations3
import Derived.Test.YtnmklkjlcpgjmaaQDehornoyRelations9
import Derived.Test.YtnmklkjlcpgjmaaQDehornoyRelations10
import Derived.Deep.RegionLaw
namespace Go.Proofs.Ytnmklkjlcpgjmaa
open Go.RowKit Go.Sl

def letterOf (top x : Int) : Int := if x % (2 * top) < top then x % (2 * top) + 1 else -(x % (2 * top) - top + 1)
def wordL (top : Int) (raw : List Int) (most : Nat) : List Int := (raw.take most).map (letterOf top)
def IsWord (xs : List Int) : Prop := ∀ x ∈ xs, x ≠ 0 ∧ -6 ≤ x ∧ x ≤ 6
theorem wordL_length (top : Int) (raw : List Int) (n : Nat) : (wordL top raw n).length ≤ n := by simp [wordL]; omega

theorem letter_calls (x top : Int) (w : World) (hx : I64 x) (h : 0 < top) (hm : top ≤ 1000) :
    Calls Try.prog 9 #[.int .i64 x, .int .i64 top] w fun e w' => e = .returned (.int .i64 (letterOf top x)) ∧ w = w' := by
  have hb1 := Int.emod_nonneg x (b := 2 * top) (by omega)
  have hb2 := Int.emod_lt_of_pos x (b := 2 * top) (by omega)
  obtain ⟨k, hk⟩ : ∃ k, x % (2 * top) = k := ⟨_, rfl⟩
  rw [hk] at hb1 hb2
  have HK := Lib.hid hk; clear hk
  have hfin : letterOf top x = if k < top then k + 1 else -(k - top + 1) := by unfold letterOf; rw [HK.out]
  have HF := Lib.hid hfin; clear hfin
  by_cases hlt : k < top
  · go_enter Try.func9, Try.ntmps9
    go_wp2_with (first
      | (go_at_call 18; refine (below_calls x (2 * top) _ (by omega) (by omega) hx).mono ?_; rintro e w' ⟨rfl, rfl⟩; rw [HK.out]))
    go_ret
    exact ⟨ret_int' (by rw [HF.out, if_pos hlt]), rfl⟩
  · go_enter Try.func9, Try.ntmps9
    go_wp2_with (first
      | (go_at_call 18; refine (below_calls x (2 * top) _ (by omega) (by omega) hx).mono ?_; rintro e w' ⟨rfl, rfl⟩; rw [HK.out]))
    go_ret
    exact ⟨ret_int' (by rw [HF.out, if_neg (by omega)]), rfl⟩

set_option maxRecDepth 100000 in
theorem word_calls (top : Int) (raw : Value) (zs : List Int) (most : Nat) (w : World) (hr : Ints w raw zs) (hz : ∀ z ∈ zs, I64 z) (h0 : 0 < top) (h1 : top ≤ 1000) (hm : most ≤ 1000) :
    Calls Try.prog 6 #[.int .i64 top, raw, .int .i64 most] w fun e w' => ∃ v, e = .returned v ∧ OwnI w' w.heap.size v (wordL top zs most) ∧ Below w.heap.size w w' := by
  have sr := hr.isSl
  have lr := hr.len
  have hcap := hr.cap
  obtain ⟨ys, hys⟩ : ∃ ys, ys = zs.take most := ⟨_, rfl⟩
  have hgoal : wordL top zs most = ys.map (letterOf top) := by rw [hys]; rfl
  rw [hgoal]
  clear hgoal
  obtain ⟨L, hL⟩ : ∃ L, L = zs.length := ⟨_, rfl⟩
  rw [← hL] at lr hcap
  have i63 := sr.i63
  rw [lr] at i63
  obtain ⟨n, hn⟩ : ∃ n, n = min L most := ⟨_, rfl⟩
  have hn1 : n ≤ L := by omega
  have hn2 : n ≤ most := by omega
  have htk : zs.take n = ys := by
    rw [hys, hn, hL, List.take_eq_take_iff]; omega
  have hcut : Ints w (vcut raw 0 n (vcap raw) 1) ys := by
    have := hr.cut (l := 0) (r := n) (m := vcap raw) (by omega) (by omega) (by omega) (by omega)
    rw [← htk]
    simpa using this
  have hlt' : ys.length = n := by rw [← htk]; simp; omega
  have hyz : ∀ y ∈ ys, I64 y := fun y hy => hz y (List.mem_of_mem_take (by rw [htk]; exact hy))
  have hcase : (most < L ∧ n = most) ∨ (¬ most < L ∧ n = L) := by omega
  clear hn hys htk hL
  have hnc : n ≤ vcap raw := by omega
  have HC := Lib.hid hcut; clear hcut
  have sc := HC.out.isSl
  have lc := HC.out.len
  rw [hlt'] at lc
  have HL := Lib.hid hlt'; clear hlt'
  clear hr hz
  have HZ := Lib.hid hyz; clear hyz
  rcases hcase with ⟨hms, hh⟩ | ⟨hms, hh⟩
  all_goals
    subst hh
    go_enter Try.func6, Try.ntmps6
    go_wp2_with fail
    go_loopw [7, 17] (fun out i wr => ∃ k : Nat, k ≤ n ∧ i = .int .i64 k ∧ OwnI wr w.heap.size out ((ys.take k).map (letterOf top)) ∧ Below w.heap.size w wr) (fun _ i _ => n - (intOf i).toNat)
    case atStart => exact ⟨0, Nat.zero_le _, rfl, ownI_nil _ _, Below.refl _ _⟩
    case round =>
      obtain ⟨k, hk, rfl, ho, hbr⟩ := hrel
      have hbs := hbr.size
      by_cases hlt : k < n
      · have c1 := (HC.out.below hbr).cell (k := k) (by rw [HL.out]; exact hlt)
        have hi : I64 (nth ys k) := HZ.out _ (nth_mem (by rw [HL.out]; exact hlt))
        have hll : ((ys.take k).map (letterOf top)).length ≤ 1000 := by simp; omega
        have hnx : (ys.take k).map (letterOf top) ++ [letterOf top (nth ys k)] = (ys.take (k + 1)).map (letterOf top) := by
          have hk2 : k < ys.length := by rw [HL.out]; exact hlt
          rw [List.take_succ_eq_append_getElem hk2, List.map_append, nth_lt hk2]; rfl
        have HX := Lib.hid hnx; clear hnx
        have HBR := Lib.hid hbr; clear hbr
        go_wp2_with (first
          | (go_at_call 9; refine (letter_calls _ top _ hi h0 h1).mono ?_; rintro e w' ⟨rfl, rfl⟩)
          | (at_builtin; refine wpList_push (v := u7) rfl _ _ rfl rfl rfl ho hbs (by omega) ?_; intro out2 w2 ho2 hg2 hr2))
        rw [HX.out] at ho2
        have hb2 : Below w.heap.size w w2 := Below_of_grown HBR.out hg2 hbs (fun b hb => (ho.lt b hb).1)
        go_roundw
        case rel => exact ⟨k + 1, by omega, by go_num, ho2, hb2⟩
        case measure => simp [intOf]; omega
      · go_wp2_with fail
        go_ret
        have hk' : k = n := by omega
        subst hk'
        exact ⟨u7, rfl, by rw [List.take_of_length_le (by rw [HL.out]; exact Nat.le_refl _)] at ho; exact ho, hbr⟩

end Go.Proofs.Ytnmklkjlcpgjmaa

