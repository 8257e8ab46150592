/- Moves between closed braids: markov.perform (Conjugate, Stabilize, Destabilize) and Apply walked. -/
import Derived.Test.YtmcecmnbdcbehaaQMarkovLocal0
import Derived.Test.YtmcecmnbdcbehaaQMarkovLocal1
import Derived.Test.YtmcecmnbdcbehaaQMarkovLocal2
import Derived.Test.YtmcecmnbdcbehaaQMarkovLocal3
import Derived.Test.YtmcecmnbdcbehaaQMarkovLocal4
import Derived.Test.YtmcecmnbdcbehaaQMarkovLocal5
import Derived.Test.YtmcecmnbdcbehaaQMarkovLocal6
import Derived.Test.YtmcecmnbdcbehaaQMarkovLocal8
import Derived.Test.YtmcecmnbdcbehaaQMarkovLocal9
import Derived.Test.YtmcecmnbdcbehaaQMarkovLocal10
import Derived.Test.YtmcecmnbdcbehaaQMarkovLocal11
import Derived.Test.YtmcecmnbdcbehaaQMarkovLocal12
import Derived.Test.YtmcecmnbdcbehaaQMarkovLocal13
import Derived.Test.YtmcecmnbdcbehaaQMarkovLocal14
import Derived.Test.YtmcecmnbdcbehaaQMarkovLocal15
import Derived.Test.YtmcecmnbdcbehaaQMarkovLocal16
import Derived.Test.YtmcecmnbdcbehaaQMarkovLocal17
import Derived.Test.YtmcecmnbdcbehaaQMarkovLocal18
import Derived.Test.YtmcecmnbdcbehaaQMarkovLocal19
import Derived.Test.YtmcecmnbdcbehaaQMarkovLocal20
import Derived.Test.YtmcecmnbdcbehaaQMarkovLocal21
import Derived.Test.YtmcecmnbdcbehaaQMarkovLocal24
import Derived.RangeFuncNested
import Derived.RangeFuncBound
import Derived.RangeFuncCalls
import Derived.RangeFuncLeaves
import Derived.RangeFuncBox
import Derived.Shelf.Abstract
import Derived.Shelf.RegionOpen
import Derived.OwnWalkIn
import Derived.TacticsInMore
import Derived.LoopNIn
import Derived.LoopIn
import Derived.Maps.AppendAt
namespace Go.Proofs.Ytmcecmnbdcbehaa
open Go.RowKit Go.Sl Go.Maps

theorem perform5_nil (n : Int) (v : Value) (xs : List Int) (j : Nat) (l : Int) (w : World) (hv : Ints w v xs) (hn : 1 ≤ n) (hn6 : n ≤ 6) (hl : xs.length = 0) :
    Calls Try.prog 93 #[.int .i64 n, v, .agg #[.int .i64 5, .int .i64 j, .int .i64 l]] w fun e w' => ∃ u, e = .returned (.tuple #[.int .i64 0, u, .int .i64 4]) ∧ OwnI w' w.heap.size u [] ∧ Below w.heap.size w w' := by
  have sv := hv.isSl
  have lv := hv.len
  have hb1 : Below w.heap.size w (w.alloc (.cells #[.int .i64 5, .int .i64 j, .int .i64 l] 57)) := (Below.refl _ _).alloc (Nat.le_refl _) _
  have HB := Lib.hid hb1
  rw [hl] at lv
  clear hv hb1 hl
  go_enter Try.func93, Try.ntmps93
  go_wp2_with fail
  go_ret3
  exact ⟨_, rfl, ownI_nil _ _, HB.out⟩

set_option maxRecDepth 100000 in
theorem perform5_some (n : Int) (v : Value) (xs : List Int) (j : Nat) (l : Int) (w : World) (hv : Ints w v xs) (hn : 1 ≤ n) (hn6 : n ≤ 6) (hl : xs.length ≤ 1000) (h0 : 1 ≤ xs.length) :
    Calls Try.prog 93 #[.int .i64 n, v, .agg #[.int .i64 5, .int .i64 j, .int .i64 l]] w fun e w' => ∃ u, e = .returned (.tuple #[.int .i64 n, u, .int .i64 0]) ∧ OwnI w' w.heap.size u (xs.drop 1 ++ xs.take 1) ∧ Below w.heap.size w w' := by
  have sv := hv.isSl
  have lv := hv.len
  have hcap := hv.cap
  have hb1 : Below w.heap.size w (w.alloc (.cells #[.int .i64 5, .int .i64 j, .int .i64 l] 57)) := (Below.refl _ _).alloc (Nat.le_refl _) _
  have hv1 := hv.below hb1
  have hc1 := hv1.cut (l := 1) (r := xs.length) (m := vcap v) h0 (Nat.le_refl _) hcap (Nat.le_refl _)
  have hc2 := hv1.cut (l := 0) (r := 1) (m := vcap v) (Nat.zero_le _) h0 (by omega) (Nat.le_refl _)
  have sc1 := hc1.isSl
  have sc2 := hc2.isSl
  have HB := Lib.hid hb1
  have hne : ((xs.length : Int) == 0) = false := by rw [beq_eq_false_iff_ne]; omega
  have q1 : (1 : Int) ≤ (xs.length : Int) := by omega
  have q2 : (1 : Int) ≤ ((vcap v : Nat) : Int) := by omega
  have q3 : (xs.length : Int) ≤ ((vcap v : Nat) : Int) := by omega
  obtain ⟨x1, x2, x3, hx1, -⟩ := sc1.cases
  obtain ⟨y1, y2, y3, hy1, -⟩ := sc2.cases
  rw [hx1] at hc1
  rw [hy1] at hc2
  have HC1' := Lib.hid hc1; have HC2' := Lib.hid hc2
  clear hv hv1 hb1 hc1 hc2
  go_enter Try.func93, Try.ntmps93
  go_wp2_with fail
  obtain ⟨V, hV⟩ : ∃ V, V = w.alloc (.cells #[.int .i64 5, .int .i64 j, .int .i64 l] 57) := ⟨_, rfl⟩
  rw [← hV]
  have z1 := HC1'.out.below (Below.refl _ _).drew
  have z2 := HC2'.out.below (Below.refl _ _).drew
  have zb := HB.out.drew
  rw [← hV] at z1 z2 zb
  have ZC := Lib.hid (concat_calls _ [.slice x1 x2 x3, .slice y1 y2 y3] [(xs.drop 1).take (xs.length - 1), (xs.drop 0).take (1 - 0)] _ (rowsV_2 z1 z2) (by simp; omega))
  have ZB := Lib.hid (Below.chain zb ((Below.refl _ _).alloc (Nat.le_refl _) (.cells #[.slice x1 x2 x3, .slice y1 y2 y3] 25)))
  clear hV z1 z2 zb
  have he : [(xs.drop 1).take (xs.length - 1), (xs.drop 0).take (1 - 0)].flatten = xs.drop 1 ++ xs.take 1 := by
    rw [List.take_of_length_le (l := xs.drop 1) (by simp)]; simp
  rw [he] at ZC
  clear he
  go_region_held3 (fun _ => True) (trivial) ((go_at_call 147; refine ZC.out.mono ?_; rintro e w' ⟨o, rfl, ho, hbo⟩; have so := ho.isSl; have HO := Lib.hid (ho.low (by have := ZB.out.size; exact this)); have HBO := Lib.hid (Below.chain ZB.out hbo); clear ho hbo))
  all_goals
    go_wp2_with fail
    go_ret3
    exact ⟨_, rfl, HO.out, HBO.out⟩

theorem perform6_calls (n : Int) (v : Value) (xs : List Int) (j : Nat) (l : Int) (w : World) (hv : Ints w v xs) (hn : 1 ≤ n) (hn6 : n ≤ 6) (hl : xs.length ≤ 1000) (hll : l = 1 ∨ l = -1) :
    Calls Try.prog 93 #[.int .i64 n, v, .agg #[.int .i64 6, .int .i64 j, .int .i64 l]] w fun e w' => ∃ u, e = .returned (.tuple #[.int .i64 (n + 1), u, .int .i64 0]) ∧ OwnI w' w.heap.size u (xs ++ [l * n]) ∧ Below w.heap.size w w' := by
  have sv := hv.isSl
  have lv := hv.len
  have hb1 : Below w.heap.size w (w.alloc (.cells #[.int .i64 6, .int .i64 j, .int .i64 l] 57)) := (Below.refl _ _).alloc (Nat.le_refl _) _
  have hv1 := hv.below hb1
  have HB := Lib.hid hb1
  have HV := Lib.hid hv1
  have w1 : IntKind.i64.wrap (n + 1) = n + 1 := IntWalk.i64_in _ ⟨by omega, by omega⟩
  have w2 : IntKind.i64.wrap (l * n) = l * n := by rcases hll with rfl | rfl <;> exact IntWalk.i64_in _ ⟨by omega, by omega⟩
  clear hv hv1 hb1
  have main : ∀ z : Int, ∃ W, W = ((w.alloc (.cells #[.int .i64 6, .int .i64 j, .int .i64 l] 57)).alloc (.cells #[.int .i64 z] 3)) ∧ Hid (Calls Try.prog 147 #[.slice (some ⟨w.heap.size + 1 + 1, 0, none⟩) 2 2] (W.alloc (.cells #[v, .slice (some ⟨w.heap.size + 1, 0, none⟩) 1 1] 25)) fun e w' => ∃ u, e = .returned u ∧ OwnI w' w.heap.size u (xs ++ [z]) ∧ Below w.heap.size w w') := by
    intro z
    refine ⟨_, rfl, Lib.hid ?_⟩
    obtain ⟨W1, hW1⟩ : ∃ W1, W1 = w.alloc (.cells #[.int .i64 6, .int .i64 j, .int .i64 l] 57) := ⟨_, rfl⟩
    have h1 := HV.out
    have hb := HB.out
    rw [← hW1] at h1 hb ⊢
    have hs : W1.heap.size = w.heap.size + 1 := by rw [hW1]; simp
    have hl1 : Ints (W1.alloc (.cells #[.int .i64 z] 3)) (.slice (some ⟨w.heap.size + 1, 0, none⟩) 1 1) [z] := ints_lit [z] hs.symm rfl rfl (by simp)
    have hr := rowsV_2 (h1.alloc (.cells #[.int .i64 z] 3)) hl1
    rw [World.size_alloc, hs] at hr
    have hb2 : Below w.heap.size w ((W1.alloc (.cells #[.int .i64 z] 3)).alloc (.cells #[v, .slice (some ⟨w.heap.size + 1, 0, none⟩) 1 1] 25)) := Below.chain hb (((Below.refl _ _).alloc (Nat.le_refl _) _).alloc (by simp) _)
    refine (concat_calls _ _ _ _ hr (by simp; omega)).mono ?_
    rintro e w' ⟨u, rfl, ho, hbo⟩
    refine ⟨u, rfl, ?_, Below.chain hb2 hbo⟩
    have := ho.low hb2.size
    simpa using this
  obtain ⟨W, hW, HC⟩ := main (l * n)
  clear main
  have e1 : (1 : Int) * n = n := by omega
  have e2 : (-1 : Int) * n = -n := by omega
  rcases hll with rfl | rfl
  all_goals
    (first | rw [e1] at hW HC ⊢ | rw [e2] at hW HC ⊢)
    have HW := Lib.hid hW
    clear hW
    go_enter Try.func93, Try.ntmps93
    go_wp2_with fail
    rw [← HW.out]
    refine HC.out.mono ?_
    rintro e w' ⟨u, rfl, ho, hbo⟩
    have so := ho.isSl
    have HO := Lib.hid ho; have HBO := Lib.hid hbo
    clear ho hbo
    go_wp2_with fail
    go_ret3
    exact ⟨_, rfl, HO.out, HBO.out⟩

open Classical in
theorem perform7_no (n : Int) (v : Value) (xs : List Int) (j : Nat) (l : Int) (w : World) (hv : Ints w v xs) (hn : 2 ≤ n) (hn6 : n ≤ 6) (hl : xs.length ≤ 1000) (hx : ∀ x ∈ xs, -1000 ≤ x ∧ x ≤ 1000) (hno : ¬ mlast n xs) :
    Calls Try.prog 93 #[.int .i64 n, v, .agg #[.int .i64 7, .int .i64 j, .int .i64 l]] w fun e w' => ∃ u, e = .returned (.tuple #[.int .i64 0, u, .int .i64 4]) ∧ OwnI w' w.heap.size u [] ∧ Below w.heap.size w w' := by
  have sv := hv.isSl
  have hb1 : Below w.heap.size w (w.alloc (.cells #[.int .i64 7, .int .i64 j, .int .i64 l] 57)) := (Below.refl _ _).alloc (Nat.le_refl _) _
  have HL := last_calls n v xs _ (hv.below hb1) hn hn6 hl hx
  rw [decide_eq_false hno] at HL
  have HL := Lib.hid HL
  have HB := Lib.hid hb1
  clear hv hx hb1 hno
  go_enter Try.func93, Try.ntmps93
  go_wp2_with fail
  refine HL.out.mono ?_
  rintro e w' ⟨rfl, hb⟩
  have HB2 := Lib.hid (Below.chain HB.out hb)
  clear hb
  go_wp2_with fail
  go_ret3
  exact ⟨_, rfl, ownI_nil _ _, HB2.out⟩
open Classical in
theorem perform7_yes (n : Int) (v : Value) (xs : List Int) (j : Nat) (l : Int) (w : World) (hv : Ints w v xs) (hn : 2 ≤ n) (hn6 : n ≤ 6) (hl : xs.length ≤ 1000) (hx : ∀ x ∈ xs, -1000 ≤ x ∧ x ≤ 1000) (hyes : mlast n xs) :
    Calls Try.prog 93 #[.int .i64 n, v, .agg #[.int .i64 7, .int .i64 j, .int .i64 l]] w fun e w' => ∃ u, e = .returned (.tuple #[.int .i64 (n - 1), u, .int .i64 0]) ∧ OwnI w' w.heap.size u (xs.take (xs.length - 1)) ∧ Below w.heap.size w w' := by
  have sv := hv.isSl
  have lv := hv.len
  have hcap := hv.cap
  have h0 := hyes.1
  have hb1 : Below w.heap.size w (w.alloc (.cells #[.int .i64 7, .int .i64 j, .int .i64 l] 57)) := (Below.refl _ _).alloc (Nat.le_refl _) _
  have HL := last_calls n v xs _ (hv.below hb1) hn hn6 hl hx
  rw [decide_eq_true hyes] at HL
  have HL := Lib.hid HL
  have HB := Lib.hid hb1
  have hv1 := hv.below hb1
  have hc1 := hv1.cut (l := 0) (r := xs.length - 1) (m := vcap v) (Nat.zero_le _) (by omega) (by omega) (Nat.le_refl _)
  have sc1 := hc1.isSl
  have HC1 := Lib.hid hc1
  have w1 : IntKind.i64.wrap ((xs.length : Int) - 1) = (xs.length : Int) - 1 := IntWalk.i64_in _ ⟨by omega, by omega⟩
  have w2 : IntKind.i64.wrap (n - 1) = n - 1 := IntWalk.i64_in _ ⟨by omega, by omega⟩
  have q1 : (0 : Int) ≤ (xs.length : Int) - 1 := by omega
  have q2 : (xs.length : Int) - 1 ≤ ((vcap v : Nat) : Int) := by omega
  have q3 : ((xs.length : Int) - 1).toNat = xs.length - 1 := by omega
  clear hv hv1 hx hb1 hyes hc1
  go_enter Try.func93, Try.ntmps93
  go_wp2_with fail
  refine HL.out.mono ?_
  rintro e w' ⟨rfl, hb⟩
  have HB2 := Lib.hid (Below.chain HB.out hb)
  have HC2 := Lib.hid (HC1.out.below hb)
  clear hb
  go_wp2_with fail
  refine (clone_calls _ _ _ HC2.out (by simp; omega)).mono ?_
  rintro e w2 ⟨u, rfl, ho, hb⟩
  have so := ho.isSl
  have HO := Lib.hid (ho.low HB2.out.size)
  have HB3 := Lib.hid (Below.chain HB2.out hb)
  clear ho hb
  go_wp2_with fail
  go_ret3
  refine ⟨_, rfl, ?_, HB3.out⟩
  have := HO.out
  simpa using this

/-- perform, whatever the move. -/
theorem perform_calls (n : Int) (v : Value) (xs : List Int) (k j : Nat) (l : Int) (w : World) (hv : Ints w v xs) (hn : 1 ≤ n) (hn6 : n ≤ 6) (hl : xs.length ≤ 1000) (hx : ∀ x ∈ xs, -1000 ≤ x ∧ x ≤ 1000) (hl1 : -1000 ≤ l) (hl2 : l ≤ 1000) (hj : j ≤ 1000)
    (hk1 : 1 ≤ k) (hk7 : k ≤ 7) (hins : k = 1 → l ≠ 0 ∧ -n < l ∧ l < n) (hst : k = 6 → l = 1 ∨ l = -1) (hde : k = 7 → 2 ≤ n) :
    Calls Try.prog 93 #[.int .i64 n, v, .agg #[.int .i64 k, .int .i64 j, .int .i64 l]] w fun e w' => ∃ u, e = .returned (.tuple #[.int .i64 (mperform n xs k j l).1, u, .int .i64 (mperform n xs k j l).2.2]) ∧ OwnI w' w.heap.size u (mperform n xs k j l).2.1 ∧ Below w.heap.size w w' := by
  rcases (show k ≤ 4 ∨ k = 5 ∨ k = 6 ∨ k = 7 by omega) with h | rfl | rfl | rfl
  · have e : mperform n xs k j l = (n, mlocal xs k j l) := by unfold mperform; rw [if_neg (by omega), if_neg (by omega), if_neg (by omega)]
    rw [e]; exact perform_local n v xs k j l w hv hn hn6 hl hx hl1 hl2 hj hk1 h hins
  · by_cases h0 : xs.length = 0
    · have e : mperform n xs 5 j l = (0, [], 4) := by unfold mperform; rw [if_pos rfl, if_pos h0]
      rw [e]; exact perform5_nil n v xs j l w hv hn hn6 h0
    · have e : mperform n xs 5 j l = (n, xs.drop 1 ++ xs.take 1, 0) := by unfold mperform; rw [if_pos rfl, if_neg h0]
      rw [e]; exact perform5_some n v xs j l w hv hn hn6 hl (by omega)
  · have e : mperform n xs 6 j l = (n + 1, xs ++ [l * n], 0) := by unfold mperform; rw [if_neg (by decide), if_pos rfl]
    rw [e]; exact perform6_calls n v xs j l w hv hn hn6 hl (hst rfl)
  · by_cases h0 : mlast n xs
    · have e : mperform n xs 7 j l = (n - 1, xs.take (xs.length - 1), 0) := by unfold mperform; rw [if_neg (by decide), if_neg (by decide), if_pos rfl, if_pos h0]
      rw [e]; exact perform7_yes n v xs j l w hv (hde rfl) hn6 hl hx h0
    · have e : mperform n xs 7 j l = (0, [], 4) := by unfold mperform; rw [if_neg (by decide), if_neg (by decide), if_pos rfl, if_neg h0]
      rw [e]; exact perform7_no n v xs j l w hv (hde rfl) hn6 hl hx h0

theorem apply_calls (n : Int) (v : Value) (xs : List Int) (k j : Nat) (l : Int) (w : World) (hv : Ints w v xs) (hn : 1 ≤ n) (hn6 : n ≤ 6) (hl : xs.length ≤ 30) (hx : BWord n xs) (hl1 : -1000 ≤ l) (hl2 : l ≤ 1000) (hj : j ≤ 1000)
    (hk1 : 1 ≤ k) (hk7 : k ≤ 7) (hins : k = 1 → l ≠ 0 ∧ -n < l ∧ l < n) (hst : k = 6 → l = 1 ∨ l = -1) (hde : k = 7 → 2 ≤ n) :
    Calls Try.prog 39 #[.int .i64 n, v, .agg #[.int .i64 k, .int .i64 j, .int .i64 l]] w fun e w' => ∃ u, e = .returned (.tuple #[.int .i64 (mapply n xs k j l).1, u, .int .i64 (mapply n xs k j l).2.2]) ∧ OwnI w' w.heap.size u (mapply n xs k j l).2.1 ∧ Below w.heap.size w w' := by
  have sv := hv.isSl
  have hb1 : Below w.heap.size w (w.alloc (.cells #[.int .i64 k, .int .i64 j, .int .i64 l] 57)) := (Below.refl _ _).alloc (Nat.le_refl _) _
  have hv1 := hv.below hb1
  have HC := Lib.hid (bcheck_calls n v xs _ hv1 hn hn6 hx hl)
  have hne1 : w.heap.size < (w.alloc (.cells #[.int .i64 k, .int .i64 j, .int .i64 l] 57)).heap.size := by simp
  have c0 : (w.alloc (.cells #[.int .i64 k, .int .i64 j, .int .i64 l] 57)).cell? ⟨w.heap.size, 0, none⟩ = some (.int .i64 k) := by simp [go_sem]
  have c1 : (w.alloc (.cells #[.int .i64 k, .int .i64 j, .int .i64 l] 57)).cell? ⟨w.heap.size, 1, none⟩ = some (.int .i64 j) := by simp [go_sem]
  have c2 : (w.alloc (.cells #[.int .i64 k, .int .i64 j, .int .i64 l] 57)).cell? ⟨w.heap.size, 2, none⟩ = some (.int .i64 l) := by simp [go_sem]
  have k1 : decide ((k : Int) < 1) = false := by simp; omega
  have k7 : decide ((k : Int) > 7) = false := by simp; omega
  have k7' : decide ((7 : Int) < k) = false := k7
  have HV := Lib.hid hv1; have HB := Lib.hid hb1
  have HP := Lib.hid (fun W (h : Ints W v xs) => perform_calls n v xs k j l W h hn hn6 (by omega) (hx.small (by omega)) hl1 hl2 hj hk1 hk7 hins hst hde)
  obtain ⟨R, hR⟩ : ∃ R, mperform n xs k j l = R := ⟨_, rfl⟩
  obtain ⟨n', ys, er⟩ := R
  rw [hR] at HP
  have hA : mapply n xs k j l = if er ≠ 0 then (0, [], er) else if 6 < n' ∨ 30 < ys.length then (0, [], 2) else (n', ys, er) := by unfold mapply; rw [hR]
  rw [hA]
  have HA := Lib.hid hA; have HR := Lib.hid hR
  have HNE := Lib.hid hne1
  have HC0 := Lib.hid c0; have HC1 := Lib.hid c1; have HC2 := Lib.hid c2
  clear hv hv1 hx hb1 hins hst hde hA hR hne1 c0 c1 c2
  by_cases he : er ≠ 0
  · rw [if_pos he]
    have hne : (er != 0) = true := by simp [he]
    have HE := Lib.hid he; clear he
    go_enter Try.func39, Try.ntmps39
    go_wp2_with fail
    refine HC.out.mono ?_
    rintro e w1 ⟨rfl, hb2⟩
    have c0 := (hb2.cell (p := ⟨w.heap.size, 0, none⟩) HNE.out).trans HC0.out
    have c1 := (hb2.cell (p := ⟨w.heap.size, 1, none⟩) HNE.out).trans HC1.out
    have c2 := (hb2.cell (p := ⟨w.heap.size, 2, none⟩) HNE.out).trans HC2.out
    have HV2 := Lib.hid (HV.out.below hb2)
    have HB2 := Lib.hid (Below.chain HB.out hb2)
    clear hb2
    go_wp2_with fail
    refine (HP.out _ HV2.out).mono ?_
    rintro e w2 ⟨u, rfl, ho, hb3⟩
    have so := ho.isSl
    have HO := Lib.hid (ho.low HB2.out.size)
    have HB3 := Lib.hid (Below.chain HB2.out hb3)
    clear ho hb3
    go_wp2_with fail
    go_ret3
    exact ⟨_, rfl, ownI_nil _ _, HB3.out⟩
  · obtain rfl : er = 0 := by omega
    rw [if_neg he]
    clear he
    by_cases hbig : 6 < n' ∨ 30 < ys.length
    · rw [if_pos hbig]
      obtain ⟨g, hg⟩ : ∃ g : Bool, decide (6 < n') = g := ⟨_, rfl⟩
      have hg' : decide (n' > 6) = g := hg
      obtain ⟨q, hq⟩ : ∃ q : Bool, decide ((30 : Int) < (ys.length : Int)) = q := ⟨_, rfl⟩
      have hq' : decide ((ys.length : Int) > 30) = q := hq
      have hgq : g = true ∨ (g = false ∧ q = true) := by
        rw [← hg, ← hq]
        by_cases a : 6 < n'
        · left; simp [a]
        · right
          refine ⟨by simp; omega, by simp; omega⟩
      clear hbig
      rcases hgq with rfl | ⟨rfl, rfl⟩
      all_goals
        go_enter Try.func39, Try.ntmps39
        go_wp2_with fail
        refine HC.out.mono ?_
        rintro e w1 ⟨rfl, hb2⟩
        have c0 := (hb2.cell (p := ⟨w.heap.size, 0, none⟩) HNE.out).trans HC0.out
        have c1 := (hb2.cell (p := ⟨w.heap.size, 1, none⟩) HNE.out).trans HC1.out
        have c2 := (hb2.cell (p := ⟨w.heap.size, 2, none⟩) HNE.out).trans HC2.out
        have HV2 := Lib.hid (HV.out.below hb2)
        have HB2 := Lib.hid (Below.chain HB.out hb2)
        clear hb2
        go_wp2_with fail
        refine (HP.out _ HV2.out).mono ?_
        rintro e w2 ⟨u, rfl, ho, hb3⟩
        have so := ho.isSl
        have lo := ho.len
        have HO := Lib.hid (ho.low HB2.out.size)
        have HB3 := Lib.hid (Below.chain HB2.out hb3)
        clear ho hb3
        go_wp2_with fail
        go_ret3
        exact ⟨_, rfl, ownI_nil _ _, HB3.out⟩
    · rw [if_neg hbig]
      have hg : decide (6 < n') = false := by simp; omega
      have hg' : decide (n' > 6) = false := hg
      have hq : decide ((30 : Int) < (ys.length : Int)) = false := by simp; omega
      have hq' : decide ((ys.length : Int) > 30) = false := hq
      clear hbig
      go_enter Try.func39, Try.ntmps39
      go_wp2_with fail
      refine HC.out.mono ?_
      rintro e w1 ⟨rfl, hb2⟩
      have c0 := (hb2.cell (p := ⟨w.heap.size, 0, none⟩) HNE.out).trans HC0.out
      have c1 := (hb2.cell (p := ⟨w.heap.size, 1, none⟩) HNE.out).trans HC1.out
      have c2 := (hb2.cell (p := ⟨w.heap.size, 2, none⟩) HNE.out).trans HC2.out
      have HV2 := Lib.hid (HV.out.below hb2)
      have HB2 := Lib.hid (Below.chain HB.out hb2)
      clear hb2
      go_wp2_with fail
      refine (HP.out _ HV2.out).mono ?_
      rintro e w2 ⟨u, rfl, ho, hb3⟩
      have so := ho.isSl
      have lo := ho.len
      have HO := Lib.hid (ho.low HB2.out.size)
      have HB3 := Lib.hid (Below.chain HB2.out hb3)
      clear ho hb3
      go_wp2_with fail
      refine (clip_calls _ _ _ _ HO.out).mono ?_
      rintro e w3 ⟨rfl, u', rfl, ho⟩
      have so' := ho.isSl
      have HO' := Lib.hid ho; clear ho
      go_wp2_with fail
      go_ret3
      exact ⟨_, rfl, HO'.out, HB3.out⟩

end Go.Proofs.Ytmcecmnbdcbehaa

