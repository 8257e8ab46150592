/- Moves between closed braids: markov.local joined; last, perform, Apply walked. -/
import Derived.Test.YtmcecmnbdcbehaaQMarkovLocal0
import Derived.Test.YtmcecmnbdcbehaaQMarkovLocal1
import Derived.Test.YtmcecmnbdcbehaaQMarkovLocal2
import Derived.Test.YtmcecmnbdcbehaaQMarkovLocal3
import Derived.Test.YtmcecmnbdcbehaaQMarkovLocal4
import Derived.Test.YtmcecmnbdcbehaaQMarkovLocal5
import Derived.Test.YtmcecmnbdcbehaaQMarkovLocal6
import Derived.Test.YtmcecmnbdcbehaaQMarkovLocal8
import Derived.Test.YtmcecmnbdcbehaaQMarkovLocal9
import Derived.Test.YtmcecmnbdcbehaaQMarkovLocal10
import Derived.Test.YtmcecmnbdcbehaaQMarkovLocal11
import Derived.Test.YtmcecmnbdcbehaaQMarkovLocal13
import Derived.Test.YtmcecmnbdcbehaaQMarkovLocal14
import Derived.Test.YtmcecmnbdcbehaaQMarkovLocal15
import Derived.Test.YtmcecmnbdcbehaaQMarkovLocal16
import Derived.Test.YtmcecmnbdcbehaaQMarkovLocal17
import Derived.Test.YtmcecmnbdcbehaaQMarkovLocal18
import Derived.Test.YtmcecmnbdcbehaaQMarkovLocal19
import Derived.Test.YtmcecmnbdcbehaaQMarkovLocal20
import Derived.OwnWalk
import Derived.RangeFuncNested
import Derived.RangeFuncBound
import Derived.RangeFuncCalls
import Derived.RangeFuncLeaves
import Derived.RangeFuncBox
import Derived.Shelf.Abstract
import Derived.Shelf.RegionOpen
import Derived.OwnWalkIn
import Derived.TacticsInMore
import Derived.LoopNIn
import Derived.LoopIn
import Derived.Maps.AppendAt
namespace Go.Proofs.Ytmcecmnbdcbehaa
open Go.RowKit Go.Sl Go.Maps

theorem local_calls (n : Int) (v : Value) (xs : List Int) (k j : Nat) (l : Int) (w : World) (hv : Ints w v xs) (hn : 1 ≤ n) (hn6 : n ≤ 6) (hl : xs.length ≤ 1000) (hx : ∀ x ∈ xs, -1000 ≤ x ∧ x ≤ 1000) (hl1 : -1000 ≤ l) (hl2 : l ≤ 1000) (hj : j ≤ 1000)
    (hk1 : 1 ≤ k) (hk4 : k ≤ 4) (hins : k = 1 → l ≠ 0 ∧ -n < l ∧ l < n) :
    Calls Try.prog 149 #[.int .i64 n, v, .agg #[.int .i64 k, .int .i64 j, .int .i64 l]] w fun e w' => ∃ u, e = .returned (.tuple #[u, .int .i64 (mlocal xs k j l).2]) ∧ OwnI w' w.heap.size u (mlocal xs k j l).1 ∧ Below w.heap.size w w' := by
  have hb : ∀ i, i < xs.length → -1000 ≤ nth xs i ∧ nth xs i ≤ 1000 := fun i hi => hx _ (nth_mem hi)
  rcases (show k = 1 ∨ k = 2 ∨ k = 3 ∨ k = 4 by omega) with rfl | rfl | rfl | rfl
  · obtain ⟨h0, h3, h4⟩ := hins rfl
    by_cases hjl : j ≤ xs.length
    · have e : mlocal xs 1 j l = (xs.take j ++ [l, -l] ++ xs.drop j, 0) := by simp [mlocal, mcnt, mnext]; omega
      rw [e]; exact local1_some n v xs j l w hv hn hn6 hl hx hl1 hl2 hj h0 h3 h4 hjl
    · have e : mlocal xs 1 j l = ([], 1) := by simp [mlocal, mcnt, mnext]; omega
      rw [e]; exact local1_none n v xs j l w hv hn hn6 hl hx hl1 hl2 hj hjl
  · by_cases hjl : j + 2 ≤ xs.length
    · have b0 := hb j (by omega); have b1 := hb (j + 1) (by omega)
      by_cases h : nth xs j = -nth xs (j + 1)
      · have e : mlocal xs 2 j l = (xs.take j ++ [] ++ xs.drop (j + 2), 0) := by unfold mlocal mnext; rw [if_neg (by simp [mcnt]; omega), if_neg (by decide), if_pos rfl, if_pos h]; rfl
        rw [e]; exact local2_some n v xs j l w hv hn hn6 hl hx hl1 hl2 hj hjl _ rfl b0.1 b0.2 _ rfl b1.1 b1.2 h
      · have e : mlocal xs 2 j l = ([], 4) := by unfold mlocal mnext; rw [if_neg (by simp [mcnt]; omega), if_neg (by decide), if_pos rfl, if_neg h]
        rw [e]; exact local2_not n v xs j l w hv hn hn6 hl hx hl1 hl2 hj hjl _ rfl b0.1 b0.2 _ rfl b1.1 b1.2 h
    · have e : mlocal xs 2 j l = ([], 1) := by unfold mlocal; rw [if_pos (by simp [mcnt]; omega)]
      rw [e]; exact local2_none n v xs j l w hv hn hn6 hl hx hl1 hl2 hj hjl
  · by_cases hjl : j + 2 ≤ xs.length
    · have b0 := hb j (by omega); have b1 := hb (j + 1) (by omega)
      by_cases h : ((nth xs j).natAbs : Int) - (nth xs (j + 1)).natAbs ≥ 2
      · have e : mlocal xs 3 j l = (xs.take j ++ [nth xs (j + 1), nth xs j] ++ xs.drop (j + 2), 0) := by unfold mlocal mnext; rw [if_neg (by simp [mcnt]; omega), if_neg (by decide), if_neg (by decide), if_pos rfl, if_pos (.inl h)]; rfl
        rw [e]; exact local3_some1 n v xs j l w hv hn hn6 hl hx hl1 hl2 hj hjl _ rfl b0.1 b0.2 _ rfl b1.1 b1.2 h
      · by_cases h2 : ((nth xs j).natAbs : Int) - (nth xs (j + 1)).natAbs ≤ -2
        · have e : mlocal xs 3 j l = (xs.take j ++ [nth xs (j + 1), nth xs j] ++ xs.drop (j + 2), 0) := by unfold mlocal mnext; rw [if_neg (by simp [mcnt]; omega), if_neg (by decide), if_neg (by decide), if_pos rfl, if_pos (.inr h2)]; rfl
          rw [e]; exact local3_some2 n v xs j l w hv hn hn6 hl hx hl1 hl2 hj hjl _ rfl b0.1 b0.2 _ rfl b1.1 b1.2 ⟨h, h2⟩
        · have e : mlocal xs 3 j l = ([], 4) := by unfold mlocal mnext; rw [if_neg (by simp [mcnt]; omega), if_neg (by decide), if_neg (by decide), if_pos rfl, if_neg (by omega)]
          rw [e]; exact local3_not n v xs j l w hv hn hn6 hl hx hl1 hl2 hj hjl _ rfl b0.1 b0.2 _ rfl b1.1 b1.2 ⟨h, h2⟩
    · have e : mlocal xs 3 j l = ([], 1) := by unfold mlocal; rw [if_pos (by simp [mcnt]; omega)]
      rw [e]; exact local3_none n v xs j l w hv hn hn6 hl hx hl1 hl2 hj hjl
  · by_cases hjl : j + 3 ≤ xs.length
    · have b0 := hb j (by omega); have b1 := hb (j + 1) (by omega); have b2 := hb (j + 2) (by omega)
      have eno : ∀ (_ : ¬ (nth xs j = nth xs (j + 2) ∧ (nth xs j > 0 ↔ nth xs (j + 1) > 0) ∧ (nth xs j - nth xs (j + 1) = 1 ∨ nth xs j - nth xs (j + 1) = -1))), mlocal xs 4 j l = ([], 4) := by
        intro h; unfold mlocal mnext; rw [if_neg (by simp [mcnt]; omega), if_neg (by decide), if_neg (by decide), if_neg (by decide), if_neg h]
      have eyes : (nth xs j = nth xs (j + 2) ∧ (nth xs j > 0 ↔ nth xs (j + 1) > 0) ∧ (nth xs j - nth xs (j + 1) = 1 ∨ nth xs j - nth xs (j + 1) = -1)) → mlocal xs 4 j l = (xs.take j ++ [nth xs (j + 1), nth xs j, nth xs (j + 1)] ++ xs.drop (j + 3), 0) := by
        intro h; unfold mlocal mnext; rw [if_neg (by simp [mcnt]; omega), if_neg (by decide), if_neg (by decide), if_neg (by decide), if_pos h]; rfl
      by_cases h : nth xs j = nth xs (j + 2)
      · by_cases h1 : (0 < nth xs j ↔ 0 < nth xs (j + 1))
        · by_cases h2 : nth xs j - nth xs (j + 1) = 1
          · rw [eyes ⟨h, h1, .inl h2⟩]; exact local4_some1 n v xs j l w hv hn hn6 hl hx hl1 hl2 hj hjl _ rfl b0.1 b0.2 _ rfl b1.1 b1.2 _ rfl b2.1 b2.2 ⟨h, h1, h2⟩
          · by_cases h3 : nth xs j - nth xs (j + 1) = -1
            · rw [eyes ⟨h, h1, .inr h3⟩]; exact local4_some2 n v xs j l w hv hn hn6 hl hx hl1 hl2 hj hjl _ rfl b0.1 b0.2 _ rfl b1.1 b1.2 _ rfl b2.1 b2.2 ⟨h, h1, h3⟩
            · rw [eno (fun hh => by rcases hh.2.2 with a | a; exact h2 a; exact h3 a)]; exact local4_not n v xs j l w hv hn hn6 hl hx hl1 hl2 hj hjl _ rfl b0.1 b0.2 _ rfl b1.1 b1.2 _ rfl b2.1 b2.2 ⟨h, h1, h2, h3⟩
        · rw [eno (fun hh => h1 hh.2.1)]; exact local4_sign n v xs j l w hv hn hn6 hl hx hl1 hl2 hj hjl _ rfl b0.1 b0.2 _ rfl b1.1 b1.2 _ rfl b2.1 b2.2 ⟨h, h1⟩
      · rw [eno (fun hh => h hh.1)]; exact local4_ne n v xs j l w hv hn hn6 hl hx hl1 hl2 hj hjl _ rfl b0.1 b0.2 _ rfl b1.1 b1.2 _ rfl b2.1 b2.2 h
    · have e : mlocal xs 4 j l = ([], 1) := by unfold mlocal; rw [if_pos (by simp [mcnt]; omega)]
      rw [e]; exact local4_none n v xs j l w hv hn hn6 hl hx hl1 hl2 hj hjl

theorem last1_yes (x n : Int) (B : Nat) (w : World) (hc : w.cell? ⟨B, 0, none⟩ = some (.int .i64 n)) (h1 : -1000 ≤ x) (h2 : x ≤ 1000) (hn : 1 ≤ n) (hn6 : n ≤ 6) (h : (x.natAbs : Int) = n - 1) :
    Calls Try.prog 179 #[.int .i64 x, .pointer (some ⟨B, 0, none⟩)] w fun e w' => e = .returned (.bool true) ∧ Below w.heap.size w w' := by
  have HI := Lib.hid (fun w => bindex_calls x w h1 h2)
  rw [h] at HI
  clear h
  have hw : IntKind.i64.wrap (n - 1) = n - 1 := IntWalk.i64_in _ ⟨by omega, by omega⟩
  go_enter Try.func179, Try.ntmps179
  go_wp2_with fail
  go_region_held3 (fun w' => w'.cell? ⟨B, 0, none⟩ = some (.int .i64 n)) (first | exact hc | assumption) ((go_at_call 97; refine (HI.out _).mono ?_; rintro e w' ⟨rfl, rfl⟩))
  all_goals
    go_wp2_with fail
    go_ret
    exact ⟨rfl, (Below.refl _ _).drew⟩
theorem last1_no (x n : Int) (B : Nat) (w : World) (hc : w.cell? ⟨B, 0, none⟩ = some (.int .i64 n)) (h1 : -1000 ≤ x) (h2 : x ≤ 1000) (hn : 1 ≤ n) (hn6 : n ≤ 6) (h : (x.natAbs : Int) ≠ n - 1) :
    Calls Try.prog 179 #[.int .i64 x, .pointer (some ⟨B, 0, none⟩)] w fun e w' => e = .returned (.bool false) ∧ Below w.heap.size w w' := by
  have HI := Lib.hid (fun w => bindex_calls x w h1 h2)
  obtain ⟨A, hA⟩ : ∃ A : Int, (x.natAbs : Int) = A := ⟨_, rfl⟩
  rw [hA] at HI h
  have ht : (A == n - 1) = false := by simp [h]
  have hw : IntKind.i64.wrap (n - 1) = n - 1 := IntWalk.i64_in _ ⟨by omega, by omega⟩
  clear h hA
  go_enter Try.func179, Try.ntmps179
  go_wp2_with fail
  go_region_held3 (fun w' => w'.cell? ⟨B, 0, none⟩ = some (.int .i64 n)) (first | exact hc | assumption) ((go_at_call 97; refine (HI.out _).mono ?_; rintro e w' ⟨rfl, rfl⟩))
  all_goals
    go_wp2_with fail
    go_ret
    exact ⟨rfl, (Below.refl _ _).drew⟩

theorem last_of (n : Int) (v : Value) (xs : List Int) (r : Int) (b : Bool) (w : World) (hv : Ints w v xs) (hn : 2 ≤ n) (hn6 : n ≤ 6) (hl : xs.length ≤ 1000) (hr : -1 ≤ r) (hr2 : r < xs.length)
    (hb : (r == (xs.length : Int) - 1 && decide (0 ≤ r)) = b)
    (HC : ∀ W, Ints W v xs → W.cell? ⟨w.heap.size, 0, none⟩ = some (.int .i64 n) → w.heap.size < W.heap.size → Calls Try.prog 171 #[v, .func (.func 179) #[] #[.pointer (some ⟨w.heap.size, 0, none⟩)]] W fun e w' => e = .returned (.int .i64 r) ∧ Below W.heap.size W w') :
    Calls Try.prog 148 #[.int .i64 n, v] w fun e w' => e = .returned (.bool b) ∧ Below w.heap.size w w' := by
  have sv := hv.isSl
  have lv := hv.len
  obtain ⟨W1, hW1⟩ : ∃ W1, W1 = w.alloc (.cells #[.int .i64 n] 3) := ⟨_, rfl⟩
  have hv1 : Ints W1 v xs := by rw [hW1]; exact hv.alloc _
  have hb1 : Below w.heap.size w W1 := by rw [hW1]; exact (Below.refl _ _).alloc (Nat.le_refl _) _
  have hc1 : W1.cell? ⟨w.heap.size, 0, none⟩ = some (.int .i64 n) := by rw [hW1]; simp [go_sem]
  have HC1 := Lib.hid (HC W1 hv1 hc1 (by rw [hW1]; simp))
  have HW1 := Lib.hid hW1.symm; have HB1 := Lib.hid hb1
  have hn1 : decide (n > 1) = true := by simp; omega
  have hn1' : decide (1 < n) = true := by simp; omega
  obtain ⟨g, hg⟩ : ∃ g : Bool, decide (0 ≤ r) = g := ⟨_, rfl⟩
  have hg' : decide (r ≥ 0) = g := hg
  have hw : IntKind.i64.wrap ((xs.length : Int) - 1) = (xs.length : Int) - 1 := IntWalk.i64_in _ ⟨by omega, by omega⟩
  obtain ⟨q, hq⟩ : ∃ q : Bool, (r == (xs.length : Int) - 1) = q := ⟨_, rfl⟩
  rw [hg, hq] at hb
  have hs1 : w.heap.size < W1.heap.size := by rw [hW1]; simp
  clear hv hv1 hb1 hW1 HC
  cases g <;> cases q <;> (simp only [Bool.and_true, Bool.and_false] at hb; subst hb)
  all_goals
    go_enter Try.func148, Try.ntmps148
    go_wp2_with fail
    rw [HW1.out]
    go_wp2_with fail
    refine HC1.out.mono ?_
    rintro e w' ⟨rfl, hb2⟩
    have c2 := (hb2.cell (p := ⟨w.heap.size, 0, none⟩) (by have := hs1; omega)).trans hc1
    have HB2 := Lib.hid hb2
    clear hb2
    go_wp2_with fail
    go_ret
    exact ⟨rfl, Below.chain HB1.out HB2.out⟩

open Classical in
theorem last_calls (n : Int) (v : Value) (xs : List Int) (w : World) (hv : Ints w v xs) (hn : 2 ≤ n) (hn6 : n ≤ 6) (hl : xs.length ≤ 1000) (hx : ∀ x ∈ xs, -1000 ≤ x ∧ x ≤ 1000) :
    Calls Try.prog 148 #[.int .i64 n, v] w fun e w' => e = .returned (.bool (decide (mlast n xs))) ∧ Below w.heap.size w w' := by
  have he := enters_some (Go.Proofs.enters_of Try.func179 (by kernel_rfl) rfl)
  have hbn : ∀ i, i < xs.length → -1000 ≤ nth xs i ∧ nth xs i ≤ 1000 := fun i hi => hx _ (nth_mem hi)
  by_cases hex : ∃ k, k < xs.length ∧ ((nth xs k).natAbs : Int) = n - 1
  · obtain ⟨m, hm, hm1, hm2⟩ := exists_least xs.length hex
    refine last_of n v xs m _ w hv hn hn6 hl (by omega) (by omega) ?_ (fun W hW hc hlt => indexFuncB_some v xs _ _ he m W hW hm
      (fun W' hb' j hj => last1_no _ n _ W' ((hb'.cell (p := ⟨w.heap.size, 0, none⟩) hlt).trans hc) (hbn j (by omega)).1 (hbn j (by omega)).2 (by omega) hn6 (hm2 j hj))
      (fun W' hb' => last1_yes _ n _ W' ((hb'.cell (p := ⟨w.heap.size, 0, none⟩) hlt).trans hc) (hbn m hm).1 (hbn m hm).2 (by omega) hn6 hm1))
    by_cases e : m = xs.length - 1
    · have hlast : mlast n xs := ⟨by omega, by rw [← e]; exact hm1, fun j hj => hm2 j (by omega)⟩
      rw [decide_eq_true hlast]
      have : ((m : Int) == (xs.length : Int) - 1) = true := by simp; omega
      rw [this]; simp
    · have hlast : ¬ mlast n xs := fun h => h.2.2 m (by omega) hm1
      rw [decide_eq_false hlast]
      have : ((m : Int) == (xs.length : Int) - 1) = false := by simp; omega
      rw [this]; simp
  · refine last_of n v xs (-1) _ w hv hn hn6 hl (by omega) (by omega) ?_ (fun W hW hc hlt => indexFuncB_none v xs _ _ he W hW (fun W' hb' x hxm => by
      obtain ⟨i, hi, rfl⟩ := List.getElem_of_mem hxm
      rw [← nth_lt hi]
      exact last1_no _ n _ W' ((hb'.cell (p := ⟨w.heap.size, 0, none⟩) hlt).trans hc) (hbn i hi).1 (hbn i hi).2 (by omega) hn6 (fun h => hex ⟨i, hi, h⟩)))
    have hlast : ¬ mlast n xs := fun h => hex ⟨_, by have := h.1; omega, h.2.1⟩
    rw [decide_eq_false hlast]; simp

/-- perform: a local move. -/
theorem perform_local (n : Int) (v : Value) (xs : List Int) (k j : Nat) (l : Int) (w : World) (hv : Ints w v xs) (hn : 1 ≤ n) (hn6 : n ≤ 6) (hl : xs.length ≤ 1000) (hx : ∀ x ∈ xs, -1000 ≤ x ∧ x ≤ 1000) (hl1 : -1000 ≤ l) (hl2 : l ≤ 1000) (hj : j ≤ 1000)
    (hk1 : 1 ≤ k) (hk4 : k ≤ 4) (hins : k = 1 → l ≠ 0 ∧ -n < l ∧ l < n) :
    Calls Try.prog 93 #[.int .i64 n, v, .agg #[.int .i64 k, .int .i64 j, .int .i64 l]] w fun e w' => ∃ u, e = .returned (.tuple #[.int .i64 n, u, .int .i64 (mlocal xs k j l).2]) ∧ OwnI w' w.heap.size u (mlocal xs k j l).1 ∧ Below w.heap.size w w' := by
  have sv := hv.isSl
  have k5 : ((k : Int) == 5) = false := by simp; omega
  have k6 : ((k : Int) == 6) = false := by simp; omega
  have k7 : ((k : Int) == 7) = false := by simp; omega
  have hb1 : Below w.heap.size w (w.alloc (.cells #[.int .i64 k, .int .i64 j, .int .i64 l] 57)) := (Below.refl _ _).alloc (Nat.le_refl _) _
  have hs1 : w.heap.size ≤ (w.alloc (.cells #[.int .i64 k, .int .i64 j, .int .i64 l] 57)).heap.size := by simp
  have HL := Lib.hid (local_calls n v xs k j l _ (hv.below hb1) hn hn6 hl hx hl1 hl2 hj hk1 hk4 hins)
  have HB := Lib.hid hb1; have HS := Lib.hid hs1
  clear hv hx hins hb1 hs1
  go_enter Try.func93, Try.ntmps93
  go_wp2_with fail
  refine HL.out.mono ?_
  rintro e w' ⟨u, rfl, ho, hb⟩
  have so := ho.isSl
  have HO := Lib.hid (ho.low HS.out)
  have HB2 := Lib.hid (Below.chain HB.out hb)
  clear ho hb
  go_wp2_with fail
  go_ret3
  exact ⟨_, rfl, HO.out, HB2.out⟩

end Go.Proofs.Ytmcecmnbdcbehaa

