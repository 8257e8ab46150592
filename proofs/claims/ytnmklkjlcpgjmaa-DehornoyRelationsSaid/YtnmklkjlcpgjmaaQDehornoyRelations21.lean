/- dehornoy.sign and reduce walked. -/
import Derived.Test.YtnmklkjlcpgjmaaQDehornoyRelations0
import Derived.Test.YtnmklkjlcpgjmaaQDehornoyRelations1
import Derived.Test.YtnmklkjlcpgjmaaQDehornoyRelations2
import Derived.Test.YtnmklkjlcpgjmaaQDehornoyRelations3
import Derived.Test.YtnmklkjlcpgjmaaQDehornoyRelations4
import Derived.Test.YtnmklkjlcpgjmaaQDehornoyRelations5
import Derived.Test.YtnmklkjlcpgjmaaQDehornoyRelations7
import Derived.Test.YtnmklkjlcpgjmaaQDehornoyRelations8
import Derived.Test.YtnmklkjlcpgjmaaQDehornoyRelations9
import Derived.Test.YtnmklkjlcpgjmaaQDehornoyRelations10
import Derived.Test.YtnmklkjlcpgjmaaQDehornoyRelations11
import Derived.Test.YtnmklkjlcpgjmaaQDehornoyRelations12
import Derived.Test.YtnmklkjlcpgjmaaQDehornoyRelations13
import Derived.Test.YtnmklkjlcpgjmaaQDehornoyRelations14
import Derived.Test.YtnmklkjlcpgjmaaQDehornoyRelations15
import Derived.Test.YtnmklkjlcpgjmaaQDehornoyRelations16
import Derived.Test.YtnmklkjlcpgjmaaQDehornoyRelations17
import Derived.Test.YtnmklkjlcpgjmaaQDehornoyRelations19
import Derived.Test.YtnmklkjlcpgjmaaQDehornoyRelations20
import Derived.Deep.QuietTactic
import Derived.BigQuiet
import Derived.StillTailTactics
import Derived.Deep.RegionLaw
namespace Go.Proofs.Ytnmklkjlcpgjmaa
open Go.RowKit Go.Sl

theorem dsign_calls (x : Int) (w : World) (h0 : x ≠ 0) (h1 : -1000 ≤ x) (h2 : x ≤ 1000) :
    Calls Try.prog 37 #[.int .i64 x] w fun e w' => e = .returned (.int .i64 x.sign) ∧ w = w' := by
  have hne : ((x.natAbs : Int) == 0) = false := by rw [beq_eq_false_iff_ne]; omega
  have hq : x.tdiv (x.natAbs : Int) = x.sign := by
    rcases Int.lt_or_lt_of_ne h0 with h | h
    · rw [sgn_neg h, show (x.natAbs : Int) = -x by omega, Int.tdiv_neg, Int.tdiv_self h0]
    · rw [sgn_pos h, show (x.natAbs : Int) = x by omega, Int.tdiv_self h0]
  have hs : x.sign = 1 ∨ x.sign = -1 := by
    rcases Int.lt_or_lt_of_ne h0 with h | h
    · exact .inr (sgn_neg h)
    · exact .inl (sgn_pos h)
  have hw : IntKind.i64.wrap x.sign = x.sign := IntWalk.i64_in _ (by rcases hs with h | h <;> rw [h] <;> exact ⟨by omega, by omega⟩)
  obtain ⟨S, hS⟩ : ∃ S, x.sign = S := ⟨_, rfl⟩
  rw [hS] at hq hw ⊢
  clear hS hs
  go_enter Try.func37, Try.ntmps37
  go_wp2_with fail
  refine (bindex_calls x _ h1 h2).mono ?_
  rintro e w' ⟨rfl, rfl⟩
  go_wp2_with fail
  go_ret
  exact ⟨rfl, rfl⟩

theorem rows_one (w : World) (xs : List Int) (v : Value) (hv : Ints w v xs) : RowsV (w.alloc (.cells #[v] 22)) (.slice (some ⟨w.heap.size, 0, none⟩) 1 1) [v] [xs] :=
  ⟨sl_one w v _, rfl, fun i hi => by
    simp only [List.length_cons, List.length_nil] at hi
    obtain rfl : i = 0 := by omega
    exact hv.alloc _⟩
theorem least {P : Nat → Prop} (h : ∃ m, P m) : ∃ m, P m ∧ ∀ k, P k → m ≤ k := by
  obtain ⟨m, hm⟩ := h
  induction m using Nat.strongRecOn with
  | _ m ih =>
    by_cases hh : ∃ k, k < m ∧ P k
    · obtain ⟨k, hk, hp⟩ := hh
      exact ih k hk hp
    · exact ⟨m, hm, fun k hk => Nat.le_of_not_lt fun hlt => hh ⟨k, hlt, hk⟩⟩
open Classical in
noncomputable def wayM (W : List Int → Nat → Prop) (v : Value) (w : World) : Nat := if h : ∃ m, ∃ xs, Ints w v xs ∧ W (redL xs) m then (least h).choose else 0
theorem ints_uniq {w : World} {v : Value} {xs ys : List Int} (h : Ints w v xs) (k : Ints w v ys) : xs = ys := by
  have hl : xs.length = ys.length := by have := h.len; have := k.len; omega
  refine ext_nth hl fun q hq => ?_
  have h1 := h.cell hq
  have h2 := k.cell (k := q) (by omega)
  rw [h1] at h2
  injection h2 with h2
  injection h2
theorem wayM_lt {W : List Int → Nat → Prop} {v v' : Value} {w w' : World} {xs ys : List Int} (hx : Ints w v xs) (hy : Ints w' v' ys) {m : Nat} (hm : W (redL xs) m) (h : ∀ m, W (redL xs) m → 0 < m ∧ W (redL ys) (m - 1)) : wayM W v' w' < wayM W v w := by
  classical
  have h1 : ∃ m, ∃ xs, Ints w v xs ∧ W (redL xs) m := ⟨m, xs, hx, hm⟩
  have h2 : ∃ m, ∃ xs, Ints w' v' xs ∧ W (redL xs) m := ⟨m - 1, ys, hy, (h m hm).2⟩
  unfold wayM
  rw [dif_pos h1, dif_pos h2]
  obtain ⟨⟨zs, hz, hzm⟩, -⟩ := (least h1).choose_spec
  obtain rfl := ints_uniq hx hz
  obtain ⟨p, q⟩ := h _ hzm
  have := (least h2).choose_spec.2 _ ⟨ys, hy, q⟩
  omega
theorem sign_bounds {x : Int} (h : x ≠ 0) : x.sign = 1 ∨ x.sign = -1 := by
  rcases Int.lt_or_lt_of_ne h with h | h
  · exact .inr (sgn_neg h)
  · exact .inl (sgn_pos h)
/-- A round keeps the braid, and the letters. -/
theorem redL_BE {n : Nat} {w : List Int} (hw : LtW n w) : BE n (redL w) w ∧ LtW n (redL w) := by
  have key : ∀ (b s : List Int), LtW n b → BE n ((act s b).reverse) (s.reverse ++ b) := by
    intro b
    induction b with
    | nil => intro s _; simp [act]; exact .refl _
    | cons x b ih =>
      intro s hb
      have hx := hb x (by simp)
      show BE n ((act (psh s x) b).reverse) _
      refine (ih _ fun z hz => hb z (by simp [hz])).trans ?_
      cases s with
      | nil => simp [psh]; exact .refl _
      | cons y t =>
        have ep : psh (y :: t) x = if y = -x then t else x :: y :: t := rfl
        rw [ep]
        by_cases hy : y = -x
        · rw [if_pos hy]
          subst hy
          have h1 := BE.ctx t.reverse b (BE.cancel (n := n) (x := -x) ⟨by have := hx.1; omega, by have := hx.2; omega⟩)
          rw [Int.neg_neg] at h1
          simpa using h1.symm
        · rw [if_neg hy]
          simp
          exact .refl _
  exact ⟨key w [] hw, fun z hz => hw z (redL_mem hz)⟩
theorem round_BE {n : Nat} {P M s : List Int} {x : Int} (hw : LtW n (P ++ x :: M ++ (-x) :: s)) (hM : ∀ y ∈ M, x.natAbs < y.natAbs) : BE n (P ++ (midW x M ++ s)) (P ++ x :: M ++ (-x) :: s) ∧ LtW n (P ++ (midW x M ++ s)) := by
  have lP : LtW n P := fun z hz => hw z (by simp [hz])
  have lx : LtB n x := hw x (by simp)
  have lM : LtW n M := fun z hz => hw z (by simp [hz])
  have ls : LtW n s := fun z hz => hw z (by simp [hz])
  refine ⟨?_, lP.app ((midW_lt lx lM).app ls)⟩
  have := BE.ctx P s (handle_eq lx lM hM).symm
  simpa using this
end Go.Proofs.Ytnmklkjlcpgjmaa

