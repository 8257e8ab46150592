/- The determinant of a matrix of small polynomials: what fits, and its laws. -/
import Derived.Test.YtmcecmnbdcbehaaQPolyDetRows0
import Derived.Test.YtmcecmnbdcbehaaQPolyDetRows1
import Derived.Test.YtmcecmnbdcbehaaQPolyDetRows2
import Derived.Test.YtmcecmnbdcbehaaQPolyDetRows3
import Derived.Test.YtmcecmnbdcbehaaQPolyDetRows4
import Derived.Test.YtmcecmnbdcbehaaQPolyDetRows5
import Derived.Test.YtmcecmnbdcbehaaQPolyDetRows6
import Derived.Test.YtmcecmnbdcbehaaQPolyDetRows7
import Derived.Test.YtmcecmnbdcbehaaQPolyDetRows8
import Derived.Test.YtmcecmnbdcbehaaQPolyDetRows9
import Derived.Test.YtmcecmnbdcbehaaQPolyDetRows10
import Derived.Test.YtmcecmnbdcbehaaQPolyDetRows11
import Derived.Test.YtmcecmnbdcbehaaQPolyDetRows12
import Derived.Test.YtmcecmnbdcbehaaQPolyDetRows13
import Derived.Test.YtmcecmnbdcbehaaQPolyDetRows14
import Derived.Test.YtmcecmnbdcbehaaQPolyDetRows15
import Derived.Test.YtmcecmnbdcbehaaQPolyDetRows16
import Derived.Test.YtmcecmnbdcbehaaQPolyDetRows19
import Derived.Test.YtmcecmnbdcbehaaQPolyDetRows20
import Derived.Test.YtmcecmnbdcbehaaQPolyDetRows21
import Derived.Test.YtmcecmnbdcbehaaQPolyDetRows22
import Derived.Test.YtmcecmnbdcbehaaQPolyDetRows23
import Derived.Test.YtmcecmnbdcbehaaQPolyDetRows24
import Derived.Test.YtmcecmnbdcbehaaQPolyDetRows25
import Derived.Test.YtmcecmnbdcbehaaQPolyDetRows26
import Derived.Test.YtmcecmnbdcbehaaQPolyDetRows27
import Derived.Test.YtmcecmnbdcbehaaQPolyDetRows28
import Derived.Deep.RegionLaw
import Derived.RangeFuncNested
import Derived.RangeFuncBound
import Derived.RangeFuncCalls
import Derived.RangeFuncLeaves
import Derived.RangeFuncBox
import Derived.Shelf.Abstract
import Derived.Shelf.RegionOpen
import Derived.OwnWalkIn
import Derived.TacticsInMore
import Derived.LoopNIn
import Derived.LoopIn
import Derived.Maps.AppendAt
namespace Go.Proofs.Ytmcecmnbdcbehaa
open Go.RowKit Go.Sl

/-- An entry: made of at most four numbers. -/
structure EB (p : LP) : Prop where
  tr : Trimmed p
  wi : Within p (-10) 14
  sum : n1 p.c ≤ 200
  len : p.c.length ≤ 4
theorem EB.zero : EB pzero := ⟨pzero_trimmed, within_pzero _ _, by simp [pzero, n1], by simp [pzero]⟩
theorem eb_polyL (low : Int) (zs : List Int) (h : zs.length ≤ 4) : EB (polyL low zs) := by
  have hl : (coefL zs).length ≤ 4 := by simp [coefL]; omega
  refine ⟨trimP_trimmed _ _, (within_trimP _ _).mono (by omega) (by omega), ?_, by
    rcases within_trimP (low % 21 - 10) (coefL zs) with e | e
    · rw [show (polyL low zs).c = [] from e]; simp
    · have : (polyL low zs).c = (trimP (low % 21 - 10) (coefL zs)).c := rfl
      rw [this]; omega⟩
  refine Nat.le_trans (n1_trimP _ _) ?_
  have h := n1_le (coefL zs) 50 (fun x hx => by
    obtain ⟨y, _, rfl⟩ := List.mem_map.1 hx
    omega)
  have : (coefL zs).length * 50 ≤ 4 * 50 := Nat.mul_le_mul_right _ hl
  omega
theorem EB.elem {p : LP} (h : EB p) : PElem p := by
  have hok : POk p := POk.of h.tr h.wi (by omega) (by omega) (by omega) (by omega) (by have := h.sum; omega)
  refine ⟨hok, ?_, ?_, ?_, fun x hx => by have := n1_mem hx; have := h.sum; omega⟩
  · have := h.len; omega
  · rcases h.wi with e | e
    · rw [h.tr.zero e]; omega
    · omega
  · rcases h.wi with e | e
    · rw [h.tr.zero e]; omega
    · omega
theorem pfit_of {p : LP} {lo hi : Int} (ht : Trimmed p) (hw : Within p lo hi) (h1 : -1000 ≤ lo) (h2 : hi ≤ 1000) : PFit p := by
  rcases hw with e | e
  · exact ⟨by rw [ht.zero e]; simp, by rw [e]; simp⟩
  · exact ⟨by omega, by omega⟩

def bnd : Nat → Nat
  | 0 => 1
  | n + 1 => (n + 1) * (200 * bnd n)
theorem expTo_bnd {f : Nat → LP} {lo hi : Int} {M : Nat} (c : Nat) (h : ∀ k, k < c → Within (f k) lo hi ∧ n1 (f k).c ≤ M) : Within (expTo f c) lo hi ∧ n1 (expTo f c).c ≤ c * M := by
  induction c with
  | zero => exact ⟨.inl rfl, by simp [expTo, pzero, n1]⟩
  | succ c ih =>
    obtain ⟨h1, h2⟩ := ih fun k hk => h k (by omega)
    obtain ⟨h3, h4⟩ := h c (by omega)
    refine ⟨within_padd h1 h3 _, ?_⟩
    rw [expTo]
    refine Nat.le_trans (n1_padd _ _ _) ?_
    have : (if c % 2 = 0 then (1 : Int) else -1).natAbs = 1 := by split <;> rfl
    rw [this, Nat.add_mul, Nat.one_mul, Nat.one_mul]; omega
theorem expand_bnd (n : Nat) : ∀ m : List (List LP), n ≤ 3 → SqM n m → (∀ i j, i < n → j < n → EB (nthp (nthm m i) j)) →
    ExpFit n m ∧ Within (expandL n m) (-10 * (n : Int)) (13 * (n : Int) + 1) ∧ n1 (expandL n m).c ≤ bnd n := by
  induction n with
  | zero => intro m _ _ _; exact ⟨trivial, (within_pterm 1 0).mono (by omega) (by omega), by have := n1_pterm 1 0; simpa [bnd, expandL] using this⟩
  | succ n ih =>
    intro m h3 hs he
    have hrow : (nthm m 0).length = n + 1 := hs.2 0 (by omega)
    have hr : ∀ c, c < n + 1 → ExpFit n (restM c m) ∧ Within (expandL n (restM c m)) (-10 * (n : Int)) (13 * (n : Int) + 1) ∧ n1 (expandL n (restM c m)).c ≤ bnd n := fun c hc => by
      refine ih _ (by omega) (hs.rest hc) fun i j hi hj => ?_
      rw [nthm_restM (by rw [hs.1]; omega), nthp_cutR (by rw [hs.2 _ (by omega)]; exact hc) (by rw [hs.2 _ (by omega)]; omega)]
      exact he _ _ (by omega) (by unfold Go.Det.skp; split <;> omega)
    have hp : ∀ c, c < n + 1 → Within (pmul (nthp (nthm m 0) c) (expandL n (restM c m))) (-10 * ((n + 1 : Nat) : Int)) (13 * ((n + 1 : Nat) : Int) + 1) ∧ n1 (pmul (nthp (nthm m 0) c) (expandL n (restM c m))).c ≤ 200 * bnd n := fun c hc => by
      have e := he 0 c (by omega) hc
      obtain ⟨_, h1, h2⟩ := hr c hc
      refine ⟨(within_pmul e.wi h1).mono (by omega) (by omega), ?_⟩
      exact Nat.le_trans (n1_pmul _ _) (Nat.mul_le_mul e.sum h2)
    have hb : 200 * bnd n ≤ 16000000 := by
      match n, h3 with
      | 0, _ => decide
      | 1, _ => decide
      | 2, _ => decide
      | n + 3, h => omega
    refine ⟨fun c hc => ?_, (expTo_bnd (n + 1) hp).1, (expTo_bnd (n + 1) hp).2⟩
    have e := he 0 c (by omega) hc
    obtain ⟨h0, h1, h2⟩ := hr c hc
    obtain ⟨p1, p2⟩ := hp c hc
    obtain ⟨q1, q2⟩ := expTo_bnd (f := fun c => pmul (nthp (nthm m 0) c) (expandL n (restM c m))) c fun k hk => hp k (by omega)
    have hc3 : c * (200 * bnd n) ≤ 3 * 16000000 := Nat.mul_le_mul (by omega) hb
    refine ⟨pfit_of e.tr e.wi (by omega) (by omega), pfit_of (expandL_trimmed _ _) h1 (by omega) (by omega), ?_, pfit_of (expTo_trimmed _ _) q1 (by omega) (by omega), pfit_of (pmul_trimmed _ _) p1 (by omega) (by omega), by omega, h0⟩
    have := Nat.mul_le_mul e.sum h2
    omega
theorem expand_ok {n : Nat} {m : List (List LP)} (h3 : n ≤ 3) (hs : SqM n m) (he : ∀ i j, i < n → j < n → EB (nthp (nthm m i) j)) : POk (expandL n m) := by
  obtain ⟨_, h1, h2⟩ := expand_bnd n m h3 hs he
  have hb : bnd n ≤ 48000000 := by
    match n, h3 with
    | 0, _ => decide
    | 1, _ => decide
    | 2, _ => decide
    | 3, _ => decide
    | n + 4, h => omega
  exact POk.of (expandL_trimmed _ _) h1 (by omega) (by omega) (by omega) (by omega) (by omega)

/-- The matrix of a function of two indices. -/
def matM (n : Nat) (P : Nat → Nat → LP) : List (List LP) := (List.range n).map fun i => (List.range n).map fun j => P i j
theorem nthm_matM {n : Nat} {P : Nat → Nat → LP} {i : Nat} (h : i < n) : nthm (matM n P) i = (List.range n).map fun j => P i j := by
  rw [nthm_lt (by simpa [matM] using h)]; simp [matM]
theorem nthp_matM {n : Nat} {P : Nat → Nat → LP} {i j : Nat} (h : i < n) (hj : j < n) : nthp (nthm (matM n P) i) j = P i j := by
  rw [nthm_matM h]; unfold nthp; rw [List.getD_eq_getElem?_getD, List.getElem?_map, List.getElem?_range hj]; rfl
theorem sqM_matM (n : Nat) (P : Nat → Nat → LP) : SqM n (matM n P) := ⟨by simp [matM], fun i hi => by rw [nthm_matM hi]; simp⟩

/-- Two rows swapped. -/
def swapM (x y : Nat) (P : Nat → Nat → LP) : Nat → Nat → LP := fun i => if i = x then P y else if i = y then P x else P i
theorem swap_law {n x y : Nat} (hx : x < n) (hy : y < n) (hxy : x ≠ y) (P : Nat → Nat → LP) :
    padd (expandL n (matM n P)) (expandL n (matM n (swapM x y P))) 1 = pzero := by
  refine ev_ext (padd_trimmed _ _ _) pzero_trimmed fun t ht => ?_
  rw [ev_padd _ _ _ ht, ev_expandL ht _ _ (sqM_matM _ _), ev_expandL ht _ _ (sqM_matM _ _), ev_pzero]
  have h1 : Go.Det.dt n (evM (matM n P) t) = Go.Det.dt n (Go.Det.upd (Go.Det.upd (fun i j => ev (P i j) t) x (fun j => ev (P x j) t)) y (fun j => ev (P y j) t)) := by
    refine Go.Det.dt_congr fun i j hi hj => ?_
    unfold evM Go.Det.upd
    rw [nthp_matM hi hj]
    by_cases e1 : i = y
    · rw [if_pos e1, e1]
    · rw [if_neg e1]
      by_cases e2 : i = x
      · rw [if_pos e2, e2]
      · rw [if_neg e2]
  have h2 : Go.Det.dt n (evM (matM n (swapM x y P)) t) = Go.Det.dt n (Go.Det.upd (Go.Det.upd (fun i j => ev (P i j) t) x (fun j => ev (P y j) t)) y (fun j => ev (P x j) t)) := by
    refine Go.Det.dt_congr fun i j hi hj => ?_
    unfold evM Go.Det.upd swapM
    rw [nthp_matM hi hj]
    by_cases e1 : i = y
    · rw [if_pos e1, e1, if_neg (fun e => hxy e.symm), if_pos rfl]
    · rw [if_neg e1]
      by_cases e2 : i = x
      · rw [if_pos e2, if_pos e2, if_neg e1]
      · rw [if_neg e2, if_neg e2, if_neg e1]
  rw [h1, h2, (Go.Det.alt_dt n).swap hx hy hxy]
  grind

theorem dt_tri (n : Nat) (A : Nat → Nat → Rat) (h : ∀ i j, i < j → j < n → A i j = 0) : Go.Det.dt n A = (List.range n).foldl (fun d r => d * A r r) 1 := by
  induction n with
  | zero => rfl
  | succ n ih =>
    rw [Go.Det.dt_corner n A fun i hi => h i n hi (by omega), ih fun i j hi hj => h i j hi (by omega), List.range_succ, List.foldl_append]
    simp [Rat.mul_comm]
/-- The product of the diagonal. -/
def diagP (P : Nat → Nat → LP) : Nat → LP
  | 0 => ⟨0, [1]⟩
  | r + 1 => pmul (diagP P r) (P r r)
theorem one_trimmed : Trimmed ⟨0, [1]⟩ := by decide
theorem diagP_trimmed (P : Nat → Nat → LP) (r : Nat) : Trimmed (diagP P r) := by
  cases r with
  | zero => exact one_trimmed
  | succ r => exact pmul_trimmed _ _
theorem ev_diagP {t : Rat} (ht : t ≠ 0) (P : Nat → Nat → LP) (r : Nat) : ev (diagP P r) t = (List.range r).foldl (fun d r => d * ev (P r r) t) 1 := by
  induction r with
  | zero => simp [diagP, ev, evL]; grind
  | succ r ih => rw [diagP, ev_pmul _ _ ht, ih, List.range_succ, List.foldl_append]; simp
/-- What lies below the diagonal is struck out. -/
def lowM (P : Nat → Nat → LP) : Nat → Nat → LP := fun i j => if j < i then pzero else P i j
theorem tri_law (n : Nat) (P : Nat → Nat → LP) : expandL n (matM n (lowM P)) = diagP P n := by
  refine ev_ext (expandL_trimmed _ _) (diagP_trimmed _ _) fun t ht => ?_
  rw [ev_expandL ht _ _ (sqM_matM _ _), ev_diagP ht, ← Go.Det.dt_turn, dt_tri]
  · have key : ∀ r, r ≤ n → (List.range r).foldl (fun d r => d * evM (matM n (lowM P)) t r r) 1 = (List.range r).foldl (fun d r => d * ev (P r r) t) 1 := by
      intro r
      induction r with
      | zero => intro _; rfl
      | succ r ih =>
        intro hr
        rw [List.range_succ, List.foldl_append, List.foldl_append, ih (by omega)]
        simp only [List.foldl_cons, List.foldl_nil]
        unfold evM lowM
        rw [nthp_matM (by omega) (by omega), if_neg (by omega)]
    exact key n (Nat.le_refl _)
  · intro i j hi hj
    unfold evM lowM
    rw [nthp_matM hj (by omega), if_pos hi, ev_pzero]
theorem diag_bnd {P : Nat → Nat → LP} (r : Nat) (h3 : r ≤ 3) (h : ∀ i, i < r → EB (P i i)) : POk (diagP P r) := by
  have key : ∀ r, r ≤ 3 → (∀ i, i < r → EB (P i i)) → Within (diagP P r) (-10 * (r : Int)) (13 * (r : Int) + 1) ∧ n1 (diagP P r).c ≤ 200 ^ r := by
    intro r
    induction r with
    | zero => intro _ _; exact ⟨.inr ⟨by simp [diagP], by simp [diagP]⟩, by simp [diagP, n1]⟩
    | succ r ih =>
      intro h3 h
      obtain ⟨h1, h2⟩ := ih (by omega) fun i hi => h i (by omega)
      have e := h r (by omega)
      refine ⟨(within_pmul h1 e.wi).mono (by omega) (by omega), ?_⟩
      exact Nat.le_trans (n1_pmul _ _) (by rw [Nat.pow_succ]; exact Nat.mul_le_mul h2 e.sum)
  obtain ⟨h1, h2⟩ := key r h3 h
  have hb : 200 ^ r ≤ 8000000 := Nat.le_trans (Nat.pow_le_pow_right (by omega) h3) (by decide)
  exact POk.of (diagP_trimmed _ _) h1 (by omega) (by omega) (by omega) (by omega) (by omega)

end Go.Proofs.Ytmcecmnbdcbehaa

