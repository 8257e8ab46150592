/- Products of polynomials divided by one factor: the plain law. No program. -/
import Derived.Test.YtkimbhmijgfhnaaPolyBound
namespace Go.Proofs.Ytkimbhmijgfhnaa
open Go.RowKit Go.Sl

theorem evL_ext {a b : List Int} (h : ∀ t, evL a t = evL b t) : ∀ k, nth a k = nth b k := by
  apply evI_inj
  intro n _
  have h1 := h n
  have h2 := evL_int a n
  have h3 := evL_int b n
  simp only [Rat.intCast_natCast] at h2 h3
  rw [h2, h3, Rat.intCast_inj] at h1
  exact h1
theorem n1_ext (a : List Int) : ∀ b, (∀ k, nth a k = nth b k) → n1 a = n1 b := by
  have zero : ∀ b : List Int, (∀ k, nth b k = 0) → n1 b = 0 := by
    intro b
    induction b with
    | nil => intro _; rfl
    | cons y b ih =>
      intro h
      have h0 := h 0
      rw [nth_cons_zero] at h0
      rw [n1, ih fun k => by have := h (k + 1); rwa [nth_cons_succ] at this, h0]; rfl
  induction a with
  | nil => intro b h; rw [zero b fun k => by rw [← h k, nth_nil]]; rfl
  | cons x a ih =>
    intro b h
    cases b with
    | nil => rw [zero (x :: a) fun k => by rw [h k, nth_nil]]; rfl
    | cons y b =>
      have h0 := h 0
      rw [nth_cons_zero, nth_cons_zero] at h0
      rw [n1, n1, h0, ih b fun k => by have := h (k + 1); rwa [nth_cons_succ, nth_cons_succ] at this]
theorem top_mull (a b : List Int) (ha : a ≠ []) (hb : b ≠ []) : nth (mull a b) (a.length - 1 + (b.length - 1)) = nth a (a.length - 1) * nth b (b.length - 1) := by
  have hp : 0 < b.length := List.length_pos_iff.2 hb
  induction a with
  | nil => exact absurd rfl ha
  | cons x a ih =>
    rw [mull, nth_addl]
    cases a with
    | nil =>
      simp only [mull, List.length_cons, List.length_nil, Nat.zero_add, Nat.sub_self]
      rw [nth_cons_zero]
      have : nth [0] (b.length - 1) = 0 := by
        cases hb1 : b.length - 1 with
        | zero => rfl
        | succ k => rw [nth_cons_succ, nth_nil]
      rw [this]; omega
    | cons y a =>
      have ih' := ih (by simp)
      simp only [List.length_cons] at ih' ⊢
      rw [show a.length + 1 + 1 - 1 + (b.length - 1) = (a.length + 1 - 1 + (b.length - 1)) + 1 by omega, nth_cons_succ, ih', nth_ge (l := b) (k := a.length + 1 - 1 + (b.length - 1) + 1) (by omega), show a.length + 1 + 1 - 1 = (a.length + 1 - 1) + 1 by omega, nth_cons_succ]
      simp
theorem mull_ne {a b : List Int} (ha : a ≠ []) (hb : b ≠ []) : mull a b ≠ [] := by
  intro e
  have := mull_length a b ha hb
  rw [e] at this
  have := List.length_pos_iff.2 ha
  have := List.length_pos_iff.2 hb
  simp at *; omega
theorem head_mull (a b : List Int) (ha : a ≠ []) : nth (mull a b) 0 = nth a 0 * nth b 0 := by
  cases a with
  | nil => exact absurd rfl ha
  | cons x a => rw [mull, nth_addl, nth_cons_zero, nth_cons_zero]; omega
/-- The product of two trimmed polynomials needs no trimming. -/
theorem pmul_exact {x y : LP} (hx : Trimmed x) (hy : Trimmed y) (h1 : x.c ≠ []) (h2 : y.c ≠ []) : pmul x y = ⟨x.low + y.low, mull x.c y.c⟩ := by
  refine trimP_eq ⟨fun e => absurd e (mull_ne h1 h2), fun _ => ?_, fun _ => ?_⟩ fun t _ => rfl
  · rw [head_mull _ _ h1]
    exact Int.mul_ne_zero (hx.first h1) (hy.first h2)
  · simp only
    rw [mull_length _ _ h1 h2]
    have p1 := List.length_pos_iff.2 h1
    have p2 := List.length_pos_iff.2 h2
    rw [show x.c.length + y.c.length - 1 - 1 = x.c.length - 1 + (y.c.length - 1) by omega, top_mull _ _ h1 h2]
    exact Int.mul_ne_zero (hx.last h1) (hy.last h2)

/-- What is left of X Y when the terms of X from k on are taken away: its last coefficient. -/
theorem rest_top {R X Y : List Int} {k n : Nat} (h : ∀ t, evL R t = evL (X.take (k + 1)) t * evL Y t) (hk : k < X.length) (hn : Y.length = n + 1) : nth R (k + n) = nth X k * nth Y n := by
  have h1 : ∀ t, evL R t = evL (mull (X.take (k + 1)) Y) t := fun t => by rw [h, evL_mull]
  have hl : (X.take (k + 1)).length = k + 1 := by simp; omega
  have h2 := top_mull (X.take (k + 1)) Y (by intro e; rw [e] at hl; simp at hl) (by intro e; rw [e] at hn; simp at hn)
  rw [evL_ext h1, show k + n = (X.take (k + 1)).length - 1 + (Y.length - 1) by omega, h2, hl, hn, show k + 1 - 1 = k by omega, show n + 1 - 1 = n by omega, nth_take (by omega)]
theorem rest_n1 {R X Y : List Int} {k : Nat} (h : ∀ t, evL R t = evL (X.take k) t * evL Y t) : n1 R ≤ n1 X * n1 Y := by
  have h1 : ∀ t, evL R t = evL (mull (X.take k) Y) t := fun t => by rw [h, evL_mull]
  rw [n1_ext R _ (evL_ext h1)]
  exact Nat.le_trans (n1_mull _ _) (Nat.mul_le_mul_right _ (n1_take_le _ _))
theorem rest_zero {R X Y : List Int} (h : ∀ t, evL R t = evL (X.take 0) t * evL Y t) : ∀ x ∈ R, x = 0 := by
  have h1 : ∀ t, evL R t = evL [] t := fun t => by rw [h]; simp [evL]
  intro x hx
  obtain ⟨i, hi, rfl⟩ := List.getElem_of_mem hx
  rw [← nth_lt hi, evL_ext h1, nth_nil]
theorem ev_stepS {cs A : List Int} {d j : Nat} {q : Int} {f : Rat → Rat} (h : ∀ t, evL cs t = f t + -(q : Rat) * (t ^ d * evL (A.take j) t)) (h1 : d + j < cs.length) (h2 : j < A.length) (t : Rat) :
    evL (cs.set (d + j) (nth cs (d + j) - q * nth A j)) t = f t + -(q : Rat) * (t ^ d * evL (A.take (j + 1)) t) := by
  have e : (((nth cs (d + j) - q * nth A j) : Int) : Rat) = (nth cs (d + j) : Int) - (q : Rat) * (nth A j : Int) := by simp [Rat.intCast_sub, Rat.intCast_mul]
  rw [evL_set _ _ _ _ h1, evL_take_succ _ _ _ h2, h, e, rpow_add]; grind
theorem n1_stepS {cs : List Int} {i : Nat} {x : Int} {m : Nat} (h : n1 cs ≤ m) (h1 : i < cs.length) : n1 (cs.set i (nth cs i - x)) ≤ m + x.natAbs := by
  have := n1_set cs i (nth cs i - x) h1
  have := Int.natAbs_sub_le (nth cs i) x
  omega
theorem rest_next {cs X Y : List Int} {k : Nat} (hk : k < X.length) (h : ∀ t, evL cs t = evL (X.take (k + 1)) t * evL Y t + -((nth X k : Int) : Rat) * (t ^ k * evL Y t)) (t : Rat) : evL cs t = evL (X.take k) t * evL Y t := by
  rw [h, evL_take_succ _ _ _ hk]; grind

/-- The quotient's coefficients, filled from the last one down. -/
def fillUp (X : List Int) (k : Nat) : List Int := List.replicate k 0 ++ X.drop k
theorem fillUp_all (X : List Int) : fillUp X 0 = X := by simp [fillUp]
theorem fillUp_none (X : List Int) : fillUp X X.length = List.replicate X.length 0 := by simp [fillUp]
theorem fillUp_length {X : List Int} {k : Nat} (h : k ≤ X.length) : (fillUp X k).length = X.length := by simp [fillUp]; omega
theorem fillUp_set {X : List Int} {k : Nat} (h : k < X.length) : (fillUp X (k + 1)).set k (nth X k) = fillUp X k := by
  apply ext_nth (by rw [List.length_set, fillUp_length (by omega), fillUp_length (by omega)])
  intro i hi
  rw [List.length_set, fillUp_length (by omega)] at hi
  by_cases e : i = k
  · subst e
    rw [nth_set_same _ (by rw [fillUp_length (by omega)]; omega), fillUp, nth_zeros, if_neg (by omega), nth_drop]
    congr 1; omega
  · rw [nth_set_other _ (fun h => e h.symm), fillUp, fillUp, nth_zeros, nth_zeros, nth_drop, nth_drop]
    by_cases h1 : i < k
    · rw [if_pos (by omega), if_pos h1]
    · rw [if_neg (by omega), if_neg h1]; congr 1; omega

end Go.Proofs.Ytkimbhmijgfhnaa
