/- Ranks of permutations: the rank leads back, and it follows the lexicographic order. No program. -/
import Derived.Test.YtnkahkahcajahaaPermLaw
namespace Go.Proofs.Ytnkahkahcajahaa
open Go.RowKit Go.Sl

def fact : Nat → Nat
  | 0 => 1
  | n + 1 => (n + 1) * fact n
theorem fact_pos (n : Nat) : 0 < fact n := by
  induction n with
  | zero => decide
  | succ n ih => exact Nat.mul_pos (by omega) ih
/-- How many of the numbers are smaller. -/
def less (xs : List Int) (x : Int) : Nat := (xs.filter fun y => decide (y < x)).length
theorem smallerTo_all (xs : List Int) (x : Int) (n : Nat) (h : xs.length ≤ n) : smallerTo xs x n = less xs x := by
  unfold smallerTo less; rw [List.take_of_length_le h]
/-- The rank, from the first element on. -/
def rk : List Int → Nat
  | [] => 0
  | x :: xs => less xs x * fact xs.length + rk xs
theorem drop_nth (xs : List Int) (k : Nat) (h : k < xs.length) : xs.drop k = nth xs k :: xs.drop (k + 1) := by
  rw [nth_lt h]; exact List.drop_eq_getElem_cons h
theorem rankTo_rk (xs : List Int) (k : Nat) (h : k ≤ xs.length) : rankTo xs k * fact (xs.length - k) + rk (xs.drop k) = rk xs := by
  induction k with
  | zero => simp [rankTo]
  | succ k ih =>
    have h1 := ih (by omega)
    rw [drop_nth xs k (by omega), rk, List.length_drop] at h1
    obtain ⟨m, hm⟩ : ∃ m, xs.length - k = m + 1 := ⟨xs.length - (k + 1), by omega⟩
    have hm2 : xs.length - (k + 1) = m := by omega
    rw [hm, hm2, fact] at h1
    rw [rankTo, smallerTo_all _ _ _ (by simp), hm, hm2, ← h1]
    grind
theorem rankL_rk (xs : List Int) : rankL xs = rk xs := by
  have h := rankTo_rk xs xs.length (Nat.le_refl _)
  simpa [rankL, fact, rk] using h
theorem less_le (xs : List Int) (x : Int) : less xs x ≤ xs.length := List.length_filter_le _ _
theorem rk_lt (xs : List Int) : rk xs < fact xs.length := by
  induction xs with
  | nil => decide
  | cons x xs ih =>
    rw [rk, List.length_cons, fact]
    have h1 : less xs x * fact xs.length ≤ xs.length * fact xs.length := Nat.mul_le_mul_right _ (less_le xs x)
    have h2 : (xs.length + 1) * fact xs.length = xs.length * fact xs.length + fact xs.length := Nat.succ_mul _ _
    omega

/-- Strictly ascending. -/
def Asc (l : List Int) : Prop := l.Pairwise (· < ·)
theorem asc_iota (n : Nat) : Asc (iota n) := by
  unfold Asc iota
  rw [List.pairwise_map]
  refine List.Pairwise.imp ?_ List.pairwise_lt_range
  intro a b h
  simpa using h
theorem Asc.erase {l : List Int} (h : Asc l) (i : Nat) : Asc (l.eraseIdx i) := List.Pairwise.sublist (List.eraseIdx_sublist l i) h
theorem Asc.lt {l : List Int} (h : Asc l) {i j : Nat} (hij : i < j) (hj : j < l.length) : nth l i < nth l j := by
  rw [nth_lt hj, nth_lt (by omega)]
  exact List.pairwise_iff_getElem.1 h i j (by omega) hj hij
theorem less_perm {a b : List Int} (h : a.Perm b) (x : Int) : less a x = less b x := (h.filter _).length_eq
theorem less_cons_self (xs : List Int) (x : Int) : less (x :: xs) x = less xs x := by simp [less]
/-- In an ascending list as many numbers are smaller than element i as stand before it. -/
theorem less_nth {l : List Int} (h : Asc l) (i : Nat) (hi : i < l.length) : less l (nth l i) = i := by
  induction l generalizing i with
  | nil => simp at hi
  | cons a l ih =>
    have ha := List.pairwise_cons.1 h
    cases i with
    | zero =>
      unfold less
      rw [List.filter_eq_nil_iff.2]; rfl
      intro y hy
      rcases List.mem_cons.1 hy with rfl | hy
      · simp [nth]
      · have := ha.1 y hy; simp [nth]; omega
    | succ i =>
      have hi' : i < l.length := by simpa using hi
      have e : nth (a :: l) (i + 1) = nth l i := by simp [nth]
      rw [e]
      have h1 := ih ha.2 i hi'
      have h2 := ha.1 _ (nth_mem hi')
      unfold less at h1 ⊢
      rw [List.filter_cons, if_pos (by simpa using h2), List.length_cons, h1]
theorem asc_index {x : Int} {xs l : List Int} (h : Asc l) (hp : (x :: xs).Perm l) : less xs x < l.length ∧ nth l (less xs x) = x ∧ xs.Perm (l.eraseIdx (less xs x)) := by
  have hm : x ∈ l := hp.mem_iff.1 (by simp)
  obtain ⟨i, hi, he⟩ := List.getElem_of_mem hm
  have hl : less xs x = i := by
    have h1 := less_nth h i hi
    rw [nth_lt hi, he] at h1
    rw [← h1, ← less_perm hp x, less_cons_self]
  rw [hl]
  refine ⟨hi, by rw [nth_lt hi]; exact he, ?_⟩
  have h2 : (x :: xs).Perm (x :: l.eraseIdx i) := by
    refine hp.trans ?_
    have h3 := (erase_perm l i hi).symm
    rwa [he] at h3
  exact h2.cons_inv

/-- What Unrank does: the element at the place that the rank says, then the rest. -/
def unrankGo : Nat → List Int → Nat → List Int
  | 0, _, _ => []
  | f + 1, left, r => nth left (r / fact f) :: unrankGo f (left.eraseIdx (r / fact f)) (r % fact f)
theorem unrank_rk (xs : List Int) : ∀ l, Asc l → xs.Perm l → unrankGo xs.length l (rk xs) = xs := by
  induction xs with
  | nil => intro l _ _; rfl
  | cons x xs ih =>
    intro l h hp
    obtain ⟨h1, h2, h3⟩ := asc_index h hp
    have hr := rk_lt xs
    have hf := fact_pos xs.length
    have hd : (less xs x * fact xs.length + rk xs) / fact xs.length = less xs x := by
      rw [Nat.add_comm, Nat.add_mul_div_right _ _ hf, Nat.div_eq_of_lt hr]; omega
    have hm : (less xs x * fact xs.length + rk xs) % fact xs.length = rk xs := by
      rw [Nat.add_comm, Nat.add_mul_mod_self_right, Nat.mod_eq_of_lt hr]
    rw [List.length_cons, unrankGo, rk, hd, hm, h2, ih _ (h.erase _) h3]

/-- The comparison of lists: -1, 0, 1. -/
def cmpL : List Int → List Int → Int
  | [], [] => 0
  | [], _ :: _ => -1
  | _ :: _, [] => 1
  | x :: xs, y :: ys => if x < y then -1 else if y < x then 1 else cmpL xs ys
theorem rk_cmp (xs : List Int) : ∀ ys l, Asc l → xs.Perm l → ys.Perm l → (rk xs < rk ys ↔ cmpL xs ys < 0) := by
  induction xs with
  | nil =>
    intro ys l _ h1 h2
    have : l = [] := h1.symm.eq_nil
    subst this
    have : ys = [] := h2.eq_nil
    subst this
    simp [rk, cmpL]
  | cons x xs ih =>
    intro ys l h h1 h2
    match ys, h2 with
    | [], h2 => have := h2.symm.eq_nil; subst this; have := h1.eq_nil; simp at this
    | y :: ys, h2 =>
      obtain ⟨a1, a2, a3⟩ := asc_index h h1
      obtain ⟨b1, b2, b3⟩ := asc_index h h2
      have hlen : xs.length = ys.length := by
        have := h1.length_eq; have := h2.length_eq; simp at *; omega
      have hx := rk_lt xs
      have hy := rk_lt ys
      have hf := fact_pos ys.length
      rw [rk, rk, cmpL, hlen]
      rw [hlen] at hx
      by_cases hxy : x < y
      · rw [if_pos hxy]
        have hs : less xs x < less ys y := by
          rcases Nat.lt_or_ge (less xs x) (less ys y) with h' | h'
          · exact h'
          · exfalso
            rcases Nat.lt_or_eq_of_le h' with h' | h'
            · have := h.lt h' a1; omega
            · rw [h'] at b2; omega
        have h3 : (less xs x + 1) * fact ys.length ≤ less ys y * fact ys.length := Nat.mul_le_mul_right _ hs
        rw [Nat.succ_mul] at h3
        constructor
        · intro _; decide
        · intro _; omega
      · rw [if_neg hxy]
        by_cases hyx : y < x
        · rw [if_pos hyx]
          have hs : less ys y < less xs x := by
            rcases Nat.lt_or_ge (less ys y) (less xs x) with h' | h'
            · exact h'
            · exfalso
              rcases Nat.lt_or_eq_of_le h' with h' | h'
              · have := h.lt h' b1; omega
              · rw [h'] at a2; omega
          have h3 : (less ys y + 1) * fact ys.length ≤ less xs x * fact ys.length := Nat.mul_le_mul_right _ hs
          rw [Nat.succ_mul] at h3
          constructor
          · intro _; omega
          · intro hc; exact absurd hc (by decide)
        · rw [if_neg hyx]
          obtain rfl : x = y := by omega
          have hsame : less xs x = less ys x := by
            have e1 := less_perm h1 x
            have e2 := less_perm h2 x
            rw [less_cons_self] at e1 e2
            omega
          rw [hsame] at a3 ⊢
          have h4 := ih ys _ (h.erase (less ys x)) a3 b3
          rw [← h4]
          omega

end Go.Proofs.Ytnkahkahcajahaa
