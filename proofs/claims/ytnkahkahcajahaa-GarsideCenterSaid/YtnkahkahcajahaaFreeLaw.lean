/- Words of a free group, reduced by a stack: the plain law. No program. -/
import Derived.Test.YtnkahkahcajahaaPermLaw
namespace Go.Proofs.Ytnkahkahcajahaa
open Go.RowKit Go.Sl

/-- One letter onto the stack (its top is the list's head). -/
def psh (s : List Int) (x : Int) : List Int :=
  match s with
  | [] => [x]
  | y :: t => if y = -x then t else x :: y :: t
def act (s xs : List Int) : List Int := xs.foldl psh s
def redL (xs : List Int) : List Int := (act [] xs).reverse
def invL (xs : List Int) : List Int := (xs.map (- ·)).reverse
/-- No letter beside its inverse. -/
def Rd : List Int → Prop
  | [] => True
  | [_] => True
  | y :: z :: t => z ≠ -y ∧ Rd (z :: t)

theorem Rd.tail {y : Int} {t : List Int} (h : Rd (y :: t)) : Rd t := by
  cases t with
  | nil => trivial
  | cons z t => exact h.2
theorem rd_nil : Rd [] := trivial
theorem psh_rd {s : List Int} (h : Rd s) (x : Int) : Rd (psh s x) := by
  cases s with
  | nil => trivial
  | cons y t =>
    rw [psh]
    split
    · exact h.tail
    · rename_i hn; exact ⟨hn, h⟩
theorem psh_psh {s : List Int} (h : Rd s) (x : Int) : psh (psh s x) (-x) = s := by
  cases s with
  | nil => simp [psh]
  | cons y t =>
    by_cases hy : y = -x
    · subst hy
      rw [psh, if_pos rfl]
      cases t with
      | nil => rfl
      | cons z t => rw [psh, if_neg h.1]
    · rw [psh, if_neg hy, psh, if_pos (by omega)]
theorem act_append (s xs ys : List Int) : act s (xs ++ ys) = act (act s xs) ys := List.foldl_append
theorem act_snoc (s xs : List Int) (x : Int) : act s (xs ++ [x]) = psh (act s xs) x := by rw [act_append]; rfl
theorem act_rd {s : List Int} (h : Rd s) (xs : List Int) : Rd (act s xs) := by
  induction xs generalizing s with
  | nil => exact h
  | cons x xs ih => exact ih (psh_rd h x)
/-- A word acts as its reduced word. -/
theorem act_redL {s : List Int} (h : Rd s) (xs : List Int) : act s (redL xs) = act s xs := by
  obtain ⟨n, hn⟩ : ∃ n, xs.length = n := ⟨_, rfl⟩
  induction n generalizing xs with
  | zero => rw [List.length_eq_zero_iff.1 hn]; rfl
  | succ n ih =>
    rcases List.eq_nil_or_concat xs with rfl | ⟨l, x, hxs⟩
    · simp at hn
    · rw [List.concat_eq_append] at hxs
      subst hxs
      have hl : l.length = n := by simpa using hn
      have h1 := ih l hl
      have e : redL (l ++ [x]) = (psh (act [] l) x).reverse := by rw [redL, act_snoc]
      rw [act_snoc, e, ← h1]
      rw [redL] at h1 ⊢
      cases hst : act [] l with
      | nil => simp [psh, act]
      | cons y t =>
        rw [psh]
        split
        · rename_i hy
          rw [List.reverse_cons, act_snoc]
          have h2 := psh_psh (act_rd h t.reverse) y
          rw [show -y = x from by omega] at h2
          rw [h2]
        · rw [List.reverse_cons, act_snoc]
theorem redL_redL (xs : List Int) : redL (redL xs) = redL xs := by rw [redL, act_redL rd_nil, redL]
theorem redL_assoc (a b c : List Int) : redL (redL (a ++ b) ++ c) = redL (a ++ redL (b ++ c)) := by
  have h1 : act [] (redL (a ++ b) ++ c) = act [] (a ++ (b ++ c)) := by
    rw [act_append, act_redL rd_nil, ← act_append, List.append_assoc]
  have h2 : act [] (a ++ redL (b ++ c)) = act [] (a ++ (b ++ c)) := by
    rw [act_append, act_redL (act_rd rd_nil _), ← act_append]
  exact (congrArg List.reverse h1).trans (congrArg List.reverse h2).symm
theorem act_invL {s : List Int} (h : Rd s) (xs : List Int) : act (act s xs) (invL xs) = s := by
  induction xs generalizing s with
  | nil => rfl
  | cons x xs ih =>
    have e : invL (x :: xs) = invL xs ++ [-x] := by simp [invL]
    rw [e, act_snoc]
    have := ih (psh_rd h x)
    rw [show act s (x :: xs) = act (psh s x) xs from rfl, this, psh_psh h]
theorem invL_invL (xs : List Int) : invL (invL xs) = xs := by
  simp [invL, List.map_reverse, Function.comp_def]
theorem redL_right (xs : List Int) : redL (xs ++ redL (invL xs)) = [] := by
  rw [redL, act_append, act_redL (act_rd rd_nil _), act_invL rd_nil]; rfl
theorem redL_left (xs : List Int) : redL (redL (invL xs) ++ xs) = [] := by
  rw [redL, act_append, act_redL rd_nil]
  have := act_invL (s := []) rd_nil (invL xs)
  rw [invL_invL] at this
  rw [this]; rfl
theorem psh_length (s : List Int) (x : Int) : (psh s x).length ≤ s.length + 1 := by
  cases s with
  | nil => simp [psh]
  | cons y t => rw [psh]; split <;> simp only [List.length_cons] <;> omega
theorem act_length (s xs : List Int) : (act s xs).length ≤ s.length + xs.length := by
  induction xs generalizing s with
  | nil => simp [act]
  | cons x xs ih => have h1 := ih (psh s x); have h2 := psh_length s x; simp only [List.length_cons]; show (act (psh s x) xs).length ≤ _; omega
theorem redL_length (xs : List Int) : (redL xs).length ≤ xs.length := by have := act_length [] xs; simpa [redL] using this
theorem psh_mem {s : List Int} {x y : Int} (h : y ∈ psh s x) : y ∈ s ∨ y = x := by
  cases s with
  | nil => simp [psh] at h; exact .inr h
  | cons z t =>
    rw [psh] at h
    split at h
    · exact .inl (List.mem_cons_of_mem _ h)
    · rcases List.mem_cons.1 h with h | h
      · exact .inr h
      · exact .inl h
theorem act_mem {s xs : List Int} {y : Int} (h : y ∈ act s xs) : y ∈ s ∨ y ∈ xs := by
  induction xs generalizing s with
  | nil => exact .inl h
  | cons x xs ih =>
    rcases ih (s := psh s x) h with h' | h'
    · rcases psh_mem h' with h'' | h''
      · exact .inl h''
      · exact .inr (by simp [h''])
    · exact .inr (List.mem_cons_of_mem _ h')
theorem redL_mem {xs : List Int} {y : Int} (h : y ∈ redL xs) : y ∈ xs := by
  rw [redL, List.mem_reverse] at h
  rcases act_mem h with h' | h'
  · cases h'
  · exact h'

end Go.Proofs.Ytnkahkahcajahaa
