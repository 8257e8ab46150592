/- The relations of the braid group hold of the lists of images. -/
import Derived.Test.YtnkahkahcajahaaArtinLaw
import Derived.Test.YtnkahkahcajahaaRootLaw
namespace Go.Proofs.Ytnkahkahcajahaa
open Go.RowKit Go.Sl

theorem nthr_set (X : List (List Int)) (i j : Nat) (r : List Int) : nthr (X.set i r) j = if i = j ∧ j < X.length then r else nthr X j := by
  unfold nthr
  rw [List.getD_eq_getElem?_getD, List.getD_eq_getElem?_getD, List.getElem?_set]
  by_cases h : i = j
  · subst h
    by_cases h2 : i < X.length
    · simp [h2]
    · simp [h2]
  · simp [h]
theorem ext_nthr {X Y : List (List Int)} (hl : X.length = Y.length) (h : ∀ j, j < X.length → nthr X j = nthr Y j) : X = Y := by
  refine List.ext_getElem hl fun j h1 h2 => ?_
  have := h j h1
  rwa [nthr_lt h1, nthr_lt h2] at this
theorem nthr_pos {X : List (List Int)} {i : Nat} (hi : i + 1 < X.length) (j : Nat) :
    nthr (stepA X ((i : Int) + 1)) j = if j = i + 1 then nthr X i else if j = i then redL (nthr X i ++ nthr X (i + 1) ++ invL (nthr X i)) else nthr X j := by
  have hn : ((i : Int) + 1).natAbs = i + 1 := by omega
  unfold stepA
  rw [if_pos (by omega), hn, Nat.add_sub_cancel, nthr_set, nthr_set, List.length_set]
  by_cases h : j = i + 1
  · subst h; simp [hi]
  · by_cases h2 : j = i
    · subst h2; simp [show j < X.length by omega]
    · simp [h, h2, Ne.symm h, Ne.symm h2]
theorem nthr_neg {X : List (List Int)} {i : Nat} (hi : i + 1 < X.length) (j : Nat) :
    nthr (stepA X (-((i : Int) + 1))) j = if j = i + 1 then redL (invL (nthr X (i + 1)) ++ nthr X i ++ nthr X (i + 1)) else if j = i then nthr X (i + 1) else nthr X j := by
  have hn : (-((i : Int) + 1)).natAbs = i + 1 := by omega
  unfold stepA
  rw [if_neg (by omega), hn, Nat.add_sub_cancel, nthr_set, nthr_set, List.length_set]
  by_cases h : j = i + 1
  · subst h; simp [hi]
  · by_cases h2 : j = i
    · subst h2; simp [show j < X.length by omega]
    · simp [h, h2, Ne.symm h, Ne.symm h2]

/-- All rows are reduced. -/
def RdA (X : List (List Int)) : Prop := ∀ j, Rd (nthr X j)
theorem rdA_set {X : List (List Int)} (h : RdA X) (i : Nat) {r : List Int} (hr : Rd r) : RdA (X.set i r) := fun j => by
  rw [nthr_set]; split
  · exact hr
  · exact h j
theorem rdA_step {X : List (List Int)} (h : RdA X) (c : Int) : RdA (stepA X c) := by
  unfold stepA
  split
  · exact rdA_set (rdA_set h _ (redL_rd _)) _ (h _)
  · exact rdA_set (rdA_set h _ (h _)) _ (redL_rd _)
theorem nthr_gens {n j : Nat} (hj : j < n) : nthr (gensA n) j = [(j : Int) + 1] := by
  rw [nthr_lt (by rw [gensA_length]; exact hj)]; simp [gensA]
theorem nthr_over {X : List (List Int)} {j : Nat} (h : X.length ≤ j) : nthr X j = [] := by simp [nthr, h]
theorem rdA_gens (n : Nat) : RdA (gensA n) := fun j => by
  by_cases h : j < n
  · rw [nthr_gens h]; trivial
  · rw [nthr_over (by rw [gensA_length]; omega)]; trivial
theorem rdA_fold (xs : List Int) : ∀ {X : List (List Int)}, RdA X → RdA (xs.foldl stepA X) := by
  induction xs with
  | nil => exact fun h => h
  | cons x t ih => exact fun h => ih (rdA_step h x)
theorem foldA_len (ys : List Int) : ∀ X : List (List Int), (ys.foldl stepA X).length = X.length := by
  induction ys with
  | nil => exact fun _ => rfl
  | cons y t ih => exact fun X => by rw [List.foldl_cons, ih, stepA_length]

theorem invL_append (a b : List Int) : invL (a ++ b) = invL b ++ invL a := by simp [invL]
theorem act_inv_redL {s : List Int} (h : Rd s) (p : List Int) : act s (invL (redL p)) = act s (invL p) := by
  have h1 : act (act s (invL p)) p = s := act_cancel h p
  have h2 : act (act s (invL p)) (redL p) = s := by rw [act_redL (act_rd h _), h1]
  have h3 := act_invL (act_rd h (invL p)) (redL p)
  rw [h2] at h3
  exact h3
theorem redL_eq {a b : List Int} (h : act [] a = act [] b) : redL a = redL b := congrArg List.reverse h
/-- x y x^-1, then back. -/
theorem conj_back (a : List Int) {b : List Int} (hb : Rd b) : redL (invL a ++ redL (a ++ b ++ invL a) ++ a) = b := by
  rw [← redL_of_rd hb]
  refine redL_eq ?_
  have h0 := rd_nil
  rw [act_append, act_append, act_redL (act_rd rd_nil _), act_append, act_append, act_cancel rd_nil, act_cancel (act_rd (by exact rd_nil) _)]
  rw [redL_of_rd hb]
theorem conj_forth (b : List Int) {a : List Int} (ha : Rd a) : redL (b ++ redL (invL b ++ a ++ b) ++ invL b) = a := by
  have h := conj_back (invL b) ha
  rwa [invL_invL] at h
theorem conj_conj (a b c : List Int) : redL (redL (a ++ b ++ invL a) ++ redL (a ++ c ++ invL a) ++ invL (redL (a ++ b ++ invL a))) = redL (a ++ redL (b ++ c ++ invL b) ++ invL a) := by
  refine redL_eq ?_
  have e : invL (a ++ b ++ invL a) = a ++ invL b ++ invL a := by rw [invL_append, invL_append, invL_invL, List.append_assoc]
  simp only [act_append]
  rw [act_redL rd_nil, act_redL (act_rd rd_nil _), act_inv_redL (act_rd (act_rd rd_nil _) _), e, act_redL (act_rd rd_nil _)]
  simp only [act_append]
  rw [act_cancel (act_rd (act_rd rd_nil _) _), act_cancel (act_rd (act_rd (act_rd rd_nil _) _) _)]

theorem step_pos_neg {X : List (List Int)} (h : RdA X) {i : Nat} (hi : i + 1 < X.length) : stepA (stepA X ((i : Int) + 1)) (-((i : Int) + 1)) = X := by
  refine ext_nthr (by rw [stepA_length, stepA_length]) fun j _ => ?_
  have hi' : i + 1 < (stepA X ((i : Int) + 1)).length := by rw [stepA_length]; exact hi
  rw [nthr_neg hi']
  simp only [nthr_pos hi]
  by_cases h1 : j = i + 1
  · subst h1; simp; simpa using conj_back (nthr X i) (h (i + 1))
  · by_cases h2 : j = i
    · subst h2; simp
    · simp [h1, h2]
theorem step_neg_pos {X : List (List Int)} (h : RdA X) {i : Nat} (hi : i + 1 < X.length) : stepA (stepA X (-((i : Int) + 1))) ((i : Int) + 1) = X := by
  refine ext_nthr (by rw [stepA_length, stepA_length]) fun j _ => ?_
  have hi' : i + 1 < (stepA X (-((i : Int) + 1))).length := by rw [stepA_length]; exact hi
  rw [nthr_pos hi']
  simp only [nthr_neg hi]
  by_cases h1 : j = i + 1
  · subst h1; simp
  · by_cases h2 : j = i
    · subst h2; simp; simpa using conj_forth (nthr X (j + 1)) (h j)
    · simp [h1, h2]
/-- A letter as a place and a sign. -/
theorem letter_cases {c : Int} {n : Nat} (h0 : c ≠ 0) (hn : c.natAbs < n) : ∃ i : Nat, i + 1 < n ∧ (c = (i : Int) + 1 ∨ c = -((i : Int) + 1)) := ⟨c.natAbs - 1, by omega, by omega⟩
theorem step_inv {X : List (List Int)} (h : RdA X) {c : Int} (h0 : c ≠ 0) (hn : c.natAbs < X.length) : stepA (stepA X c) (-c) = X := by
  obtain ⟨i, hi, rfl | rfl⟩ := letter_cases h0 hn
  · exact step_pos_neg h hi
  · rw [Int.neg_neg]; exact step_neg_pos h hi
theorem fold_inj (xs : List Int) : ∀ {X Y : List (List Int)}, RdA X → RdA Y → X.length = Y.length → (∀ x ∈ xs, x ≠ 0 ∧ x.natAbs < X.length) → xs.foldl stepA X = xs.foldl stepA Y → X = Y := by
  induction xs with
  | nil => exact fun _ _ _ _ h => h
  | cons x t ih =>
    intro X Y hX hY hl hx h
    have h1 := ih (rdA_step hX x) (rdA_step hY x) (by rw [stepA_length, stepA_length, hl]) (fun y hy => by rw [stepA_length]; exact hx y (List.mem_cons_of_mem _ hy)) h
    have hxx := hx x List.mem_cons_self
    rw [← step_inv hX hxx.1 hxx.2, h1, step_inv hY hxx.1 (by omega)]
theorem braid_step {X : List (List Int)} {i : Nat} (hi : i + 2 < X.length) :
    stepA (stepA (stepA X ((i : Int) + 1)) (((i + 1 : Nat) : Int) + 1)) ((i : Int) + 1) = stepA (stepA (stepA X (((i + 1 : Nat) : Int) + 1)) ((i : Int) + 1)) (((i + 1 : Nat) : Int) + 1) := by
  obtain ⟨A, hA⟩ : ∃ A, A = stepA X ((i : Int) + 1) := ⟨_, rfl⟩
  obtain ⟨B, hB⟩ : ∃ B, B = stepA A (((i + 1 : Nat) : Int) + 1) := ⟨_, rfl⟩
  obtain ⟨C, hC⟩ : ∃ C, C = stepA X (((i + 1 : Nat) : Int) + 1) := ⟨_, rfl⟩
  obtain ⟨D, hD⟩ : ∃ D, D = stepA C ((i : Int) + 1) := ⟨_, rfl⟩
  have la : A.length = X.length := by rw [hA, stepA_length]
  have lb : B.length = X.length := by rw [hB, stepA_length, la]
  have lc : C.length = X.length := by rw [hC, stepA_length]
  have ld : D.length = X.length := by rw [hD, stepA_length, lc]
  have ha := fun j => nthr_pos (X := X) (i := i) (by omega) j
  simp only [← hA] at ha
  have hb := fun j => nthr_pos (X := A) (i := i + 1) (by omega) j
  simp only [← hB] at hb
  have hc := fun j => nthr_pos (X := X) (i := i + 1) (by omega) j
  simp only [← hC] at hc
  have hd := fun j => nthr_pos (X := C) (i := i) (by omega) j
  simp only [← hD] at hd
  rw [← hA, ← hB, ← hC, ← hD]
  refine ext_nthr (by simp only [stepA_length, lb, ld]) fun j _ => ?_
  rw [nthr_pos (X := B) (by omega), nthr_pos (X := D) (i := i + 1) (by omega)]
  clear hA hB hC hD
  have n1 : i ≠ i + 1 + 1 := by omega
  have n2 : i + 1 + 1 ≠ i := by omega
  by_cases h1 : j = i
  · subst h1
    simp only [hb, ha, hd, hc, if_pos, n1, n2, if_false, Nat.succ_ne_self, Nat.left_eq_add, Nat.add_eq_left, Nat.add_right_cancel_iff, reduceIte, Nat.one_ne_zero]
    exact conj_conj (nthr X j) (nthr X (j + 1)) (nthr X (j + 2))
  · by_cases h2 : j = i + 1
    · subst h2; simp [hb, ha, hd, hc, n1, n2]
    · by_cases h3 : j = i + 2
      · subst h3; simp [hb, ha, hd, hc, n1, n2]
      · simp [hb, ha, hd, hc, h1, h2, h3]
theorem far_step {X : List (List Int)} {c d : Int} (hc : c ≠ 0) (hd : d ≠ 0) (hcl : c.natAbs < X.length) (hdl : d.natAbs < X.length) (hf : c.natAbs + 2 ≤ d.natAbs ∨ d.natAbs + 2 ≤ c.natAbs) : stepA (stepA X c) d = stepA (stepA X d) c := by
  obtain ⟨i, hi, ec⟩ := letter_cases hc hcl
  obtain ⟨k, hk, ed⟩ := letter_cases hd hdl
  have hik : i + 2 ≤ k ∨ k + 2 ≤ i := by omega
  have n1 : k ≠ i := by omega
  have n2 : k ≠ i + 1 := by omega
  have n3 : k + 1 ≠ i := by omega
  have n4 : i ≠ k := by omega
  have n5 : i + 1 ≠ k := by omega
  have n6 : i ≠ k + 1 := by omega
  refine ext_nthr (by simp only [stepA_length]) fun j _ => ?_
  rcases ec with rfl | rfl <;> rcases ed with rfl | rfl <;>
    simp only [nthr_pos (X := stepA X _) (i := k) (by simp only [stepA_length]; omega), nthr_neg (X := stepA X _) (i := k) (by simp only [stepA_length]; omega), nthr_pos (X := stepA X _) (i := i) (by simp only [stepA_length]; omega), nthr_neg (X := stepA X _) (i := i) (by simp only [stepA_length]; omega), nthr_pos (X := X) (i := k) (by omega), nthr_neg (X := X) (i := k) (by omega), nthr_pos (X := X) (i := i) (by omega), nthr_neg (X := X) (i := i) (by omega)] <;>
    (by_cases h1 : j = i
     · subst h1; simp [n1, n2, n3, n4, n5, n6]
     · by_cases h2 : j = i + 1
       · subst h2; simp [n1, n2, n3, n4, n5, n6]
       · by_cases h3 : j = k
         · subst h3; simp [n1, n2, n3, n4, n5, n6]
         · by_cases h4 : j = k + 1
           · subst h4; simp [n1, n2, n3, n4, n5, n6]
           · simp [h1, h2, h3, h4])

/-- Two sides of a relation. -/
def sidesL (i k : Int) : List Int × List Int :=
  if i - k = 1 ∨ k - i = 1 then ([i, k, i], [k, i, k]) else if i = k then ([i, -i], []) else ([i, -k], [-k, i])
theorem sides_fold {X : List (List Int)} (h : RdA X) {i k : Int} (hi : 1 ≤ i ∧ i < X.length) (hk : 1 ≤ k ∧ k < X.length) : (sidesL i k).1.reverse.foldl stepA X = (sidesL i k).2.reverse.foldl stepA X := by
  unfold sidesL
  by_cases h1 : i - k = 1 ∨ k - i = 1
  · rw [if_pos h1]
    simp only [List.reverse_cons, List.reverse_nil, List.nil_append, List.cons_append, List.foldl_cons, List.foldl_nil]
    rcases h1 with h1 | h1
    · obtain ⟨m, rfl⟩ : ∃ m : Nat, k = (m : Int) + 1 := ⟨(k - 1).toNat, by omega⟩
      obtain rfl : i = ((m + 1 : Nat) : Int) + 1 := by omega
      exact (braid_step (by omega)).symm
    · obtain ⟨m, rfl⟩ : ∃ m : Nat, i = (m : Int) + 1 := ⟨(i - 1).toNat, by omega⟩
      obtain rfl : k = ((m + 1 : Nat) : Int) + 1 := by omega
      exact braid_step (by omega)
  · rw [if_neg h1]
    by_cases h2 : i = k
    · rw [if_pos h2]
      simp only [List.reverse_cons, List.reverse_nil, List.nil_append, List.cons_append, List.foldl_cons, List.foldl_nil]
      have := step_inv (c := -i) h (by omega) (by omega)
      rwa [Int.neg_neg] at this
    · rw [if_neg h2]
      simp only [List.reverse_cons, List.reverse_nil, List.nil_append, List.cons_append, List.foldl_cons, List.foldl_nil]
      exact far_step (by omega) (by omega) (by omega) (by omega) (by omega)
theorem images_rel (n : Nat) (x y : List Int) {i k : Int} (hi : 1 ≤ i ∧ i < n) (hk : 1 ≤ k ∧ k < n) : imagesA n (x ++ (sidesL i k).1 ++ y) = imagesA n (x ++ (sidesL i k).2 ++ y) := by
  unfold imagesA
  simp only [List.reverse_append, List.foldl_append]
  rw [sides_fold (rdA_fold _ (rdA_gens n)) (by rw [foldA_len, gensA_length]; exact hi) (by rw [foldA_len, gensA_length]; exact hk)]
theorem images_more (n : Nat) (x : List Int) {c : Int} (hc : 1 ≤ c ∧ c < n) (hx : ∀ z ∈ x, z ≠ 0 ∧ -(n : Int) < z ∧ z < n) : imagesA n x ≠ imagesA n (x ++ [c]) := by
  intro h
  unfold imagesA at h
  simp only [List.reverse_append, List.foldl_append, List.reverse_cons, List.reverse_nil, List.nil_append, List.foldl_cons, List.foldl_nil] at h
  have h2 := fold_inj _ (rdA_gens n) (rdA_step (rdA_gens n) c) (by rw [stepA_length]) (fun z hz => by
    have := hx z (List.mem_reverse.1 hz)
    rw [gensA_length]
    omega) h
  obtain ⟨m, rfl⟩ : ∃ m : Nat, c = (m : Int) + 1 := ⟨(c - 1).toNat, by omega⟩
  have hm : m + 1 < (gensA n).length := by rw [gensA_length]; omega
  have h3 : nthr (gensA n) (m + 1) = nthr (stepA (gensA n) ((m : Int) + 1)) (m + 1) := by rw [← h2]
  rw [nthr_pos hm, if_pos rfl, nthr_gens (by omega), nthr_gens (by omega)] at h3
  have := List.cons.inj h3
  omega
end Go.Proofs.Ytnkahkahcajahaa
