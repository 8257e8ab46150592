/- Braid words that are equal by a relation: the same permutation, sum and Burau matrix, in plain Lean. -/
import Derived.Test.YtdmogoeafjpphaaBSum
import Derived.Test.YtdmogoeafjpphaaArtinGroup
namespace Go.Proofs.Ytdmogoeafjpphaa
open Go.RowKit Go.Sl

theorem permB_append (xs ys : List Int) (j : Nat) : permB (xs ++ ys) j = permB ys (permB xs j) := by unfold permB; rw [List.foldl_append]
theorem sides_perm {P Q : Int} (hp : 1 ≤ P) (hq : 1 ≤ Q) (j : Nat) : permB (sidesL P Q).1 j = permB (sidesL P Q).2 j := by
  unfold sidesL
  obtain ⟨a, rfl⟩ : ∃ a : Nat, P = a + 1 := ⟨(P - 1).toNat, by omega⟩
  obtain ⟨b, rfl⟩ : ∃ b : Nat, Q = b + 1 := ⟨(Q - 1).toNat, by omega⟩
  have ea : ((a : Int) + 1).natAbs = a + 1 := by omega
  have eb : ((b : Int) + 1).natAbs = b + 1 := by omega
  have ea' : (-((a : Int) + 1)).natAbs = a + 1 := by omega
  have eb' : (-((b : Int) + 1)).natAbs = b + 1 := by omega
  by_cases h1 : (a : Int) + 1 - (b + 1) = 1 ∨ (b : Int) + 1 - (a + 1) = 1
  · rw [if_pos h1]
    simp only [permB, List.foldl_cons, List.foldl_nil, swp, ea, eb]
    grind
  · rw [if_neg h1]
    by_cases h2 : (a : Int) + 1 = b + 1
    · rw [if_pos h2]
      simp only [permB, List.foldl_cons, List.foldl_nil, swp, ea, ea']
      grind
    · rw [if_neg h2]
      simp only [permB, List.foldl_cons, List.foldl_nil, swp, ea, eb, ea', eb']
      grind
theorem sides_sum {P Q : Int} (hp : 1 ≤ P) (hq : 1 ≤ Q) : sumL (sidesL P Q).1 = sumL (sidesL P Q).2 := by
  have e1 : sgnI P = 1 := by unfold sgnI; rw [if_neg (by omega)]
  have e2 : sgnI Q = 1 := by unfold sgnI; rw [if_neg (by omega)]
  have e3 : sgnI (-P) = -1 := by unfold sgnI; rw [if_pos (by omega)]
  have e4 : sgnI (-Q) = -1 := by unfold sgnI; rw [if_pos (by omega)]
  unfold sidesL
  split
  · simp [sumL, e1, e2]
  · split
    · simp [sumL, e1, e3]
    · simp [sumL, e1, e2, e3, e4]
theorem sides_acts {t : Rat} (ht : t ≠ 0) {P Q : Int} (hp : 1 ≤ P) (hq : 1 ≤ Q) (f : Nat → Rat) : bacts t (sidesL P Q).1 f = bacts t (sidesL P Q).2 f := by
  unfold sidesL
  split
  · rename_i h
    simp only [bacts, List.foldl_cons, List.foldl_nil]
    have hb : ∀ (x : Int) (g : Nat → Rat), 1 ≤ x → bact t x g = bactP t (x.natAbs - 1) g := fun x g hx => by unfold bact; rw [if_neg (by omega)]
    simp only [hb P _ hp, hb Q _ hq]
    rcases h with h | h
    · rw [show P.natAbs - 1 = Q.natAbs - 1 + 1 from by omega]; exact (bactP_braid _ f).symm
    · rw [show Q.natAbs - 1 = P.natAbs - 1 + 1 from by omega]; exact bactP_braid _ f
  · split
    · simp only [bacts, List.foldl_cons, List.foldl_nil]
      exact bact_inv ht f (by omega)
    · rename_i h1 h2
      simp only [bacts, List.foldl_cons, List.foldl_nil]
      exact bact_far f (by omega) (by omega) (by omega)

/-- A word with one of two sides in the middle. -/
theorem mid_perm {n : Nat} (hn : n ≤ 1000) {X Y A B : List Int} (hA : ∀ x ∈ X ++ A ++ Y, x ≠ 0 ∧ x.natAbs < n) (hB : ∀ x ∈ X ++ B ++ Y, x ≠ 0 ∧ x.natAbs < n) (h : ∀ j, permB A j = permB B j) :
    backL (strandsL n (X ++ A ++ Y)) = backL (strandsL n (X ++ B ++ Y)) := by
  refine ext_nth (by rw [backL_length, backL_length, strandsL_length, strandsL_length]) fun j hj => ?_
  have hj' : j < n := by rw [backL_length, strandsL_length] at hj; exact hj
  rw [back_strands hn hA hj', back_strands hn hB hj']
  simp only [permB_append, h]
theorem mid_sum {X Y A B : List Int} (h : sumL A = sumL B) : sumL (X ++ A ++ Y) = sumL (X ++ B ++ Y) := by simp only [sumL_append, h]
theorem mid_burau {n : Nat} {X Y A B : List Int} (hA : NWord n (X ++ A ++ Y)) (hB : NWord n (X ++ B ++ Y)) (h : ∀ t : Rat, t ≠ 0 → ∀ f, bacts t A f = bacts t B f) :
    burauM n (X ++ A ++ Y) = burauM n (X ++ B ++ Y) :=
  burauM_of_acts hA hB fun t ht f k _ => by simp only [bacts_append, h t ht]

end Go.Proofs.Ytdmogoeafjpphaa
