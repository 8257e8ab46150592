/- Artin's representation: what a letter does to the list of images. -/
import Derived.Test.YtnkahkahcajahaaFreeLaw
import Derived.Test.YtnkahkahcajahaaGrid
namespace Go.Proofs.Ytnkahkahcajahaa
open Go.RowKit Go.Sl

/-- One letter, on the images of the word behind it. -/
def stepA (xss : List (List Int)) (x : Int) : List (List Int) :=
  if 0 < x then (xss.set (x.natAbs - 1) (redL (nthr xss (x.natAbs - 1) ++ nthr xss x.natAbs ++ invL (nthr xss (x.natAbs - 1))))).set x.natAbs (nthr xss (x.natAbs - 1))
  else (xss.set (x.natAbs - 1) (nthr xss x.natAbs)).set x.natAbs (redL (invL (nthr xss x.natAbs) ++ nthr xss (x.natAbs - 1) ++ nthr xss x.natAbs))
def gensA (n : Nat) : List (List Int) := (List.range n).map fun (i : Nat) => [(i : Int) + 1]
def imagesA (n : Nat) (xs : List Int) : List (List Int) := xs.reverse.foldl stepA (gensA n)

theorem stepA_length (xss : List (List Int)) (x : Int) : (stepA xss x).length = xss.length := by
  unfold stepA; split <;> simp
theorem gensA_length (n : Nat) : (gensA n).length = n := by simp [gensA]
theorem gensA_succ (n : Nat) : gensA (n + 1) = gensA n ++ [[(n : Int) + 1]] := by simp [gensA, List.range_succ]

/-- All letters are those of the generators. -/
def SmallA (xss : List (List Int)) : Prop := ∀ r ∈ xss, (∀ x ∈ r, -1000 ≤ x ∧ x ≤ 1000) ∧ r.length ≤ 3000
end Go.Proofs.Ytnkahkahcajahaa
