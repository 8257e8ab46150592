/- Matrices of ints: timbmake.Matrix and package intmatrix, walked. -/
import Derived.Test.YtpnbkoihglppnaaGrid
import Derived.Test.YtpnbkoihglppnaaPerm
namespace Go.Proofs.Ytpnbkoihglppnaa
open Go.RowKit Go.Sl

def ent (zs : List Int) (b k : Nat) : Int := if k < zs.length then nth zs k % (2 * (b : Int) + 1) - b else 0
def rowL (zs : List Int) (b cols k0 : Nat) : List Int := (List.range cols).map fun j => ent zs b (k0 + j)
def matL (n cols : Nat) (zs : List Int) (b : Nat) : List (List Int) := (List.range n).map fun i => rowL zs b cols (i * cols)
theorem rowL_length (zs : List Int) (b cols k0 : Nat) : (rowL zs b cols k0).length = cols := by simp [rowL]
theorem nth_rowL (zs : List Int) (b cols k0 j : Nat) (h : j < cols) : nth (rowL zs b cols k0) j = ent zs b (k0 + j) := by
  rw [nth_lt (by rw [rowL_length]; exact h)]; simp [rowL]
theorem matL_length (n cols : Nat) (zs : List Int) (b : Nat) : (matL n cols zs b).length = n := by simp [matL]
theorem matL_succ (n cols : Nat) (zs : List Int) (b : Nat) : matL (n + 1) cols zs b = matL n cols zs b ++ [rowL zs b cols (n * cols)] := by simp [matL, List.range_succ]
theorem ent_bounds (zs : List Int) (b k : Nat) : -(b : Int) ≤ ent zs b k ∧ ent zs b k ≤ b := by
  unfold ent
  split
  · have h1 := Int.emod_nonneg (nth zs k) (b := 2 * (b : Int) + 1) (by omega)
    have h2 := Int.emod_lt_of_pos (nth zs k) (b := 2 * (b : Int) + 1) (by omega)
    omega
  · omega

end Go.Proofs.Ytpnbkoihglppnaa
