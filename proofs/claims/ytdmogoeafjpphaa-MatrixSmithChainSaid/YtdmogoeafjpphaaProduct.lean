/- timbkeep1.product and turn, walked. -/
import Derived.Test.YtdmogoeafjpphaaDetLaw
namespace Go.Proofs.Ytdmogoeafjpphaa
open Go.RowKit Go.Sl

theorem sumTo_abs {f : Nat → Int} {B : Nat} (h : ∀ j, (f j).natAbs ≤ B) (n : Nat) : (sumTo f n).natAbs ≤ n * B := by
  induction n with
  | zero => simp [sumTo]
  | succ n ih => rw [sumTo, Nat.succ_mul]; have := h n; omega
theorem take_succ_nth (xs : List Int) (k : Nat) (h : k < xs.length) : xs.take (k + 1) = xs.take k ++ [nth xs k] := by
  rw [List.take_succ_eq_append_getElem h, nth_lt h]
theorem take_succ_nthr (xs : List (List Int)) (k : Nat) (h : k < xs.length) : xs.take (k + 1) = xs.take k ++ [nthr xs k] := by
  rw [List.take_succ_eq_append_getElem h, nthr_lt h]

end Go.Proofs.Ytdmogoeafjpphaa
