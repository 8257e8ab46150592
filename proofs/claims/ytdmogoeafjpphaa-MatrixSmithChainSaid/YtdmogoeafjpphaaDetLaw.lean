/- The determinant of a product of matrices with at most 4 rows. No program. -/
import Derived.Test.YtdmogoeafjpphaaMinor
namespace Go.Proofs.Ytdmogoeafjpphaa
open Go.RowKit Go.Sl

def sumTo (f : Nat → Int) : Nat → Int
  | 0 => 0
  | n + 1 => sumTo f n + f n
def rowP (r : List Int) (b : List (List Int)) (n : Nat) : List Int := (List.range n).map fun k => sumTo (fun j => nth r j * ent2 b j k) n
def prodL (a b : List (List Int)) (n : Nat) : List (List Int) := (List.range n).map fun i => rowP (nthr a i) b n
theorem prodL_length (a b : List (List Int)) (n : Nat) : (prodL a b n).length = n := by simp [prodL]
theorem nthr_prodL (a b : List (List Int)) (n i : Nat) (h : i < n) : nthr (prodL a b n) i = rowP (nthr a i) b n := by
  rw [nthr_lt (by rw [prodL_length]; exact h)]; simp [prodL]
theorem rowP_length (r : List Int) (b : List (List Int)) (n : Nat) : (rowP r b n).length = n := by simp [rowP]
theorem nth_rowP (r : List Int) (b : List (List Int)) (n k : Nat) (h : k < n) : nth (rowP r b n) k = sumTo (fun j => nth r j * ent2 b j k) n := by
  rw [nth_lt (by rw [rowP_length]; exact h)]; simp [rowP]
theorem ent_prodL (a b : List (List Int)) (n i k : Nat) (hi : i < n) (hk : k < n) : ent2 (prodL a b n) i k = sumTo (fun j => ent2 a i j * ent2 b j k) n := by
  unfold ent2
  rw [nthr_prodL _ _ _ _ hi, nth_rowP _ _ _ _ hk]; rfl

def det2 (a b c d : Int) : Int := a * d - b * c
def det3 (a b c d e f g h i : Int) : Int := a * det2 e f h i - b * det2 d f g i + c * det2 d e g h
def det4 (a b c d e f g h i j k l m n o p : Int) : Int := a * det3 f g h j k l n o p - b * det3 e g h i k l m o p + c * det3 e f h i j l m n p - d * det3 e f g i j k m n o

theorem detL_1 (m : List (List Int)) : detL m 1 = ent2 m 0 0 := by
  simp [detL, full, minM, outTo, sgn, hasBit, low]
theorem detL_2 (m : List (List Int)) : detL m 2 = det2 (ent2 m 0 0) (ent2 m 0 1) (ent2 m 1 0) (ent2 m 1 1) := by
  simp [detL, full, minM, outTo, sgn, hasBit, low, det2]; grind
theorem detL_3 (m : List (List Int)) : detL m 3 = det3 (ent2 m 0 0) (ent2 m 0 1) (ent2 m 0 2) (ent2 m 1 0) (ent2 m 1 1) (ent2 m 1 2) (ent2 m 2 0) (ent2 m 2 1) (ent2 m 2 2) := by
  simp [detL, full, minM, outTo, sgn, hasBit, low, det3, det2]; grind
theorem detL_4 (m : List (List Int)) : detL m 4 = det4 (ent2 m 0 0) (ent2 m 0 1) (ent2 m 0 2) (ent2 m 0 3) (ent2 m 1 0) (ent2 m 1 1) (ent2 m 1 2) (ent2 m 1 3) (ent2 m 2 0) (ent2 m 2 1) (ent2 m 2 2) (ent2 m 2 3) (ent2 m 3 0) (ent2 m 3 1) (ent2 m 3 2) (ent2 m 3 3) := by
  simp [detL, full, minM, outTo, sgn, hasBit, low, det4, det3, det2]; grind

def s4 (a b c d e f g h : Int) : Int := a * e + b * f + c * g + d * h
theorem det2_mul (a b c d A B C D : Int) : det2 (a * A + b * C) (a * B + b * D) (c * A + d * C) (c * B + d * D) = det2 a b c d * det2 A B C D := by
  unfold det2; grind
theorem det3_mul (a b c d e f g h i A B C D E F G H I : Int) :
    det3 (a*A+b*D+c*G) (a*B+b*E+c*H) (a*C+b*F+c*I) (d*A+e*D+f*G) (d*B+e*E+f*H) (d*C+e*F+f*I) (g*A+h*D+i*G) (g*B+h*E+i*H) (g*C+h*F+i*I) = det3 a b c d e f g h i * det3 A B C D E F G H I := by
  unfold det3 det2; grind
set_option maxRecDepth 1000000 in
set_option maxHeartbeats 40000000 in
theorem det4_mul (a b c d e f g h i j k l m n o p A B C D E F G H I J K L M N O P : Int) :
    det4 (s4 a b c d A E I M) (s4 a b c d B F J N) (s4 a b c d C G K O) (s4 a b c d D H L P) (s4 e f g h A E I M) (s4 e f g h B F J N) (s4 e f g h C G K O) (s4 e f g h D H L P)
      (s4 i j k l A E I M) (s4 i j k l B F J N) (s4 i j k l C G K O) (s4 i j k l D H L P) (s4 m n o p A E I M) (s4 m n o p B F J N) (s4 m n o p C G K O) (s4 m n o p D H L P)
    = det4 a b c d e f g h i j k l m n o p * det4 A B C D E F G H I J K L M N O P := by
  unfold det4 det3 det2 s4
  grind (ringSteps := 1000000)

theorem det_times (a b : List (List Int)) (n : Nat) (h0 : 0 < n) (h4 : n ≤ 4) : detL (prodL a b n) n = detL a n * detL b n := by
  rcases (show n = 1 ∨ n = 2 ∨ n = 3 ∨ n = 4 from by omega) with rfl | rfl | rfl | rfl
  · simp [detL_1, ent_prodL, sumTo]
  · simp only [detL_2, ent_prodL _ _ 2 _ _ (by omega : (0 : Nat) < 2) (by omega : (0 : Nat) < 2), ent_prodL _ _ 2 _ _ (by omega : (0 : Nat) < 2) (by omega : (1 : Nat) < 2), ent_prodL _ _ 2 _ _ (by omega : (1 : Nat) < 2) (by omega : (0 : Nat) < 2), ent_prodL _ _ 2 _ _ (by omega : (1 : Nat) < 2) (by omega : (1 : Nat) < 2), sumTo, Int.zero_add]
    exact det2_mul ..
  · simp only [detL_3, ent_prodL _ _ 3 0 0 (by omega) (by omega), ent_prodL _ _ 3 0 1 (by omega) (by omega), ent_prodL _ _ 3 0 2 (by omega) (by omega), ent_prodL _ _ 3 1 0 (by omega) (by omega), ent_prodL _ _ 3 1 1 (by omega) (by omega), ent_prodL _ _ 3 1 2 (by omega) (by omega), ent_prodL _ _ 3 2 0 (by omega) (by omega), ent_prodL _ _ 3 2 1 (by omega) (by omega), ent_prodL _ _ 3 2 2 (by omega) (by omega), sumTo, Int.zero_add]
    exact det3_mul ..
  · simp only [detL_4, ent_prodL _ _ 4 0 0 (by omega) (by omega), ent_prodL _ _ 4 0 1 (by omega) (by omega), ent_prodL _ _ 4 0 2 (by omega) (by omega), ent_prodL _ _ 4 0 3 (by omega) (by omega), ent_prodL _ _ 4 1 0 (by omega) (by omega), ent_prodL _ _ 4 1 1 (by omega) (by omega), ent_prodL _ _ 4 1 2 (by omega) (by omega), ent_prodL _ _ 4 1 3 (by omega) (by omega), ent_prodL _ _ 4 2 0 (by omega) (by omega), ent_prodL _ _ 4 2 1 (by omega) (by omega), ent_prodL _ _ 4 2 2 (by omega) (by omega), ent_prodL _ _ 4 2 3 (by omega) (by omega), ent_prodL _ _ 4 3 0 (by omega) (by omega), ent_prodL _ _ 4 3 1 (by omega) (by omega), ent_prodL _ _ 4 3 2 (by omega) (by omega), ent_prodL _ _ 4 3 3 (by omega) (by omega), sumTo, Int.zero_add]
    exact det4_mul ..

#print axioms det_times
end Go.Proofs.Ytdmogoeafjpphaa
