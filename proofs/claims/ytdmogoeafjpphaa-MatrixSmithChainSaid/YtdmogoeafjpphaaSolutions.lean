/- intmatrix.Smith and Solutions, walked; the numbers of solutions modulo two numbers without common divisors are multiplied. -/
import Derived.Test.YtdmogoeafjpphaaSmith
namespace Go.Proofs.Ytdmogoeafjpphaa
open Go.RowKit Go.Sl

def solTo (l : List Int) (M : Nat) : Nat → Nat
  | 0 => 1
  | t + 1 => solTo l M t * Nat.gcd (nth l t).natAbs M
def solL (l : List Int) (M C : Nat) : Nat := solTo l M l.length * M ^ (C - l.length)
theorem solTo_le (l : List Int) (M : Nat) (hM : 0 < M) (t : Nat) : solTo l M t ≤ M ^ t := by
  induction t with
  | zero => simp [solTo]
  | succ t ih =>
    rw [solTo, Nat.pow_succ]
    exact Nat.mul_le_mul ih (Nat.gcd_le_right _ hM)
theorem solTo_pos (l : List Int) (M : Nat) (hM : 0 < M) (t : Nat) : 0 < solTo l M t := by
  induction t with
  | zero => simp [solTo]
  | succ t ih => rw [solTo]; exact Nat.mul_pos ih (Nat.gcd_pos_of_pos_right _ hM)
theorem solTo_mul (l : List Int) {p q : Nat} (h : p.Coprime q) (t : Nat) : solTo l (p * q) t = solTo l p t * solTo l q t := by
  induction t with
  | zero => rfl
  | succ t ih =>
    rw [solTo, solTo, solTo, ih, Nat.Coprime.gcd_mul _ h]
    grind
theorem solL_mul (l : List Int) {p q : Nat} (h : p.Coprime q) (C : Nat) : solL l (p * q) C = solL l p C * solL l q C := by
  unfold solL
  rw [solTo_mul l h, Nat.mul_pow]
  grind
theorem solL_pos (l : List Int) {M : Nat} (h : 0 < M) (C : Nat) : 0 < solL l M C := Nat.mul_pos (solTo_pos l M h _) (Nat.pow_pos h)

theorem smithL_length (m : List (List Int)) (R C : Nat) : (smithL m R C).length = min R C := by simp [smithL, facL]
theorem smithL_le {m : List (List Int)} {R C : Nat} (h : IsMat m R C) (k : Nat) : (nth (smithL m R C) k).natAbs ≤ 46656000000000000 := by
  unfold smithL facL
  by_cases hk : k < min R C
  · rw [nth_fac _ _ _ hk]
    unfold facAt
    have hR := h.hn
    have hC := h.hc
    have h1 := dTo_le (m := m) (C := C) (n := min R C) h.abs h.hc (by omega) (2 ^ R) 0 (k + 1) (by omega)
    split
    · simp
    · rw [dTo_end (by omega)] at h1
      rw [dTo_end (by omega), dTo_end (by omega)]
      rw [Int.natAbs_natCast] at h1
      have h2 := Nat.div_le_self (rowsG m C (k + 1) (2 ^ R)) (rowsG m C k (2 ^ R))
      have h3 : ((rowsG m C (k + 1) (2 ^ R) : Nat) : Int) / ((rowsG m C k (2 ^ R) : Nat) : Int) = ((rowsG m C (k + 1) (2 ^ R) / rowsG m C k (2 ^ R) : Nat) : Int) := by simp
      rw [h3, Int.natAbs_natCast]
      omega
  · unfold nth; rw [List.getD_eq_getElem?_getD, List.getElem?_eq_none (by simp; omega)]; simp

theorem smithE_calls (v : Value) (xss : List (List Int)) (R C : Nat) (w : World) (hv : Rows2 w v xss) (hm : IsMat xss R C) (hR : 0 < R) (hC : 0 < C) :
    Calls Try.prog 58 #[v] w fun e w' => ∃ u, e = .returned (.tuple #[u, .int .i64 0]) ∧ OwnI w' w.heap.size u (smithL xss R C) ∧ Below w.heap.size w w' := by
  have hck := mcheck_calls v xss R C w hv hm
  have HCK := Lib.hid hck; clear hck
  have hsm : ∀ W, Below w.heap.size w W → Calls Try.prog 118 #[v] W fun e w' => ∃ u, e = .returned u ∧ OwnI w' W.heap.size u (smithL xss R C) ∧ Below W.heap.size W w' := fun W hb => smith_calls v xss R C W (hv.below hb) hm hR hC
  have HSM := Lib.hid hsm; clear hsm
  have hl : (smithL xss R C).length ≤ 6 := by rw [smithL_length]; have := hm.hn; omega
  clear hv hm
  go_enter Try.func58, Try.ntmps58
  go_wp2_with (go_at_call 117; refine HCK.out.mono ?_; rintro e w' ⟨rfl, rfl⟩)
  refine (HSM.out _ ((Below.refl _ _).alloc (Nat.le_refl _) _)).mono ?_
  rintro e w1 ⟨u, rfl, hu, hb⟩
  have he : OwnI w1 w.heap.size (.slice (some ⟨w.heap.size, 0, none⟩) 0 0) [] := (ownI_build w w.heap.size [] (Nat.le_refl _) (by simp)).below hb
  have hb1 : Below w.heap.size w w1 := Below.chain ((Below.refl _ _).alloc (Nat.le_refl _) _) hb
  have hs1 := hb1.size
  have hui := hu.ints
  go_wp2_with (at_builtin; refine wpList_concat (v := .slice (some ⟨w.heap.size, 0, none⟩) 0 0) (xs := []) rfl _ _ rfl rfl rfl he hui hs1 (by simp; omega) ?_; intro o2 z2 ho2 hg2 hr2)
  go_ret2
  exact ⟨o2, rfl, by simpa using ho2, hb1.grown hg2 hs1 (fun k hk => (Own.lt he k hk).1)⟩

end Go.Proofs.Ytdmogoeafjpphaa
