/- polymatrix.Expand in plain Lean: the determinant of a matrix of polynomials by its first row; its values are determinants. -/
import Derived.Test.YtmcecmnbdcbehaaQPolyDetRows0
import Derived.Test.YtmcecmnbdcbehaaQPolyDetRows1
import Derived.Test.YtmcecmnbdcbehaaQPolyDetRows2
import Derived.Test.YtmcecmnbdcbehaaQPolyDetRows3
import Derived.Test.YtmcecmnbdcbehaaQPolyDetRows4
import Derived.Test.YtmcecmnbdcbehaaQPolyDetRows5
import Derived.Test.YtmcecmnbdcbehaaQPolyDetRows6
import Derived.Test.YtmcecmnbdcbehaaQPolyDetRows7
import Derived.Test.YtmcecmnbdcbehaaQPolyDetRows9
import Derived.Test.YtmcecmnbdcbehaaQPolyDetRows10
import Derived.Test.YtmcecmnbdcbehaaQPolyDetRows11
import Derived.Test.YtmcecmnbdcbehaaQPolyDetRows12
import Derived.Test.YtmcecmnbdcbehaaQPolyDetRows13
import Derived.Test.YtmcecmnbdcbehaaQPolyDetRows14
import Derived.Test.YtmcecmnbdcbehaaQPolyDetRows15
import Derived.Test.YtmcecmnbdcbehaaQPolyDetRows19

namespace Go.Proofs.Ytmcecmnbdcbehaa
open Go.RowKit Go.Sl

/-- The sum of f 0, -f 1, f 2, .. -/
def expTo (f : Nat → LP) : Nat → LP
  | 0 => pzero
  | c + 1 => padd (expTo f c) (f c) (if c % 2 = 0 then 1 else -1)
/-- Row r without column c. -/
def cutR (c : Nat) (r : List LP) : List LP := r.take c ++ r.drop (c + 1)
def restM (c : Nat) (m : List (List LP)) : List (List LP) := (m.drop 1).map (cutR c)
def expandL : Nat → List (List LP) → LP
  | 0, _ => pterm 1 0
  | n + 1, m => expTo (fun c => pmul (nthp (nthm m 0) c) (expandL n (restM c m))) (n + 1)

/-- A square matrix. -/
def SqM (n : Nat) (m : List (List LP)) : Prop := m.length = n ∧ ∀ i, i < n → (nthm m i).length = n
theorem restM_length (c : Nat) (m : List (List LP)) : (restM c m).length = m.length - 1 := by simp [restM]
theorem nthm_restM {c i : Nat} {m : List (List LP)} (h : i + 1 < m.length) : nthm (restM c m) i = cutR c (nthm m (i + 1)) := by
  rw [nthm_lt (by rw [restM_length]; omega), nthm_lt h]
  unfold restM
  rw [List.getElem_map, List.getElem_drop]
  congr 2; omega
theorem cutR_length {c : Nat} {r : List LP} (h : c < r.length) : (cutR c r).length = r.length - 1 := by simp [cutR]; omega
theorem nthp_cutR {c j : Nat} {r : List LP} (h : c < r.length) (hj : j < r.length - 1) : nthp (cutR c r) j = nthp r (Go.Det.skp c j) := by
  unfold nthp cutR Go.Det.skp
  rw [List.getD_eq_getElem?_getD, List.getD_eq_getElem?_getD]
  by_cases e : j < c
  · rw [if_pos e, List.getElem?_append_left (by rw [List.length_take]; omega), List.getElem?_take, if_pos e]
  · rw [if_neg e, List.getElem?_append_right (by rw [List.length_take]; omega), List.getElem?_drop, List.length_take, show min c r.length = c by omega]
    congr 2; omega
theorem SqM.rest {n c : Nat} {m : List (List LP)} (h : SqM (n + 1) m) (hc : c < n + 1) : SqM n (restM c m) := by
  refine ⟨by rw [restM_length, h.1]; omega, fun i hi => ?_⟩
  rw [nthm_restM (by rw [h.1]; omega), cutR_length (by rw [h.2 _ (by omega)]; exact hc), h.2 _ (by omega)]; omega

theorem expTo_trimmed (f : Nat → LP) (c : Nat) : Trimmed (expTo f c) := by
  cases c with
  | zero => exact ⟨fun _ => rfl, fun h => absurd rfl h, fun h => absurd rfl h⟩
  | succ c => exact padd_trimmed _ _ _
theorem expandL_trimmed (n : Nat) (m : List (List LP)) : Trimmed (expandL n m) := by
  cases n with
  | zero => exact pterm_trimmed _ _
  | succ n => exact expTo_trimmed _ _
theorem ev_expTo {t : Rat} (ht : t ≠ 0) (f : Nat → LP) (c : Nat) : ev (expTo f c) t = Go.Det.sumN (fun k => Go.Det.sgN k * ev (f k) t) c := by
  induction c with
  | zero => exact ev_pzero t
  | succ c ih =>
    rw [expTo, ev_padd _ _ _ ht, ih, Go.Det.sumN]
    unfold Go.Det.sgN
    by_cases h : c % 2 = 0
    · rw [if_pos h, if_pos h]; simp
    · rw [if_neg h, if_neg h]; simp
/-- The values of the entries. -/
def evM (m : List (List LP)) (t : Rat) (i j : Nat) : Rat := ev (nthp (nthm m i) j) t
theorem ev_expandL {t : Rat} (ht : t ≠ 0) (n : Nat) : ∀ m : List (List LP), SqM n m → ev (expandL n m) t = Go.Det.dt n (evM m t) := by
  induction n with
  | zero => intro m _; show ev (pterm 1 0) t = 1; rw [ev_pterm _ _ ht]; simp
  | succ n ih =>
    intro m h
    rw [expandL, ev_expTo ht, Go.Det.dt]
    refine Go.Det.sumN_congr _ fun c hc => ?_
    rw [ev_pmul _ _ ht, ih _ (h.rest hc)]
    rw [show Go.Det.sgN c * evM m t 0 c * Go.Det.dt n (fun i j => evM m t (i + 1) (Go.Det.skp c j)) = Go.Det.sgN c * (ev (nthp (nthm m 0) c) t * Go.Det.dt n (fun i j => evM m t (i + 1) (Go.Det.skp c j))) from Rat.mul_assoc _ _ _]
    congr 2
    refine Go.Det.dt_congr fun i j hi hj => ?_
    unfold evM
    rw [nthm_restM (by rw [h.1]; omega), nthp_cutR (by rw [h.2 _ (by omega)]; exact hc) (by rw [h.2 _ (by omega)]; omega)]

/-- Small enough for the program's sums and products. -/
def PFit (p : LP) : Prop := p.low.natAbs ≤ 100000 ∧ p.c.length ≤ 100000
/-- All that is computed on the way fits. -/
def ExpFit : Nat → List (List LP) → Prop
  | 0, _ => True
  | n + 1, m => ∀ c, c < n + 1 → PFit (nthp (nthm m 0) c) ∧ PFit (expandL n (restM c m)) ∧ n1 (nthp (nthm m 0) c).c * n1 (expandL n (restM c m)).c ≤ 4000000000000000000 ∧
      PFit (expTo (fun c => pmul (nthp (nthm m 0) c) (expandL n (restM c m))) c) ∧ PFit (pmul (nthp (nthm m 0) c) (expandL n (restM c m))) ∧
      n1 (expTo (fun c => pmul (nthp (nthm m 0) c) (expandL n (restM c m))) c).c + 1000 * n1 (pmul (nthp (nthm m 0) c) (expandL n (restM c m))).c ≤ 4000000000000000000 ∧ ExpFit n (restM c m)

end Go.Proofs.Ytmcecmnbdcbehaa

