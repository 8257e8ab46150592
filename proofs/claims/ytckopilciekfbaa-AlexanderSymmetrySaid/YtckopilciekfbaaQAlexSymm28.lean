/- The Burau matrix at t and at 1/t: the form that both keep, and what follows for determinants. Plain algebra. -/
import Derived.Test.YtckopilciekfbaaQAlexSymm0
import Derived.Test.YtckopilciekfbaaQAlexSymm1
import Derived.Test.YtckopilciekfbaaQAlexSymm2
import Derived.Test.YtckopilciekfbaaQAlexSymm3
import Derived.Test.YtckopilciekfbaaQAlexSymm4
import Derived.Test.YtckopilciekfbaaQAlexSymm5
import Derived.Test.YtckopilciekfbaaQAlexSymm6
import Derived.Test.YtckopilciekfbaaQAlexSymm7
import Derived.Test.YtckopilciekfbaaQAlexSymm10
import Derived.Test.YtckopilciekfbaaQAlexSymm11
import Derived.Test.YtckopilciekfbaaQAlexSymm12
import Derived.Test.YtckopilciekfbaaQAlexSymm13
import Derived.Test.YtckopilciekfbaaQAlexSymm14
import Derived.Test.YtckopilciekfbaaQAlexSymm20
import Derived.Test.YtckopilciekfbaaQAlexSymm27

namespace Go.Proofs.Ytckopilciekfbaa
open Go.RowKit Go.Sl

/-- The sum of f 0, -f 1, f 2, .. -/
def expTo (f : Nat → LP) : Nat → LP
  | 0 => pzero
  | c + 1 => padd (expTo f c) (f c) (if c % 2 = 0 then 1 else -1)
/-- Row r without column c. -/
def cutR (c : Nat) (r : List LP) : List LP := r.take c ++ r.drop (c + 1)
def restM (c : Nat) (m : List (List LP)) : List (List LP) := (m.drop 1).map (cutR c)
def expandL : Nat → List (List LP) → LP
  | 0, _ => pterm 1 0
  | n + 1, m => expTo (fun c => pmul (nthp (nthm m 0) c) (expandL n (restM c m))) (n + 1)

/-- A square matrix. -/
def SqM (n : Nat) (m : List (List LP)) : Prop := m.length = n ∧ ∀ i, i < n → (nthm m i).length = n
theorem restM_length (c : Nat) (m : List (List LP)) : (restM c m).length = m.length - 1 := by simp [restM]
theorem nthm_restM {c i : Nat} {m : List (List LP)} (h : i + 1 < m.length) : nthm (restM c m) i = cutR c (nthm m (i + 1)) := by
  rw [nthm_lt (by rw [restM_length]; omega), nthm_lt h]
  unfold restM
  rw [List.getElem_map, List.getElem_drop]
  congr 2; omega
theorem cutR_length {c : Nat} {r : List LP} (h : c < r.length) : (cutR c r).length = r.length - 1 := by simp [cutR]; omega
theorem nthp_cutR {c j : Nat} {r : List LP} (h : c < r.length) (hj : j < r.length - 1) : nthp (cutR c r) j = nthp r (Go.Det.skp c j) := by
  unfold nthp cutR Go.Det.skp
  rw [List.getD_eq_getElem?_getD, List.getD_eq_getElem?_getD]
  by_cases e : j < c
  · rw [if_pos e, List.getElem?_append_left (by rw [List.length_take]; omega), List.getElem?_take, if_pos e]
  · rw [if_neg e, List.getElem?_append_right (by rw [List.length_take]; omega), List.getElem?_drop, List.length_take, show min c r.length = c by omega]
    congr 2; omega
theorem SqM.rest {n c : Nat} {m : List (List LP)} (h : SqM (n + 1) m) (hc : c < n + 1) : SqM n (restM c m) := by
  refine ⟨by rw [restM_length, h.1]; omega, fun i hi => ?_⟩
  rw [nthm_restM (by rw [h.1]; omega), cutR_length (by rw [h.2 _ (by omega)]; exact hc), h.2 _ (by omega)]; omega

theorem expTo_trimmed (f : Nat → LP) (c : Nat) : Trimmed (expTo f c) := by
  cases c with
  | zero => exact ⟨fun _ => rfl, fun h => absurd rfl h, fun h => absurd rfl h⟩
  | succ c => exact padd_trimmed _ _ _
theorem expandL_trimmed (n : Nat) (m : List (List LP)) : Trimmed (expandL n m) := by
  cases n with
  | zero => exact pterm_trimmed _ _
  | succ n => exact expTo_trimmed _ _
theorem ev_expTo {t : Rat} (ht : t ≠ 0) (f : Nat → LP) (c : Nat) : ev (expTo f c) t = Go.Det.sumN (fun k => Go.Det.sgN k * ev (f k) t) c := by
  induction c with
  | zero => exact ev_pzero t
  | succ c ih =>
    rw [expTo, ev_padd _ _ _ ht, ih, Go.Det.sumN]
    unfold Go.Det.sgN
    by_cases h : c % 2 = 0
    · rw [if_pos h, if_pos h]; simp
    · rw [if_neg h, if_neg h]; simp
/-- The values of the entries. -/
def evM (m : List (List LP)) (t : Rat) (i j : Nat) : Rat := ev (nthp (nthm m i) j) t
theorem ev_expandL {t : Rat} (ht : t ≠ 0) (n : Nat) : ∀ m : List (List LP), SqM n m → ev (expandL n m) t = Go.Det.dt n (evM m t) := by
  induction n with
  | zero => intro m _; show ev (pterm 1 0) t = 1; rw [ev_pterm _ _ ht]; simp
  | succ n ih =>
    intro m h
    rw [expandL, ev_expTo ht, Go.Det.dt]
    refine Go.Det.sumN_congr _ fun c hc => ?_
    rw [ev_pmul _ _ ht, ih _ (h.rest hc)]
    rw [show Go.Det.sgN c * evM m t 0 c * Go.Det.dt n (fun i j => evM m t (i + 1) (Go.Det.skp c j)) = Go.Det.sgN c * (ev (nthp (nthm m 0) c) t * Go.Det.dt n (fun i j => evM m t (i + 1) (Go.Det.skp c j))) from Rat.mul_assoc _ _ _]
    congr 2
    refine Go.Det.dt_congr fun i j hi hj => ?_
    unfold evM
    rw [nthm_restM (by rw [h.1]; omega), nthp_cutR (by rw [h.2 _ (by omega)]; exact hc) (by rw [h.2 _ (by omega)]; omega)]

/-- Small enough for the program's sums and products. -/
def PFit (p : LP) : Prop := p.low.natAbs ≤ 100000 ∧ p.c.length ≤ 100000
/-- All that is computed on the way fits. -/
def ExpFit : Nat → List (List LP) → Prop
  | 0, _ => True
  | n + 1, m => ∀ c, c < n + 1 → PFit (nthp (nthm m 0) c) ∧ PFit (expandL n (restM c m)) ∧ n1 (nthp (nthm m 0) c).c * n1 (expandL n (restM c m)).c ≤ 4000000000000000000 ∧
      PFit (expTo (fun c => pmul (nthp (nthm m 0) c) (expandL n (restM c m))) c) ∧ PFit (pmul (nthp (nthm m 0) c) (expandL n (restM c m))) ∧
      n1 (expTo (fun c => pmul (nthp (nthm m 0) c) (expandL n (restM c m))) c).c + 1000 * n1 (pmul (nthp (nthm m 0) c) (expandL n (restM c m))).c ≤ 4000000000000000000 ∧ ExpFit n (restM c m)

end Go.Proofs.Ytckopilciekfbaa

namespace Go.Proofs.Ytckopilciekfbaa
open Go.RowKit Go.Sl
open Go.Det (sumN dt mul upd Alt uni)

theorem vsum_sumN (f : Nat → Rat) (n : Nat) : vsum f n = sumN f n := by
  induction n with
  | zero => rfl
  | succ n ih => rw [vsum, sumN, ih]
theorem bact_form (t : Rat) (x : Int) (j : Nat) : ∃ (p q : Nat) (c d : Rat), ∀ f, bact t x f j = f p * c + f q * d := by
  unfold bact bactP bactN
  by_cases h : x < 0
  · simp only [if_pos h]
    by_cases h1 : j = x.natAbs - 1
    · exact ⟨x.natAbs - 1 + 1, 0, t⁻¹, 0, fun f => by rw [if_pos h1]; grind⟩
    · by_cases h2 : j = x.natAbs - 1 + 1
      · exact ⟨x.natAbs - 1, x.natAbs - 1 + 1, 1, 1 - t⁻¹, fun f => by rw [if_neg h1, if_pos h2]; grind⟩
      · exact ⟨j, 0, 1, 0, fun f => by rw [if_neg h1, if_neg h2]; grind⟩
  · simp only [if_neg h]
    by_cases h1 : j = x.natAbs - 1
    · exact ⟨x.natAbs - 1, x.natAbs - 1 + 1, 1 - t, 1, fun f => by rw [if_pos h1]; grind⟩
    · by_cases h2 : j = x.natAbs - 1 + 1
      · exact ⟨x.natAbs - 1, 0, t, 0, fun f => by rw [if_neg h1, if_pos h2]; grind⟩
      · exact ⟨j, 0, 1, 0, fun f => by rw [if_neg h1, if_neg h2]; grind⟩
theorem sum_bil (n : Nat) (G F : Nat → Nat → Rat) (p q p' q' : Nat) (c d c' d' : Rat) :
    sumN (fun k => (G k p * c + G k q * d) * (F k p' * c' + F k q' * d')) n =
      (sumN (fun k => G k p * F k p') n * c' + sumN (fun k => G k p * F k q') n * d') * c + (sumN (fun k => G k q * F k p') n * c' + sumN (fun k => G k q * F k q') n * d') * d := by
  induction n with
  | zero => simp only [sumN]; grind
  | succ n ih => simp only [sumN]; rw [ih]; grind
/-- A letter on both sides of a form. -/
theorem bact_bil {t u : Rat} (x : Int) (n : Nat) (G F : Nat → Nat → Rat) (i j : Nat) :
    sumN (fun k => bact u x (G k) i * bact t x (F k) j) n = bact u x (fun i => bact t x (fun j => sumN (fun k => G k i * F k j) n) j) i := by
  obtain ⟨p, q, c, d, h1⟩ := bact_form u x i
  obtain ⟨p', q', c', d', h2⟩ := bact_form t x j
  simp only [h1, h2]
  exact sum_bil n G F p q p' q' c d c' d'
theorem bact_fix {t : Rat} (ht : t ≠ 0) {x : Int} (f : Nat → Rat) (h : f (x.natAbs - 1 + 1) = t * f (x.natAbs - 1)) : bact t x f = f := by
  have h2 : t⁻¹ * t = 1 := Rat.inv_mul_cancel t ht
  funext k
  unfold bact bactP bactN
  split
  · dsimp only
    split
    · rename_i e; rw [e, h]; grind
    · split
      · rename_i e; rw [e, h]; grind
      · rfl
  · dsimp only
    split
    · rename_i e; rw [e, h]; grind
    · split
      · rename_i e; rw [e, h]; grind
      · rfl

/-- The form: 1 on the diagonal, 0 below. -/
def om (t : Rat) (i j : Nat) : Rat := if i = j then 1 else if i < j then (1 - t⁻¹) * (t ^ j * t⁻¹ ^ i) else 0
theorem pow_pair {t : Rat} (ht : t ≠ 0) (n : Nat) : t ^ n * t⁻¹ ^ n = 1 := by
  induction n with
  | zero => simp
  | succ n ih =>
    have h2 : t⁻¹ * t = 1 := Rat.inv_mul_cancel t ht
    rw [Rat.pow_succ, Rat.pow_succ]; grind
theorem om_row {t : Rat} {p i : Nat} (h1 : i ≠ p) (h2 : i ≠ p + 1) : om t i (p + 1) = t * om t i p := by
  unfold om
  rw [if_neg h2, if_neg h1]
  by_cases h : i < p
  · rw [if_pos h, if_pos (by omega), Rat.pow_succ]; grind
  · rw [if_neg h, if_neg (by omega)]; grind
theorem om_col {t : Rat} {p j : Nat} (h1 : j ≠ p) (h2 : j ≠ p + 1) : om t (p + 1) j = t⁻¹ * om t p j := by
  unfold om
  rw [if_neg (Ne.symm h2), if_neg (Ne.symm h1)]
  by_cases h : p < j
  · rw [if_pos h, if_pos (by omega), Rat.pow_succ]; grind
  · rw [if_neg h, if_neg (by omega)]; grind
theorem om_next {t : Rat} (ht : t ≠ 0) (p : Nat) : om t p (p + 1) = t - 1 := by
  have h2 : t⁻¹ * t = 1 := Rat.inv_mul_cancel t ht
  unfold om
  rw [if_neg (by omega), if_pos (by omega), Rat.pow_succ]
  have := pow_pair ht p
  grind
/-- Each letter keeps the form. -/
theorem om_keep {t : Rat} (ht : t ≠ 0) (x : Int) (i j : Nat) : bact t⁻¹ x (fun i => bact t x (fun j => om t i j) j) i = om t i j := by
  have h2 : t⁻¹ * t = 1 := Rat.inv_mul_cancel t ht
  have hti := inv_ne ht
  obtain ⟨p, hp⟩ : ∃ p, x.natAbs - 1 = p := ⟨_, rfl⟩
  by_cases hj : j = p ∨ j = p + 1
  · by_cases hi : i = p ∨ i = p + 1
    · have e0 : om t p p = 1 := by unfold om; rw [if_pos rfl]
      have e1 : om t (p + 1) (p + 1) = 1 := by unfold om; rw [if_pos rfl]
      have e2 := om_next ht p
      have e3 : om t (p + 1) p = 0 := by unfold om; rw [if_neg (by omega), if_neg (by omega)]
      have n1 : ¬ p + 1 = p := by omega
      have hinv : (t⁻¹)⁻¹ = t := Rat.inv_inv t
      unfold bact bactP bactN
      rw [hp]
      by_cases hx : x < 0
      · simp only [if_pos hx, hinv]
        rcases hi with rfl | rfl <;> rcases hj with rfl | rfl <;> simp only [if_true, n1, if_false, e0, e1, e2, e3] <;> grind
      · simp only [if_neg hx]
        rcases hi with rfl | rfl <;> rcases hj with rfl | rfl <;> simp only [if_true, n1, if_false, e0, e1, e2, e3] <;> grind
    · have e : bact t⁻¹ x (fun i => bact t x (fun j => om t i j) j) i = bact t x (fun j => om t i j) j := by
        have hi1 : i ≠ p := fun e => hi (.inl e)
        have hi2 : i ≠ p + 1 := fun e => hi (.inr e)
        have : ∀ f : Nat → Rat, bact t⁻¹ x f i = f i := fun f => by
          unfold bact bactP bactN
          rw [hp]
          split <;> simp only [if_neg hi1, if_neg hi2]
        rw [this]
      rw [e, bact_fix ht (fun j => om t i j) (by rw [hp]; exact om_row (fun e => hi (.inl e)) (fun e => hi (.inr e)))]
  · have hj1 : j ≠ p := fun e => hj (.inl e)
    have hj2 : j ≠ p + 1 := fun e => hj (.inr e)
    have : ∀ f : Nat → Rat, bact t x f j = f j := fun f => by
      unfold bact bactP bactN
      rw [hp]
      split <;> simp only [if_neg hj1, if_neg hj2]
    simp only [this]
    rw [bact_fix hti (fun i => om t i j) (by rw [hp]; exact om_col hj1 hj2)]
/-- A word keeps the form. -/
theorem form_keep {t : Rat} (ht : t ≠ 0) {n : Nat} : ∀ (w : List Int), NWord n w → ∀ (G F : Nat → Nat → Rat), (∀ i j, i < n → j < n → sumN (fun k => G k i * F k j) n = om t i j) →
    ∀ i j, i < n → j < n → sumN (fun k => bacts t⁻¹ w (G k) i * bacts t w (F k) j) n = om t i j := by
  intro w
  induction w with
  | nil => intro _ G F h; exact h
  | cons x w ih =>
    intro hw G F h i j hi hj
    have hx := hw x (by simp)
    refine ih (fun y hy => hw y (by simp [hy])) (fun k => bact t⁻¹ x (G k)) (fun k => bact t x (F k)) (fun i j hi hj => ?_) i j hi hj
    rw [bact_bil, ← om_keep ht x i j]
    refine bact_congr (n := n) (fun i hi => ?_) hx.1 hx.2 i hi
    exact bact_congr (n := n) (fun j hj => h i j hi hj) hx.1 hx.2 j hj

/-- The entries of the Burau matrix. -/
def BW (t : Rat) (w : List Int) (i j : Nat) : Rat := bacts t w (unitV i) j
theorem unit_uni (i j : Nat) : unitV i j = uni i j := by unfold unitV uni; by_cases h : i = j <;> simp [h, eq_comm]
theorem sumN_pick (n : Nat) (c : Nat → Rat) {i : Nat} (hi : i < n) : sumN (fun k => uni k i * c k) n = c i := by
  rw [Go.Det.sumN_one n i hi (fun k _ hk => by unfold uni; rw [if_neg hk]; simp)]
  unfold uni; simp
theorem sumN_pick' (n : Nat) (c : Nat → Rat) {i : Nat} (hi : i < n) : sumN (fun k => c k * uni k i) n = c i := by
  rw [Go.Det.sumN_one n i hi (fun k _ hk => by unfold uni; rw [if_neg hk]; simp)]
  unfold uni; simp
/-- A word acts as its matrix does. -/
theorem bacts_sumN {t : Rat} {n : Nat} {w : List Int} (hw : NWord n w) (f : Nat → Rat) {j : Nat} (hj : j < n) : bacts t w f j = sumN (fun k => f k * BW t w k j) n := by
  have h1 := bacts_sum (t := t) w f j n
  rw [vsum_sumN] at h1
  show _ = sumN (fun k => f k * bacts t w (unitV k) j) n
  rw [h1]
  refine bacts_congr w _ _ hw (fun i hi => ?_) j hj
  rw [vsum_pick, if_pos hi]
theorem bacts_sums {t : Rat} {n : Nat} {w : List Int} (hw : NWord n w) (a : Nat → Rat) (F : Nat → Nat → Rat) (m : Nat) {j : Nat} (hj : j < n) : sumN (fun k => a k * bacts t w (F k) j) m = bacts t w (fun j => sumN (fun k => a k * F k j) m) j := by
  rw [bacts_sumN hw _ hj, Go.Det.sumN_congr m (fun k _ => show _ = sumN (fun l => a k * (F k l * BW t w l j)) n by rw [bacts_sumN hw _ hj, Go.Det.sumN_mul]), Go.Det.sumN_swap]
  refine Go.Det.sumN_congr n fun l _ => ?_
  rw [Rat.mul_comm, ← Go.Det.sumN_mul]
  exact Go.Det.sumN_congr m fun k _ => by grind

/-! Determinants of matrices of which the rows' sums, and the columns' weighted sums, are known. -/
theorem comb {n : Nat} {F : (Nat → Nat → Rat) → Rat} (h : Alt n F) (A : Nat → Nat → Rat) (c : Nat → Rat) {r : Nat} (hr : r < n) : F (upd A r (fun j => sumN (fun k => c k * A k j) n)) = c r * F A := by
  rw [h.sum A hr]
  rw [Go.Det.sumN_one n r hr fun k hk hkr => ?_]
  · rw [Go.Det.upd_self]
  · rw [h.zero hk hr hkr _ fun j _ => by rw [Go.Det.upd_other _ _ hkr, Go.Det.upd_same]]; simp
theorem dt_neg (n : Nat) : ∃ e : Rat, (e = 1 ∨ e = -1) ∧ ∀ A : Nat → Nat → Rat, dt n (fun i j => - A i j) = e * dt n A := by
  induction n with
  | zero => exact ⟨1, .inl rfl, fun A => by simp [dt]⟩
  | succ n ih =>
    obtain ⟨e, he, h⟩ := ih
    refine ⟨-e, by rcases he with rfl | rfl <;> simp, fun A => ?_⟩
    rw [dt, dt, ← Go.Det.sumN_mul]
    refine Go.Det.sumN_congr _ fun c _ => ?_
    rw [h (fun i j => A (i + 1) (Go.Det.skp c j))]; grind
/-- The last column, and the last row, weighted. -/
theorem dt_border {m : Nat} (B : Nat → Nat → Rat) (v : Nat → Rat) (a : Rat) (hrow : ∀ i, i < m + 1 → sumN (fun j => B i j) (m + 1) = 1) (hcol : ∀ j, j < m + 1 → sumN (fun i => v i * B i j) (m + 1) = v j) :
    v m * dt (m + 1) (fun i j => uni i j - B i j + a * v j) = a * (sumN v (m + 1) * sumN v (m + 1)) * dt m (fun i j => uni i j - B i j) := by
  obtain ⟨s, hs⟩ : ∃ s, sumN v (m + 1) = s := ⟨_, rfl⟩
  obtain ⟨A, hA⟩ : ∃ A : Nat → Nat → Rat, A = fun i j => uni i j - B i j + a * v j := ⟨_, rfl⟩
  obtain ⟨A2, hA2⟩ : ∃ A2 : Nat → Nat → Rat, A2 = fun i j => if j = m then 1 else uni i j - B i j := ⟨_, rfl⟩
  have usum : ∀ i, i < m + 1 → sumN (fun j => uni (R := Rat) i j) (m + 1) = 1 := fun i hi => by
    rw [Go.Det.sumN_one (m + 1) i hi (fun k _ hk => by unfold uni; rw [if_neg (Ne.symm hk)])]; unfold uni; simp
  -- the last column
  have k1 : dt (m + 1) A = dt (m + 1) (fun i j => if j = m then a * s else A i j) := by
    have h1 := comb (Go.Det.alt_turn (m + 1)) (fun j i => A i j) (fun _ => 1) (r := m) (by omega)
    rw [Rat.one_mul] at h1
    rw [← h1]
    refine Go.Det.dt_congr fun i j hi hj => ?_
    unfold upd
    by_cases e : j = m
    · rw [if_pos e, if_pos e, hA]
      have : ∀ k, k < m + 1 → (1 : Rat) * (uni i k - B i k + a * v k) = 1 * uni i k + ((-1) * B i k + a * v k) := fun k _ => by grind
      rw [Go.Det.sumN_congr _ this, Go.Det.sumN_add, Go.Det.sumN_lin, hrow i hi, hs, Go.Det.sumN_mul, usum i hi]; grind
    · rw [if_neg e, if_neg e]
  -- the others
  have k2 : dt (m + 1) (fun i j => if j = m then a * s else A i j) = a * s * dt (m + 1) A2 := by
    have h1 := (Go.Det.alt_turn (R := Rat) (m + 1)).smul (fun j i => A i j) m (a * s) (fun _ => 1) (by omega)
    have e1 : dt (m + 1) (fun i j => if j = m then a * s else A i j) = dt (m + 1) (fun i j => upd (fun j i => A i j) m (fun _ => a * s * 1) j i) := by
      refine Go.Det.dt_congr fun i j _ _ => ?_
      unfold upd
      by_cases e : j = m
      · rw [if_pos e, if_pos e]; simp
      · rw [if_neg e, if_neg e]
    rw [e1, h1]
    congr 1
    have h2 := Go.Det.dt_mul (m + 1) A2 (fun i j => if i = m then (if j = m then 1 else a * v j) else uni i j)
    have h3 : dt (m + 1) (fun i j => if i = m then (if j = m then 1 else a * v j) else uni (R := Rat) i j) = 1 := by
      rw [Go.Det.dt_corner m _ (fun i hi => by rw [if_neg (by omega)]; unfold uni; rw [if_neg (by omega)]), if_pos rfl, if_pos rfl, Go.Det.dt_congr (B := uni) (fun i j hi _ => by rw [if_neg (by omega)]), Go.Det.dt_uni]; grind
    rw [h3, Rat.mul_one] at h2
    rw [← h2]
    refine Go.Det.dt_congr fun i j hi hj => ?_
    unfold upd mul
    rw [sumN]
    show (if j = m then fun _ => (1 : Rat) else (fun j i => A i j) j) i = sumN (fun k => A2 i k * (if k = m then (if j = m then 1 else a * v j) else uni k j)) m + A2 i m * (if m = m then (if j = m then 1 else a * v j) else uni m j)
    have hz : ∀ k, k < m → A2 i k * (if k = m then (if j = m then 1 else a * v j) else uni k j) = A2 i k * uni k j := fun k hk => by rw [if_neg (by omega)]
    rw [Go.Det.sumN_congr m hz, if_pos rfl]
    have hm1 : A2 i m = 1 := by rw [hA2]; simp
    by_cases e : j = m
    · rw [if_pos e, if_pos e, hm1, Go.Det.sumN_zero m (fun k hk => by unfold uni; rw [if_neg (by omega)]; simp)]; grind
    · rw [if_neg e, if_neg e, hm1, sumN_pick' m (A2 i) (by omega), hA, hA2]
      simp only [if_neg e]; grind
  -- the last row
  have k3 : v m * dt (m + 1) A2 = s * dt m (fun i j => uni i j - B i j) := by
    have h1 := comb (Go.Det.alt_dt (m + 1)) A2 v (r := m) (by omega)
    rw [← h1, ← Go.Det.dt_turn]
    have hlast : ∀ j, j < m + 1 → sumN (fun k => v k * A2 k j) (m + 1) = if j = m then s else 0 := fun j hj => by
      rw [hA2]
      by_cases e : j = m
      · simp only [if_pos e]
        rw [← hs]; exact Go.Det.sumN_congr _ fun k _ => by simp
      · simp only [if_neg e]
        have : ∀ k, k < m + 1 → v k * (uni k j - B k j) = 1 * (v k * uni k j) + (-1) * (v k * B k j) := fun k _ => by grind
        rw [Go.Det.sumN_congr _ this, Go.Det.sumN_lin, hcol j hj, sumN_pick' (m + 1) v hj]; grind
    rw [Go.Det.dt_corner m _ (fun i hi => by simp only [upd, if_true]; rw [hlast i (by omega), if_neg (by omega)])]
    simp only [upd, if_true]
    rw [hlast m (by omega), if_pos rfl]
    congr 1
    rw [← Go.Det.dt_turn m (fun i j => uni i j - B i j)]
    refine Go.Det.dt_congr fun i j hi hj => ?_
    rw [if_neg (by omega), hA2]
    simp only [if_neg (show ¬ i = m by omega)]
  have e : (fun i j => uni i j - B i j + a * v j) = A := hA.symm
  rw [e, k1, k2]
  have : v m * (a * s * dt (m + 1) A2) = a * s * (v m * dt (m + 1) A2) := by grind
  rw [this, k3]; grind

/-! A word's determinant. -/
theorem dt_letter {t : Rat} (ht : t ≠ 0) {n : Nat} {x : Int} (h0 : x ≠ 0) (hn : x.natAbs < n) (F : Nat → Nat → Rat) : dt n (fun i j => bact t x (F i) j) = (-(t ^ (if x < 0 then (-1 : Int) else 1))) * dt n F := by
  obtain ⟨p, hp⟩ : ∃ p, x.natAbs = p + 1 := ⟨x.natAbs - 1, by omega⟩
  have hti : t ^ (-1 : Int) = t⁻¹ := by rw [Rat.zpow_neg]; simp
  have h2 : t⁻¹ * t = 1 := Rat.inv_mul_cancel t ht
  have alt := Go.Det.alt_turn (R := Rat) n
  obtain ⟨A, hA⟩ : ∃ A : Nat → Nat → Rat, A = fun j i => F i j := ⟨_, rfl⟩
  have two : ∀ (a b c d : Rat) (G : Nat → Nat → Rat), (∀ i j, i < n → j < n → G i j = if j = p then a * F i p + b * F i (p + 1) else if j = p + 1 then c * F i p + d * F i (p + 1) else F i j) → dt n G = (a * d - b * c) * dt n F := by
    intro a b c d G hG
    have e1 : dt n G = dt n (fun i j => upd (upd A (p + 1) (fun i => c * A p i + d * A (p + 1) i)) p (fun i => a * A p i + b * A (p + 1) i) j i) := by
      refine Go.Det.dt_congr fun i j hi hj => ?_
      rw [hG i j hi hj, hA]
      unfold upd
      by_cases e : j = p
      · rw [if_pos e, if_pos e]
      · rw [if_neg e, if_neg e]
        by_cases e2 : j = p + 1
        · rw [if_pos e2, if_pos e2]
        · rw [if_neg e2, if_neg e2]
    have hne : p ≠ p + 1 := by omega
    rw [e1]
    have l1 := alt.lin (upd A (p + 1) (fun i => c * A p i + d * A (p + 1) i)) p a b (A p) (A (p + 1)) (by omega)
    have l2 : ∀ f, _ := fun f => alt.lin (upd A p f) (p + 1) c d (A p) (A (p + 1)) (by omega)
    have l3 : ∀ f, upd (upd A (p + 1) (fun i => c * A p i + d * A (p + 1) i)) p f = upd (upd A p f) (p + 1) (fun i => c * A p i + d * A (p + 1) i) := fun f => Go.Det.upd_comm _ _ _ (Ne.symm hne)
    have z1 := alt.zero (p := p) (q := p + 1) (by omega) (by omega) hne (upd (upd A p (A p)) (p + 1) (A p)) fun j _ => by simp [upd]
    have z2 := alt.zero (p := p) (q := p + 1) (by omega) (by omega) hne (upd (upd A p (A (p + 1))) (p + 1) (A (p + 1))) fun j _ => by simp [upd]
    have z3 := alt.swap (p := p) (q := p + 1) (by omega) (by omega) hne A (A (p + 1)) (A p)
    have z4 : upd (upd A p (A p)) (p + 1) (A (p + 1)) = A := by rw [Go.Det.upd_self, Go.Det.upd_self]
    rw [l1, l3, l3, l2, l2, z1, z2, z3, z4]
    have : dt n F = dt n (fun i j => A j i) := by rw [hA]
    rw [this]; grind
  by_cases hx : x < 0
  · rw [if_pos hx, hti, two 0 t⁻¹ 1 (1 - t⁻¹) _ fun i j _ _ => ?_]
    · grind
    · unfold bact bactN
      rw [if_pos hx, hp, Nat.add_sub_cancel]
      split
      · grind
      · split
        · grind
        · rfl
  · rw [if_neg hx, Rat.zpow_one, two (1 - t) 1 t 0 _ fun i j _ _ => ?_]
    · grind
    · unfold bact bactP
      rw [if_neg hx, hp, Nat.add_sub_cancel]
      split
      · grind
      · split
        · grind
        · rfl
theorem dt_word {t : Rat} (ht : t ≠ 0) {n : Nat} : ∀ (w : List Int), NWord n w → ∀ (e : Int) (F : Nat → Nat → Rat), ∃ s : Rat, (s = 1 ∨ s = -1) ∧ (s = (-1) ^ w.length) ∧
    t ^ e * dt n (fun i j => bacts t w (F i) j) = s * t ^ (w.foldl (fun e x => e + (if x < 0 then (-1 : Int) else 1)) e) * dt n F := by
  intro w
  induction w with
  | nil => intro _ e F; exact ⟨1, .inl rfl, rfl, by simp [bacts]⟩
  | cons x w ih =>
    intro hw e F
    have hx := hw x (by simp)
    obtain ⟨s, hs, hs2, h⟩ := ih (fun y hy => hw y (by simp [hy])) (e + (if x < 0 then (-1 : Int) else 1)) (fun i => bact t x (F i))
    refine ⟨-s, by rcases hs with rfl | rfl <;> simp, by rw [hs2, List.length_cons, Rat.pow_succ]; grind, ?_⟩
    rw [dt_letter ht hx.1 hx.2, Rat.zpow_add ht] at h
    have hz : t ^ (if x < 0 then (-1 : Int) else 1) ≠ 0 := by
      split
      · rw [Rat.zpow_neg]; simpa using inv_ne ht
      · simpa using ht
    obtain ⟨z, hzz⟩ : ∃ z, t ^ (if x < 0 then (-1 : Int) else 1) = z := ⟨_, rfl⟩
    rw [hzz] at h hz
    obtain ⟨D, hD⟩ : ∃ D, dt n (fun i j => bacts t (x :: w) (F i) j) = D := ⟨_, rfl⟩
    have hD2 : dt n (fun i j => bacts t w (bact t x (F i)) j) = D := hD
    rw [hD, List.foldl_cons]
    rw [hD2] at h
    have h5 : z * (t ^ e * D) = z * (-s * t ^ (w.foldl (fun e x => e + (if x < 0 then (-1 : Int) else 1)) (e + if x < 0 then -1 else 1)) * dt n F) := by
      rw [← Rat.mul_assoc, Rat.mul_comm z, h]; grind
    have h6 := congrArg (z⁻¹ * ·) h5
    simpa [← Rat.mul_assoc, Rat.inv_mul_cancel _ hz] using h6

end Go.Proofs.Ytckopilciekfbaa

