/- Fox derivatives: plain law. -/
import Derived.Test.YtdmogoeafjpphaaPolyBound
import Derived.Test.YtdmogoeafjpphaaFreeLaw
namespace Go.Proofs.Ytdmogoeafjpphaa
open Go.RowKit Go.Sl

def foxStep (i : Int) (s : LP × Int) (x : Int) : LP × Int :=
  (if x = i then padd s.1 (pterm 1 (if x < 0 then s.2 - 1 else s.2)) 1 else if x = -i then padd s.1 (pterm 1 (if x < 0 then s.2 - 1 else s.2)) (-1) else s.1,
   if 0 < x then (if x < 0 then s.2 - 1 else s.2) + 1 else if x < 0 then s.2 - 1 else s.2)
def foxS (i : Int) (w : List Int) : LP × Int := w.foldl (foxStep i) (pzero, 0)
def foxL (i : Int) (w : List Int) : LP := (foxS i w).1
def sg (x : Int) : Int := if 0 < x then 1 else -1
def expo : List Int → Int
  | [] => 0
  | x :: w => sg x + expo w
theorem expo_append (a b : List Int) : expo (a ++ b) = expo a + expo b := by
  induction a with
  | nil => simp [expo]
  | cons x a ih => rw [List.cons_append, expo, expo, ih]; omega
theorem expo_snoc (a : List Int) (x : Int) : expo (a ++ [x]) = expo a + sg x := by rw [expo_append]; simp [expo]
theorem expo_le (a : List Int) : -(a.length : Int) ≤ expo a ∧ expo a ≤ a.length := by
  induction a with
  | nil => simp [expo]
  | cons x a ih => rw [expo, List.length_cons]; unfold sg; split <;> omega
def dv (i : Int) (t : Rat) (x : Int) : Rat := if x = i then 1 else if x = -i then -t⁻¹ else 0
def der (i : Int) (t : Rat) : List Int → Rat
  | [] => 0
  | x :: w => dv i t x + t ^ sg x * der i t w
theorem der_append (i : Int) {t : Rat} (ht : t ≠ 0) (a b : List Int) : der i t (a ++ b) = der i t a + t ^ expo a * der i t b := by
  induction a with
  | nil => simp [der, expo]; grind
  | cons x a ih => rw [List.cons_append, der, der, ih, expo, Rat.zpow_add ht]; grind
theorem foxStep_exp (i : Int) (s : LP × Int) (x : Int) (h0 : x ≠ 0) : (foxStep i s x).2 = s.2 + sg x := by
  unfold foxStep sg
  simp only
  split <;> split <;> omega
theorem foxStep_ev (i : Int) (hi : 0 < i) (s : LP × Int) (x : Int) {t : Rat} (ht : t ≠ 0) : ev (foxStep i s x).1 t = ev s.1 t + t ^ s.2 * dv i t x := by
  unfold foxStep dv
  simp only
  by_cases h1 : x = i
  · rw [if_pos h1, if_pos h1, if_neg (by omega), ev_padd _ _ _ ht, ev_pterm _ _ ht]
    simp
  · rw [if_neg h1, if_neg h1]
    by_cases h2 : x = -i
    · rw [if_pos h2, if_pos h2, if_pos (by omega), ev_padd _ _ _ ht, ev_pterm _ _ ht, Rat.zpow_sub_one ht]
      simp
      grind
    · rw [if_neg h2, if_neg h2]
      grind
theorem foxS_snoc (i : Int) (w : List Int) (x : Int) : foxS i (w ++ [x]) = foxStep i (foxS i w) x := by simp [foxS]
theorem foxS_exp (i : Int) (w : List Int) : (∀ x ∈ w, x ≠ 0) → (foxS i w).2 = expo w := by
  obtain ⟨M, hM⟩ : ∃ M, M = w.reverse := ⟨_, rfl⟩
  obtain rfl : w = M.reverse := by rw [hM, List.reverse_reverse]
  clear hM
  induction M with
  | nil => intro _; rfl
  | cons x M ih =>
    intro h
    rw [List.reverse_cons] at h ⊢
    rw [foxS_snoc, foxStep_exp _ _ _ (h x (by simp)), ih fun y hy => h y (List.mem_append.2 (.inl hy)), expo_snoc]
theorem foxL_ev (i : Int) (hi : 0 < i) (w : List Int) {t : Rat} (ht : t ≠ 0) : (∀ x ∈ w, x ≠ 0) → ev (foxL i w) t = der i t w := by
  obtain ⟨M, hM⟩ : ∃ M, M = w.reverse := ⟨_, rfl⟩
  obtain rfl : w = M.reverse := by rw [hM, List.reverse_reverse]
  clear hM
  induction M with
  | nil => intro _; exact ev_pzero t
  | cons x M ih =>
    intro h
    rw [List.reverse_cons] at h ⊢
    have h1 : ∀ y ∈ M.reverse, y ≠ 0 := fun y hy => h y (List.mem_append.2 (.inl hy))
    unfold foxL at ih ⊢
    rw [foxS_snoc, foxStep_ev i hi _ _ ht, ih h1, foxS_exp i _ h1, der_append i ht, der, der]
    grind
theorem foxS_pb (i : Int) (w : List Int) : (∀ x ∈ w, x ≠ 0) → PB (foxL i w) (-(w.length : Int)) w.length w.length w.length := by
  obtain ⟨M, hM⟩ : ∃ M, M = w.reverse := ⟨_, rfl⟩
  obtain rfl : w = M.reverse := by rw [hM, List.reverse_reverse]
  clear hM
  induction M with
  | nil => intro _; exact ⟨pzero_trimmed, within_pzero _ _, Nat.le_refl 0, fun x hx => by cases hx⟩
  | cons x M ih =>
    intro h
    rw [List.reverse_cons] at h ⊢
    have h1 : ∀ y ∈ M.reverse, y ≠ 0 := fun y hy => h y (List.mem_append.2 (.inl hy))
    rw [List.length_append, List.length_cons, List.length_nil]
    have ih := ih h1
    have he := foxS_exp i _ h1
    have hb := expo_le M.reverse
    obtain ⟨L, hL⟩ : ∃ L, L = M.reverse.length := ⟨_, rfl⟩
    rw [← hL] at ih hb ⊢
    unfold foxL at ih ⊢
    rw [foxS_snoc]
    unfold foxStep
    simp only
    obtain ⟨e, hee⟩ : ∃ e, e = (if x < 0 then (foxS i M.reverse).2 - 1 else (foxS i M.reverse).2) := ⟨_, rfl⟩
    rw [← hee]
    have hee2 : -(L : Int) - 1 ≤ e ∧ e + 1 ≤ L + 1 := by rw [hee, he]; split <;> omega
    have hp : PB (pterm 1 e) (-(L : Int) - 1) (L + 1) 1 1 := (pterm_pb 1 e).mono hee2.1 hee2.2 (by decide) (by decide)
    have ih2 : PB (foxS i M.reverse).1 (-(L : Int) - 1) (L + 1) L L := ih.mono (by omega) (by omega) (by omega) (by omega)
    split
    · exact PB.mono (PB.add ih2 hp 1) (by omega) (by omega) (by simp) (by simp)
    · split
      · exact PB.mono (PB.add ih2 hp (-1)) (by omega) (by omega) (by simp) (by simp)
      · exact PB.mono ih2 (by omega) (by omega) (by omega) (by omega)
theorem foxL_trimmed (i : Int) (w : List Int) (h : ∀ x ∈ w, x ≠ 0) : Trimmed (foxL i w) := (foxS_pb i w h).tr

def unitP (n : Int) : LP := ⟨n, [1]⟩
theorem unitP_trimmed (n : Int) : Trimmed (unitP n) := ⟨fun h => (by cases h), fun _ => (by simp [unitP, nth]), fun _ => (by simp [unitP, nth])⟩
theorem ev_unitP (n : Int) (t : Rat) : ev (unitP n) t = t ^ n := by simp [ev, evL, unitP]; grind
theorem unitP_pb (n : Int) : PB (unitP n) n (n + 1) 1 1 := ⟨unitP_trimmed n, .inr ⟨Int.le_refl _, by simp [unitP]⟩, Nat.le_refl 1, fun x hx => by simp [unitP] at hx; subst hx; decide⟩

/-- The derivative of a product. -/
theorem fox_product (i : Int) (hi : 0 < i) (x y : List Int) (hx : ∀ z ∈ x, z ≠ 0) (hy : ∀ z ∈ y, z ≠ 0) :
    foxL i (x ++ y) = padd (foxL i x) (pmul (unitP (expo x)) (foxL i y)) 1 := by
  have hxy : ∀ z ∈ x ++ y, z ≠ 0 := fun z hz => (List.mem_append.1 hz).elim (hx z) (hy z)
  refine ev_ext (foxL_trimmed i _ hxy) (padd_trimmed _ _ _) fun t ht => ?_
  rw [foxL_ev i hi _ ht hxy, ev_padd _ _ _ ht, ev_pmul _ _ ht, ev_unitP, foxL_ev i hi _ ht hx, foxL_ev i hi _ ht hy, der_append i ht]
  simp
theorem dv_sum {t : Rat} (ht : t ≠ 0) {x : Int} (h0 : x ≠ 0) (h1 : -6 ≤ x) (h2 : x ≤ 6) :
    (dv 1 t x + dv 2 t x + dv 3 t x + dv 4 t x + dv 5 t x + dv 6 t x) * (t - 1) = t ^ sg x - 1 := by
  by_cases hp : 0 < x
  · have hs : sg x = 1 := if_pos hp
    have hd : dv 1 t x + dv 2 t x + dv 3 t x + dv 4 t x + dv 5 t x + dv 6 t x = 1 := by
      have : x = 1 ∨ x = 2 ∨ x = 3 ∨ x = 4 ∨ x = 5 ∨ x = 6 := by omega
      rcases this with rfl | rfl | rfl | rfl | rfl | rfl <;> simp [dv] <;> grind
    rw [hd, hs, Rat.zpow_one]; grind
  · have hs : sg x = -1 := if_neg hp
    have hd : dv 1 t x + dv 2 t x + dv 3 t x + dv 4 t x + dv 5 t x + dv 6 t x = -t⁻¹ := by
      have : x = -1 ∨ x = -2 ∨ x = -3 ∨ x = -4 ∨ x = -5 ∨ x = -6 := by omega
      rcases this with rfl | rfl | rfl | rfl | rfl | rfl <;> simp [dv] <;> grind
    rw [hd, hs, Rat.zpow_neg, Rat.zpow_one]
    have := Rat.mul_inv_cancel t ht
    grind
theorem der_sum {t : Rat} (ht : t ≠ 0) (w : List Int) (h : ∀ x ∈ w, x ≠ 0 ∧ -6 ≤ x ∧ x ≤ 6) :
    (der 1 t w + der 2 t w + der 3 t w + der 4 t w + der 5 t w + der 6 t w) * (t - 1) = t ^ expo w - 1 := by
  induction w with
  | nil => simp [der, expo]; grind
  | cons x w ih =>
    obtain ⟨h0, h1, h2⟩ := h x (by simp)
    have ih := ih fun y hy => h y (by simp [hy])
    have hd := dv_sum ht h0 h1 h2
    simp only [der, expo]
    rw [Rat.zpow_add ht]
    grind
def foxSum (w : List Int) : Nat → LP
  | 0 => pzero
  | k + 1 => padd (foxSum w k) (pmul (foxL ((k : Int) + 1) w) (padd (unitP 1) (unitP 0) (-1))) 1
/-- The fundamental formula. -/
theorem fox_sum (w : List Int) (h : ∀ x ∈ w, x ≠ 0 ∧ -6 ≤ x ∧ x ≤ 6) : padd (unitP (expo w)) (unitP 0) (-1) = foxSum w 6 := by
  have h0 : ∀ x ∈ w, x ≠ 0 := fun x hx => (h x hx).1
  refine ev_ext (padd_trimmed _ _ _) (padd_trimmed _ _ _) fun t ht => ?_
  have hs := der_sum ht w h
  simp only [foxSum, ev_padd _ _ _ ht, ev_pmul _ _ ht, ev_unitP, Rat.zpow_zero, Rat.zpow_one, ev_pzero]
  rw [show ((0 : Nat) : Int) + 1 = 1 by rfl, show ((1 : Nat) : Int) + 1 = 2 by rfl, show ((2 : Nat) : Int) + 1 = 3 by rfl, show ((3 : Nat) : Int) + 1 = 4 by rfl, show ((4 : Nat) : Int) + 1 = 5 by rfl, show ((5 : Nat) : Int) + 1 = 6 by rfl]
  rw [foxL_ev 1 (by decide) _ ht h0, foxL_ev 2 (by decide) _ ht h0, foxL_ev 3 (by decide) _ ht h0, foxL_ev 4 (by decide) _ ht h0, foxL_ev 5 (by decide) _ ht h0, foxL_ev 6 (by decide) _ ht h0]
  simp
  grind

end Go.Proofs.Ytdmogoeafjpphaa
