/- Values at 1 and -1, conjugates and normal forms of Laurent polynomials: plain law. -/
import Derived.Test.YtkimbhmijgfhnaaDivLaw
import Derived.Test.YtkimbhmijgfhnaaTimes
namespace Go.Proofs.Ytkimbhmijgfhnaa
open Go.RowKit Go.Sl

/-- The value at x (1 or -1) of the terms with the exponents e, e + 1, .. -/
def atR (x : Int) : Int → List Int → Int
  | _, [] => 0
  | e, c :: cs => (if x < 0 ∧ e % 2 ≠ 0 then -c else c) + atR x (e + 1) cs
theorem atR_append (x : Int) (a b : List Int) : ∀ e, atR x e (a ++ b) = atR x e a + atR x (e + a.length) b := by
  induction a with
  | nil => intro e; simp [atR]
  | cons c cs ih =>
    intro e
    rw [List.cons_append, atR, atR, ih, List.length_cons, show e + 1 + (cs.length : Int) = e + ((cs.length + 1 : Nat) : Int) by omega]
    omega
theorem atR_take_succ (x e : Int) (l : List Int) (i : Nat) (h : i < l.length) : atR x e (l.take (i + 1)) = atR x e (l.take i) + (if x < 0 ∧ (e + i) % 2 ≠ 0 then -(nth l i) else nth l i) := by
  rw [List.take_succ_eq_append_getElem h, atR_append, List.length_take, Nat.min_eq_left (by omega), nth_lt h, atR, atR]
  omega
theorem atR_le (x : Int) (l : List Int) : ∀ e, (atR x e l).natAbs ≤ n1 l := by
  induction l with
  | nil => intro e; simp [atR]
  | cons c cs ih =>
    intro e
    have := ih (e + 1)
    rw [atR, n1]
    split <;> omega
theorem atR_take_le (x e : Int) (l : List Int) (i : Nat) : (atR x e (l.take i)).natAbs ≤ n1 l := Nat.le_trans (atR_le x _ e) (n1_take_le l i)

theorem one_zpow (e : Int) : (1 : Rat) ^ e = 1 := by
  have h : ∀ n : Nat, (1 : Rat) ^ n = 1 := fun n => by
    induction n with
    | zero => rfl
    | succ n ih => rw [Rat.pow_succ, ih]; grind
  rcases Int.le_total 0 e with he | he
  · obtain ⟨n, rfl⟩ := Int.eq_ofNat_of_zero_le he
    exact h n
  · obtain ⟨n, hn⟩ := Int.eq_ofNat_of_zero_le (show 0 ≤ -e by omega)
    rw [show e = -(n : Int) by omega, Rat.zpow_neg, Rat.zpow_natCast, h]; exact Rat.inv_eq_of_mul_eq_one (by grind)
theorem neg_ne : (-1 : Rat) ≠ 0 := by decide
theorem sign_pow (n : Nat) : (-1 : Rat) ^ n = if n % 2 = 0 then 1 else -1 := by
  induction n with
  | zero => rfl
  | succ n ih =>
    rw [Rat.pow_succ, ih]
    split <;> split <;> first | omega | rfl | grind | exact Rat.inv_eq_of_mul_eq_one (by grind)
theorem sign_zpow (e : Int) : (-1 : Rat) ^ e = if e % 2 = 0 then 1 else -1 := by
  rcases Int.le_total 0 e with he | he
  · obtain ⟨n, rfl⟩ := Int.eq_ofNat_of_zero_le he
    rw [Rat.zpow_natCast, sign_pow]
    split <;> split <;> first | omega | rfl | grind | exact Rat.inv_eq_of_mul_eq_one (by grind)
  · obtain ⟨n, hn⟩ := Int.eq_ofNat_of_zero_le (show 0 ≤ -e by omega)
    rw [show e = -(n : Int) by omega, Rat.zpow_neg, Rat.zpow_natCast, sign_pow]
    split <;> split <;> first | omega | rfl | grind | exact Rat.inv_eq_of_mul_eq_one (by grind)
theorem atR_pos (l : List Int) : ∀ e, ((atR 1 e l : Int) : Rat) = (1 : Rat) ^ e * evL l 1 := by
  induction l with
  | nil => intro e; simp [atR, evL]
  | cons c cs ih =>
    intro e
    have h := ih (e + 1)
    rw [atR, if_neg (by omega), evL, Rat.intCast_add, h, one_zpow, one_zpow]
    grind
theorem atR_neg (l : List Int) : ∀ e, ((atR (-1) e l : Int) : Rat) = (-1 : Rat) ^ e * evL l (-1) := by
  induction l with
  | nil => intro e; simp [atR, evL]
  | cons c cs ih =>
    intro e
    have h := ih (e + 1)
    rw [atR, evL, Rat.intCast_add, h, Rat.zpow_add_one neg_ne, sign_zpow]
    by_cases h2 : e % 2 = 0
    · rw [if_pos h2, if_neg (by rintro ⟨_, h⟩; exact h h2)]; grind
    · rw [if_neg h2, if_pos ⟨by omega, h2⟩, Rat.intCast_neg]; grind
theorem atR_pmul (x y : LP) {a : Int} (ha : a = 1 ∨ a = -1) : atR a (pmul x y).low (pmul x y).c = atR a x.low x.c * atR a y.low y.c := by
  rcases ha with rfl | rfl
  · have h := ev_pmul x y (t := 1) (by decide)
    unfold ev at h
    rw [← atR_pos, ← atR_pos, ← atR_pos, ← Rat.intCast_mul] at h
    exact Rat.intCast_inj.1 h
  · have h := ev_pmul x y (t := -1) (by decide)
    unfold ev at h
    rw [← atR_neg, ← atR_neg, ← atR_neg, ← Rat.intCast_mul] at h
    exact Rat.intCast_inj.1 h

/-- The polynomial of the inverse of the variable. -/
def pconj (p : LP) : LP := trimP (1 - p.low - p.c.length) p.c.reverse
theorem pconj_trimmed (p : LP) : Trimmed (pconj p) := trimP_trimmed _ _
theorem inv_ne {t : Rat} (ht : t ≠ 0) : t⁻¹ ≠ 0 := fun h => by
  have := Rat.mul_inv_cancel t ht
  rw [h, Rat.mul_zero] at this
  revert this; decide
theorem inv_pow {t : Rat} (ht : t ≠ 0) (n : Nat) : (t⁻¹) ^ n = (t ^ n)⁻¹ := by
  refine (Rat.inv_eq_of_mul_eq_one ?_).symm
  induction n with
  | zero => rw [Rat.pow_zero, Rat.pow_zero]; grind
  | succ n ih =>
    rw [Rat.pow_succ, Rat.pow_succ]
    have := Rat.mul_inv_cancel t ht
    grind
theorem inv_zpow {t : Rat} (ht : t ≠ 0) (e : Int) : (t⁻¹) ^ e = t ^ (-e) := by
  rcases Int.le_total 0 e with he | he
  · obtain ⟨n, rfl⟩ := Int.eq_ofNat_of_zero_le he
    rw [Rat.zpow_neg, Rat.zpow_natCast, Rat.zpow_natCast, inv_pow ht]
  · obtain ⟨n, hn⟩ := Int.eq_ofNat_of_zero_le (show 0 ≤ -e by omega)
    rw [show e = -(n : Int) by omega, Rat.zpow_neg, Int.neg_neg, Rat.zpow_natCast, Rat.zpow_natCast, inv_pow ht, Rat.inv_inv]
theorem evL_reverse (l : List Int) {t : Rat} (ht : t ≠ 0) : evL l.reverse t * t = t ^ l.length * evL l t⁻¹ := by
  induction l with
  | nil => simp [evL]
  | cons c cs ih =>
    rw [List.reverse_cons, evL_append, List.length_reverse, evL, evL, evL, List.length_cons, Rat.pow_succ]
    have h := Rat.mul_inv_cancel t ht
    have : t ^ cs.length * t * (c + t⁻¹ * evL cs t⁻¹) = t ^ cs.length * t * c + (t * t⁻¹) * (t ^ cs.length * evL cs t⁻¹) := by grind
    rw [this, h, ← ih]
    grind
theorem ev_pconj (p : LP) {t : Rat} (ht : t ≠ 0) : ev (pconj p) t = ev p t⁻¹ := by
  unfold pconj
  rw [ev_trimP _ _ ht, ev, inv_zpow ht, show (1 - p.low - (p.c.length : Int)) = -p.low + (-(p.c.length : Int) + 1) by omega, Rat.zpow_add ht, Rat.zpow_add_one ht]
  have h1 := evL_reverse p.c ht
  have h2 : t ^ (-(p.c.length : Int)) * t ^ p.c.length = 1 := by
    rw [Rat.zpow_neg, Rat.zpow_natCast]
    exact Rat.inv_mul_cancel _ (fun h => by
      have : ∀ n : Nat, t ^ n ≠ 0 := fun n => by
        induction n with
        | zero => rw [Rat.pow_zero]; decide
        | succ n ih => rw [Rat.pow_succ]; intro h; rcases Rat.mul_eq_zero.1 h with h | h; exact ih h; exact ht h
      exact this _ h)
  have : t ^ (-p.low) * (t ^ (-(p.c.length : Int)) * t) * evL p.c.reverse t = t ^ (-p.low) * (t ^ (-(p.c.length : Int)) * (evL p.c.reverse t * t)) := by grind
  rw [this, h1]
  grind
theorem pconj_pmul (x y : LP) : pconj (pmul x y) = pmul (pconj x) (pconj y) :=
  ev_ext (pconj_trimmed _) (pmul_trimmed _ _) fun t ht => by rw [ev_pconj _ ht, ev_pmul _ _ (inv_ne ht), ev_pmul _ _ ht, ev_pconj _ ht, ev_pconj _ ht]
theorem pconj_pconj {x : LP} (h : Trimmed x) : pconj (pconj x) = x :=
  ev_ext (pconj_trimmed _) h fun t ht => by rw [ev_pconj _ ht, ev_pconj _ (inv_ne ht), Rat.inv_inv]
theorem within_pconj {p : LP} {lo hi : Int} (h : Within p lo hi) : Within (pconj p) (1 - hi) (1 - lo) := by
  rcases h with h | h
  · left; unfold pconj; rw [h]; rfl
  · have := within_trimP (1 - p.low - p.c.length) p.c.reverse
    refine this.mono (by omega) (by simp; omega)
theorem n1_pconj (p : LP) : n1 (pconj p).c ≤ n1 p.c := by
  have := n1_trimP (1 - p.low - p.c.length) p.c.reverse
  rwa [n1_reverse] at this

/-- The sign that makes the last coefficient positive. -/
def lsign (p : LP) : Int := if nth p.c (p.c.length - 1) < 0 then -1 else 1
def pnorm (p : LP) : LP := pmul ⟨0, p.c⟩ (pterm (lsign p) 0)
theorem ev_pnorm (p : LP) {t : Rat} (ht : t ≠ 0) : ev (pnorm p) t = evL p.c t * lsign p := by
  unfold pnorm
  rw [ev_pmul _ _ ht, ev_pterm _ _ ht, ev, Rat.zpow_zero]
  grind
/-- Normal forms ignore units. -/
theorem pnorm_unit {x : LP} (hx : Trimmed x) {s e : Int} (hs : s = 1 ∨ s = -1) : pnorm (pmul x ⟨e, [s]⟩) = pnorm x := by
  by_cases h0 : x.c = []
  · refine ev_ext (pmul_trimmed _ _) (pmul_trimmed _ _) fun t ht => ?_
    rw [ev_pnorm _ ht, ev_pnorm _ ht, pmul_nil (.inl h0), h0]
    simp [pzero, evL]
  · have hu : Trimmed ⟨e, [s]⟩ := ⟨fun h => by simp at h, fun _ => by simp [nth]; omega, fun _ => by simp [nth]; omega⟩
    have hm := pmul_exact hx hu h0 (by simp)
    have ht1 := top_mull x.c [s] h0 (by simp)
    have hl := mull_length x.c [s] h0 (by simp)
    have hl2 : 0 < x.c.length := List.length_pos_iff.2 h0
    refine ev_ext (pmul_trimmed _ _) (pmul_trimmed _ _) fun t ht => ?_
    rw [ev_pnorm _ ht, ev_pnorm _ ht, hm]
    show evL (mull x.c [s]) t * _ = _
    rw [evL_mull]
    have hlast := hx.last h0
    have hls : lsign ⟨x.low + e, mull x.c [s]⟩ = s * lsign x := by
      unfold lsign
      simp only [hl, List.length_cons, List.length_nil] at ht1 ⊢
      rw [show x.c.length + (0 + 1) - 1 - 1 = x.c.length - 1 by omega]
      simp only [Nat.zero_add, Nat.sub_self, Nat.add_zero] at ht1
      rw [ht1, nth_cons_zero]
      rcases hs with rfl | rfl
      · simp
      · split <;> split <;> omega
    rw [hls, Rat.intCast_mul]
    rcases hs with rfl | rfl
    · simp [evL]; grind
    · simp [evL]; grind
theorem within_pnorm {p : LP} {lo hi : Int} (h : Within p lo hi) : Within (pnorm p) 0 (hi - lo) := by
  have h1 : Within ⟨0, p.c⟩ 0 (hi - lo) := by
    rcases h with h | h
    · exact .inl h
    · exact .inr ⟨Int.le_refl _, by show 0 + (p.c.length : Int) ≤ _; omega⟩
  have := within_pmul h1 (within_pterm (lsign p) 0)
  exact this.mono (by omega) (by omega)

end Go.Proofs.Ytkimbhmijgfhnaa
