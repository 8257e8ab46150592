/- Determinants over a commutative ring, by expansion along the first row: linear and alternating in the rows, and the only such function; products, transposed matrices. Plain algebra. -/

namespace Go.Det
open Lean.Grind (CommRing)
variable {R : Type} [CommRing R]

def sumN (f : Nat → R) : Nat → R
  | 0 => 0
  | n + 1 => sumN f n + f n
def upd (A : Nat → Nat → R) (r : Nat) (f : Nat → R) : Nat → Nat → R := fun i => if i = r then f else A i
omit [CommRing R] in
theorem upd_same (A : Nat → Nat → R) (r : Nat) (f : Nat → R) : upd A r f r = f := by simp [upd]
omit [CommRing R] in
theorem upd_other (A : Nat → Nat → R) {r i : Nat} (f : Nat → R) (h : i ≠ r) : upd A r f i = A i := by simp [upd, h]
omit [CommRing R] in
theorem upd_self (A : Nat → Nat → R) (r : Nat) : upd A r (A r) = A := by funext i; unfold upd; split <;> simp_all
omit [CommRing R] in
theorem upd_comm (A : Nat → Nat → R) {r s : Nat} (f g : Nat → R) (h : r ≠ s) : upd (upd A r f) s g = upd (upd A s g) r f := by
  funext i; unfold upd; by_cases h1 : i = s <;> by_cases h2 : i = r <;> simp_all

/-- Linear in each row, zero if two neighbouring rows are equal, and dependent on n rows and columns only. -/
structure Alt (n : Nat) (F : (Nat → Nat → R) → R) : Prop where
  congr : ∀ {A B : Nat → Nat → R}, (∀ i j, i < n → j < n → A i j = B i j) → F A = F B
  lin : ∀ (A : Nat → Nat → R) (r : Nat) (a b : R) (f g : Nat → R), r < n → F (upd A r (fun j => a * f j + b * g j)) = a * F (upd A r f) + b * F (upd A r g)
  adj : ∀ (A : Nat → Nat → R) (r : Nat), r + 1 < n → (∀ j, j < n → A r j = A (r + 1) j) → F A = 0

namespace Alt
variable {n : Nat} {F : (Nat → Nat → R) → R}
theorem add (h : Alt n F) (A : Nat → Nat → R) (r : Nat) (f g : Nat → R) (hr : r < n) : F (upd A r (fun j => f j + g j)) = F (upd A r f) + F (upd A r g) := by
  have e := h.lin A r 1 1 f g hr
  have e2 : (fun j => (1 : R) * f j + 1 * g j) = fun j => f j + g j := by funext j; grind
  rw [e2] at e; rw [e]; grind
theorem smul (h : Alt n F) (A : Nat → Nat → R) (r : Nat) (a : R) (f : Nat → R) (hr : r < n) : F (upd A r (fun j => a * f j)) = a * F (upd A r f) := by
  have e := h.lin A r a 0 f f hr
  have e2 : (fun j => a * f j + 0 * f j) = fun j => a * f j := by funext j; grind
  rw [e2] at e; rw [e]; grind
/-- From 'zero if rows p and q are equal' to 'a swap of both changes the sign'. -/
theorem swapOf (h : Alt n F) {p q : Nat} (hp : p < n) (hq : q < n) (hpq : p ≠ q) (hz : ∀ A : Nat → Nat → R, (∀ j, j < n → A p j = A q j) → F A = 0) (A : Nat → Nat → R) (f g : Nat → R) :
    F (upd (upd A p f) q g) = -F (upd (upd A p g) q f) := by
  have z := hz (upd (upd A p (fun j => f j + g j)) q (fun j => f j + g j)) (fun j _ => by rw [upd_other _ _ hpq, upd_same, upd_same])
  rw [h.add _ q f g hq, upd_comm _ _ _ hpq, upd_comm A _ _ hpq, h.add _ p f g hp, h.add _ p f g hp] at z
  have z1 := hz (upd (upd A q f) p f) (fun j _ => by rw [upd_same, upd_other _ _ hpq.symm, upd_same])
  have z2 := hz (upd (upd A q g) p g) (fun j _ => by rw [upd_same, upd_other _ _ hpq.symm, upd_same])
  rw [z1, z2] at z
  rw [upd_comm A f g hpq, upd_comm A g f hpq]
  grind
theorem zero_of (h : Alt n F) (d : Nat) : ∀ (p : Nat) (A : Nat → Nat → R), p + d + 1 < n → (∀ j, j < n → A p j = A (p + d + 1) j) → F A = 0 := by
  induction d with
  | zero => intro p A hp he; exact h.adj A p hp he
  | succ d ih =>
    intro p A hp he
    have s := h.swapOf (p := p + d + 1) (q := p + d + 1 + 1) (by omega) (by omega) (by omega) (fun B hB => h.adj B _ (by omega) hB) A (A (p + d + 1)) (A (p + d + 1 + 1))
    rw [upd_self, upd_self] at s
    rw [s, ih p _ (by omega) (fun j hj => by
      rw [upd_other _ _ (show p ≠ p + d + 1 + 1 by omega), upd_other _ _ (show p ≠ p + d + 1 by omega), upd_other _ _ (show p + d + 1 ≠ p + d + 1 + 1 by omega), upd_same]
      exact he j hj)]
    grind
theorem zero (h : Alt n F) {p q : Nat} (hp : p < n) (hq : q < n) (hpq : p ≠ q) (A : Nat → Nat → R) (he : ∀ j, j < n → A p j = A q j) : F A = 0 := by
  rcases Nat.lt_or_gt_of_ne hpq with hl | hl
  · have := h.zero_of (q - p - 1) p A (by omega)
    rw [show p + (q - p - 1) + 1 = q by omega] at this
    exact this he
  · have := h.zero_of (p - q - 1) q A (by omega)
    rw [show q + (p - q - 1) + 1 = p by omega] at this
    exact this fun j hj => (he j hj).symm
theorem swap (h : Alt n F) {p q : Nat} (hp : p < n) (hq : q < n) (hpq : p ≠ q) (A : Nat → Nat → R) (f g : Nat → R) :
    F (upd (upd A p f) q g) = -F (upd (upd A p g) q f) := h.swapOf hp hq hpq (fun B hB => h.zero hp hq hpq B hB) A f g
/-- A row that is a sum of multiples of rows. -/
theorem sum (h : Alt n F) (A : Nat → Nat → R) {r : Nat} (hr : r < n) (a : Nat → R) (f : Nat → Nat → R) (m : Nat) : F (upd A r (fun j => sumN (fun k => a k * f k j) m)) = sumN (fun k => a k * F (upd A r (f k))) m := by
  induction m with
  | zero =>
    have e := h.smul A r 0 (fun _ => 0) hr
    have e2 : (fun j => sumN (fun k => a k * f k j) 0) = fun _ => (0 : R) * 0 := by funext j; simp only [sumN]; grind
    rw [e2, e]; simp only [sumN]; grind
  | succ m ih =>
    have e2 : (fun j => sumN (fun k => a k * f k j) (m + 1)) = fun j => sumN (fun k => a k * f k j) m + a m * f m j := by funext j; rfl
    rw [e2, h.add A r _ _ hr, ih, h.smul A r _ _ hr]; rfl
end Alt

def mul (n : Nat) (A B : Nat → Nat → R) : Nat → Nat → R := fun i j => sumN (fun k => A i k * B k j) n
end Go.Det

