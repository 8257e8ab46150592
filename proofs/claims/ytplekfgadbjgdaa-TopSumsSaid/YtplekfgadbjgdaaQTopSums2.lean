/- Determinants over a commutative ring, by expansion along the first row: linear and alternating in the rows, and the only such function; products, transposed matrices. Plain algebra. -/

namespace Go.Det
open Lean.Grind (CommRing)
variable {R : Type} [CommRing R]

theorem mulc (a b : R) : a * b = b * a := by grind
def sumN (f : Nat → R) : Nat → R
  | 0 => 0
  | n + 1 => sumN f n + f n
def sgN (c : Nat) : R := if c % 2 = 0 then 1 else -1
def skp (c j : Nat) : Nat := if j < c then j else j + 1
def dt : Nat → (Nat → Nat → R) → R
  | 0, _ => 1
  | n + 1, A => sumN (fun c => sgN c * A 0 c * dt n (fun i j => A (i + 1) (skp c j))) (n + 1)

theorem sgN_zero : sgN (R := R) 0 = 1 := rfl
theorem sgN_succ (c : Nat) : sgN (R := R) (c + 1) = -sgN c := by
  unfold sgN
  by_cases h : c % 2 = 0
  · rw [if_pos h, if_neg (by omega)]
  · rw [if_neg h, if_pos (by omega)]; grind
theorem sumN_congr {f g : Nat → R} (n : Nat) (h : ∀ k, k < n → f k = g k) : sumN f n = sumN g n := by
  induction n with
  | zero => rfl
  | succ n ih => rw [sumN, sumN, ih fun k hk => h k (by omega), h n (by omega)]
theorem sumN_lin (a b : R) (f g : Nat → R) (n : Nat) : sumN (fun k => a * f k + b * g k) n = a * sumN f n + b * sumN g n := by
  induction n with
  | zero => simp only [sumN]; grind
  | succ n ih => simp only [sumN]; rw [ih]; grind
theorem sumN_add (f g : Nat → R) (n : Nat) : sumN (fun k => f k + g k) n = sumN f n + sumN g n := by
  induction n with
  | zero => simp only [sumN]; grind
  | succ n ih => simp only [sumN]; rw [ih]; grind
theorem sumN_mul (a : R) (f : Nat → R) (n : Nat) : sumN (fun k => a * f k) n = a * sumN f n := by
  induction n with
  | zero => simp only [sumN]; grind
  | succ n ih => simp only [sumN]; rw [ih]; grind
theorem sumN_zero {f : Nat → R} (n : Nat) (h : ∀ k, k < n → f k = 0) : sumN f n = 0 := by
  induction n with
  | zero => rfl
  | succ n ih => rw [sumN, ih fun k hk => h k (by omega), h n (by omega)]; grind
theorem sumN_one {f : Nat → R} (n p : Nat) (hp : p < n) (h : ∀ k, k < n → k ≠ p → f k = 0) : sumN f n = f p := by
  induction n with
  | zero => omega
  | succ n ih =>
    rw [sumN]
    by_cases e : p = n
    · subst e
      rw [sumN_zero p fun k hk => h k (by omega) (by omega)]; grind
    · rw [ih (by omega) fun k hk => h k (by omega), h n (by omega) (by omega)]; grind
theorem sumN_two {f : Nat → R} (n p : Nat) (hp : p + 1 < n) (h : ∀ k, k < n → k ≠ p → k ≠ p + 1 → f k = 0) : sumN f n = f p + f (p + 1) := by
  induction n with
  | zero => omega
  | succ n ih =>
    rw [sumN]
    by_cases e : p + 1 = n
    · subst e
      rw [sumN_one (p + 1) p (by omega) fun k hk hkp => h k (by omega) hkp (by omega)]
    · rw [ih (by omega) fun k hk => h k (by omega), h n (by omega) (by omega) (by omega)]; grind
theorem dt_congr {n : Nat} : ∀ {A B : Nat → Nat → R}, (∀ i j, i < n → j < n → A i j = B i j) → dt n A = dt n B := by
  induction n with
  | zero => intro A B _; rfl
  | succ n ih =>
    intro A B h
    rw [dt, dt]
    refine sumN_congr _ fun c hc => ?_
    rw [h 0 c (by omega) hc]
    congr 1
    refine ih fun i j hi hj => h _ _ (by omega) ?_
    unfold skp; split <;> omega

def upd (A : Nat → Nat → R) (r : Nat) (f : Nat → R) : Nat → Nat → R := fun i => if i = r then f else A i
omit [CommRing R] in
theorem upd_same (A : Nat → Nat → R) (r : Nat) (f : Nat → R) : upd A r f r = f := by simp [upd]
omit [CommRing R] in
theorem upd_other (A : Nat → Nat → R) {r i : Nat} (f : Nat → R) (h : i ≠ r) : upd A r f i = A i := by simp [upd, h]
omit [CommRing R] in
theorem upd_self (A : Nat → Nat → R) (r : Nat) : upd A r (A r) = A := by funext i; unfold upd; split <;> simp_all
omit [CommRing R] in
theorem upd_comm (A : Nat → Nat → R) {r s : Nat} (f g : Nat → R) (h : r ≠ s) : upd (upd A r f) s g = upd (upd A s g) r f := by
  funext i; unfold upd; by_cases h1 : i = s <;> by_cases h2 : i = r <;> simp_all

/-- Linear in each row, zero if two neighbouring rows are equal, and dependent on n rows and columns only. -/
structure Alt (n : Nat) (F : (Nat → Nat → R) → R) : Prop where
  congr : ∀ {A B : Nat → Nat → R}, (∀ i j, i < n → j < n → A i j = B i j) → F A = F B
  lin : ∀ (A : Nat → Nat → R) (r : Nat) (a b : R) (f g : Nat → R), r < n → F (upd A r (fun j => a * f j + b * g j)) = a * F (upd A r f) + b * F (upd A r g)
  adj : ∀ (A : Nat → Nat → R) (r : Nat), r + 1 < n → (∀ j, j < n → A r j = A (r + 1) j) → F A = 0

namespace Alt
variable {n : Nat} {F : (Nat → Nat → R) → R}
theorem add (h : Alt n F) (A : Nat → Nat → R) (r : Nat) (f g : Nat → R) (hr : r < n) : F (upd A r (fun j => f j + g j)) = F (upd A r f) + F (upd A r g) := by
  have e := h.lin A r 1 1 f g hr
  have e2 : (fun j => (1 : R) * f j + 1 * g j) = fun j => f j + g j := by funext j; grind
  rw [e2] at e; rw [e]; grind
theorem smul (h : Alt n F) (A : Nat → Nat → R) (r : Nat) (a : R) (f : Nat → R) (hr : r < n) : F (upd A r (fun j => a * f j)) = a * F (upd A r f) := by
  have e := h.lin A r a 0 f f hr
  have e2 : (fun j => a * f j + 0 * f j) = fun j => a * f j := by funext j; grind
  rw [e2] at e; rw [e]; grind
/-- From 'zero if rows p and q are equal' to 'a swap of both changes the sign'. -/
theorem swapOf (h : Alt n F) {p q : Nat} (hp : p < n) (hq : q < n) (hpq : p ≠ q) (hz : ∀ A : Nat → Nat → R, (∀ j, j < n → A p j = A q j) → F A = 0) (A : Nat → Nat → R) (f g : Nat → R) :
    F (upd (upd A p f) q g) = -F (upd (upd A p g) q f) := by
  have z := hz (upd (upd A p (fun j => f j + g j)) q (fun j => f j + g j)) (fun j _ => by rw [upd_other _ _ hpq, upd_same, upd_same])
  rw [h.add _ q f g hq, upd_comm _ _ _ hpq, upd_comm A _ _ hpq, h.add _ p f g hp, h.add _ p f g hp] at z
  have z1 := hz (upd (upd A q f) p f) (fun j _ => by rw [upd_same, upd_other _ _ hpq.symm, upd_same])
  have z2 := hz (upd (upd A q g) p g) (fun j _ => by rw [upd_same, upd_other _ _ hpq.symm, upd_same])
  rw [z1, z2] at z
  rw [upd_comm A f g hpq, upd_comm A g f hpq]
  grind
theorem zero_of (h : Alt n F) (d : Nat) : ∀ (p : Nat) (A : Nat → Nat → R), p + d + 1 < n → (∀ j, j < n → A p j = A (p + d + 1) j) → F A = 0 := by
  induction d with
  | zero => intro p A hp he; exact h.adj A p hp he
  | succ d ih =>
    intro p A hp he
    have s := h.swapOf (p := p + d + 1) (q := p + d + 1 + 1) (by omega) (by omega) (by omega) (fun B hB => h.adj B _ (by omega) hB) A (A (p + d + 1)) (A (p + d + 1 + 1))
    rw [upd_self, upd_self] at s
    rw [s, ih p _ (by omega) (fun j hj => by
      rw [upd_other _ _ (show p ≠ p + d + 1 + 1 by omega), upd_other _ _ (show p ≠ p + d + 1 by omega), upd_other _ _ (show p + d + 1 ≠ p + d + 1 + 1 by omega), upd_same]
      exact he j hj)]
    grind
theorem zero (h : Alt n F) {p q : Nat} (hp : p < n) (hq : q < n) (hpq : p ≠ q) (A : Nat → Nat → R) (he : ∀ j, j < n → A p j = A q j) : F A = 0 := by
  rcases Nat.lt_or_gt_of_ne hpq with hl | hl
  · have := h.zero_of (q - p - 1) p A (by omega)
    rw [show p + (q - p - 1) + 1 = q by omega] at this
    exact this he
  · have := h.zero_of (p - q - 1) q A (by omega)
    rw [show q + (p - q - 1) + 1 = p by omega] at this
    exact this fun j hj => (he j hj).symm
theorem swap (h : Alt n F) {p q : Nat} (hp : p < n) (hq : q < n) (hpq : p ≠ q) (A : Nat → Nat → R) (f g : Nat → R) :
    F (upd (upd A p f) q g) = -F (upd (upd A p g) q f) := h.swapOf hp hq hpq (fun B hB => h.zero hp hq hpq B hB) A f g
/-- A multiple of another row added. -/
theorem addRow (h : Alt n F) {p q : Nat} (hp : p < n) (hq : q < n) (hpq : p ≠ q) (A : Nat → Nat → R) (a : R) : F (upd A q (fun j => A q j + a * A p j)) = F A := by
  have e := h.lin A q 1 a (A q) (A p) hq
  have e2 : (fun j => (1 : R) * A q j + a * A p j) = fun j => A q j + a * A p j := by funext j; grind
  rw [e2, upd_self, h.zero hp hq hpq (upd A q (A p)) (fun j _ => by rw [upd_other _ _ hpq, upd_same])] at e
  rw [e]; grind
/-- A row that is a sum of multiples of rows. -/
theorem sum (h : Alt n F) (A : Nat → Nat → R) {r : Nat} (hr : r < n) (a : Nat → R) (f : Nat → Nat → R) (m : Nat) : F (upd A r (fun j => sumN (fun k => a k * f k j) m)) = sumN (fun k => a k * F (upd A r (f k))) m := by
  induction m with
  | zero =>
    have e := h.smul A r 0 (fun _ => 0) hr
    have e2 : (fun j => sumN (fun k => a k * f k j) 0) = fun _ => (0 : R) * 0 := by funext j; simp only [sumN]; grind
    rw [e2, e]; simp only [sumN]; grind
  | succ m ih =>
    have e2 : (fun j => sumN (fun k => a k * f k j) (m + 1)) = fun j => sumN (fun k => a k * f k j) m + a m * f m j := by funext j; rfl
    rw [e2, h.add A r _ _ hr, ih, h.smul A r _ _ hr]; rfl
end Alt

def uni (i j : Nat) : R := if i = j then 1 else 0
def usk (c j : Nat) : Nat := if j < c then j else j - 1
theorem usk_skp (c j : Nat) : usk c (skp c j) = j := by unfold usk skp; (repeat' split) <;> omega
theorem skp_ne (c j : Nat) : skp c j ≠ c := by unfold skp; split <;> omega
theorem skp_usk {c j : Nat} (h : j ≠ c) : skp c (usk c j) = j := by unfold usk skp; (repeat' split) <;> omega
/-- Row 0 the unit row c; the others those of B, with 0 in column c. -/
def emb (c : Nat) (B : Nat → Nat → R) : Nat → Nat → R := fun i j => if i = 0 then uni c j else if j = c then 0 else B (i - 1) (usk c j)
theorem emb_upd (c : Nat) (B : Nat → Nat → R) (r : Nat) (f : Nat → R) : emb c (upd B r f) = upd (emb c B) (r + 1) (fun j => if j = c then 0 else f (usk c j)) := by
  funext i j
  unfold emb upd
  by_cases h : i = r + 1
  · subst h; simp
  · by_cases h0 : i = 0
    · subst h0; simp
    · have : i - 1 ≠ r := by omega
      simp [h, h0, this]
theorem alt_emb {n : Nat} {F : (Nat → Nat → R) → R} (h : Alt (n + 1) F) {c : Nat} (hc : c < n + 1) : Alt n (fun B => F (emb c B)) where
  congr := fun {A B} e => h.congr fun i j hi hj => by
    unfold emb
    split
    · rfl
    · split
      · rfl
      · rename_i h0 h1
        exact e _ _ (by omega) (by unfold usk; split <;> omega)
  lin := fun A r a b f g hr => by
    show F _ = a * F _ + b * F _
    rw [emb_upd, emb_upd, emb_upd, ← h.lin _ _ a b _ _ (show r + 1 < n + 1 by omega)]
    congr 2
    funext j
    split
    · grind
    · rfl
  adj := fun A r hr e => h.adj _ (r + 1) (by omega) fun j hj => by
    show emb c A (r + 1) j = emb c A (r + 1 + 1) j
    unfold emb
    rw [if_neg (show ¬ r + 1 = 0 by omega), if_neg (show ¬ r + 1 + 1 = 0 by omega)]
    split
    · rfl
    · rename_i h1
      exact e (usk c j) (by unfold usk; split <;> omega)
/-- The entries in column c below a unit row c may be taken away. -/
theorem clear_col {n : Nat} {F : (Nat → Nat → R) → R} (h : Alt (n + 1) F) {c : Nat} (A : Nat → Nat → R) (h0 : ∀ j, A 0 j = uni c j) (m : Nat) (hm : m ≤ n) :
    F (fun i j => if 1 ≤ i ∧ i ≤ m then A i j - A i c * uni c j else A i j) = F A := by
  induction m with
  | zero => congr 1; funext i j; rw [if_neg (by omega)]
  | succ m ih =>
    have ar := h.addRow (p := 0) (q := m + 1) (by omega) (by omega) (by omega) (fun i j => if 1 ≤ i ∧ i ≤ m then A i j - A i c * uni c j else A i j) (-(A (m + 1) c))
    rw [← ih (by omega), ← ar]
    congr 1
    funext i j
    unfold upd
    by_cases e : i = m + 1
    · subst e
      simp only [if_true]
      rw [if_pos (show 1 ≤ m + 1 ∧ m + 1 ≤ m + 1 by omega), if_neg (show ¬ (1 ≤ m + 1 ∧ m + 1 ≤ m) by omega), if_neg (show ¬ (1 ≤ 0 ∧ 0 ≤ m) by omega), h0]; grind
    · rw [if_neg e]
      simp only
      by_cases e2 : 1 ≤ i ∧ i ≤ m
      · rw [if_pos (by omega), if_pos e2]
      · rw [if_neg (by omega), if_neg e2]
theorem emb_uni {n : Nat} {F : (Nat → Nat → R) → R} (h : Alt (n + 1) F) (c : Nat) (hc : c < n + 1) : F (emb c uni) = sgN c * F uni := by
  induction c with
  | zero =>
    have e : emb 0 (uni (R := R)) = uni := by
      funext i j
      unfold emb uni usk
      by_cases h0 : i = 0
      · subst h0; simp
      · by_cases h1 : j = 0
        · subst h1; simp [h0]
        · rw [if_neg h0, if_neg h1, if_neg (show ¬ j < 0 by omega)]
          by_cases h2 : i = j
          · subst h2; simp
          · rw [if_neg (by omega), if_neg h2]
    rw [e, sgN_zero]; grind
  | succ c ih =>
    have s := h.swap (p := 0) (q := c + 1) (by omega) (by omega) (by omega) (emb c uni) (uni (c + 1)) (uni c)
    have e1 : upd (upd (emb c (uni (R := R))) 0 (uni (c + 1))) (c + 1) (uni c) = emb (c + 1) uni := by
      funext i j
      unfold upd emb
      by_cases h1 : i = c + 1
      · subst h1
        simp only [if_true]
        rw [if_neg (by omega)]
        unfold uni usk
        by_cases h2 : j = c + 1
        · subst h2; simp
        · rw [if_neg h2]
          by_cases h3 : j < c + 1
          · rw [if_pos h3]; simp
          · rw [if_neg h3, if_neg (by omega), if_neg (by omega)]
      · rw [if_neg h1]
        by_cases h0 : i = 0
        · rw [if_pos h0, if_pos h0]
        · rw [if_neg h0, if_neg h0, if_neg h0]
          have u1 : usk (c + 1) c = c := by unfold usk; rw [if_pos (by omega)]
          have u2 : usk c (c + 1) = c := by unfold usk; rw [if_neg (by omega)]; omega
          unfold uni
          by_cases h2 : j = c
          · subst h2
            rw [if_pos rfl, if_neg (show ¬ j = j + 1 by omega), u1, if_neg (show ¬ i - 1 = j by omega)]
          · rw [if_neg h2]
            by_cases h3 : j = c + 1
            · subst h3
              rw [if_pos rfl, u2, if_neg (show ¬ i - 1 = c by omega)]
            · rw [if_neg h3]
              have u3 : usk c j = usk (c + 1) j := by unfold usk; (repeat' split) <;> omega
              rw [u3]
    have e2 : upd (upd (emb c (uni (R := R))) 0 (uni c)) (c + 1) (uni (c + 1)) = emb c uni := by
      funext i j
      unfold upd emb
      by_cases h1 : i = c + 1
      · subst h1
        simp only [if_true]
        rw [if_neg (by omega)]
        unfold uni usk
        by_cases h2 : j = c
        · subst h2; simp
        · rw [if_neg h2]
          by_cases h3 : j < c
          · rw [if_pos h3, if_neg (by omega), if_neg (by omega)]
          · rw [if_neg h3]
            by_cases h4 : j = c + 1
            · subst h4; simp
            · rw [if_neg (by omega), if_neg (by omega)]
      · rw [if_neg h1]
        by_cases h0 : i = 0
        · rw [if_pos h0, if_pos h0]
        · rw [if_neg h0]
    rw [e1, e2, ih (by omega)] at s
    rw [s, sgN_succ]; grind

/-- The determinant is the only one. -/
theorem unique {n : Nat} : ∀ {F : (Nat → Nat → R) → R}, Alt n F → ∀ A, F A = dt n A * F uni := by
  induction n with
  | zero => intro F h A; rw [h.congr (A := A) (B := uni) (fun i j hi => by omega), dt]; grind
  | succ n ih =>
    intro F h A
    have e1 : F A = F (upd A 0 (fun j => sumN (fun c => A 0 c * uni c j) (n + 1))) := by
      refine h.congr fun i j hi hj => ?_
      unfold upd
      split
      · rename_i h0
        subst h0
        simp only
        rw [sumN_one (n + 1) j hj (fun k _ hk => by unfold uni; rw [if_neg hk]; grind)]
        unfold uni; rw [if_pos rfl]; grind
      · rfl
    rw [e1, h.sum A (by omega), dt, mulc, ← sumN_mul]
    refine sumN_congr _ fun c hc => ?_
    have e2 : F (upd A 0 (uni c)) = F (emb c (fun i j => A (i + 1) (skp c j))) := by
      rw [← clear_col h (c := c) (upd A 0 (uni c)) (fun j => by rw [upd_same]) n (Nat.le_refl _)]
      refine h.congr fun i j hi hj => ?_
      unfold emb upd
      by_cases h0 : i = 0
      · subst h0; simp
      · rw [if_pos (by omega), if_neg h0, if_neg h0]
        by_cases h1 : j = c
        · subst h1; rw [if_pos rfl]; unfold uni; rw [if_pos rfl]; grind
        · rw [if_neg h1]
          simp only
          rw [skp_usk h1, show i - 1 + 1 = i by omega]; unfold uni; rw [if_neg (fun e => h1 e.symm)]; grind
    rw [e2, ih (alt_emb h hc), emb_uni h c hc]
    grind

theorem skp_skp {c d j : Nat} (h : d ≤ c) : skp d (skp c j) = skp (c + 1) (skp d j) := by unfold skp; (repeat' split) <;> omega
theorem cancel_sum (T : Nat → Nat → R) (m : Nat) (h : ∀ c d, d ≤ c → T (c + 1) d = -T d c) : sumN (fun c => sumN (fun d => T c d) m) (m + 1) = 0 := by
  induction m with
  | zero => simp only [sumN]; grind
  | succ m ih =>
    have e : sumN (fun c => sumN (fun d => T c d) (m + 1)) (m + 1 + 1) = sumN (fun c => sumN (fun d => T c d) m) (m + 1) + sumN (fun c => T c m) (m + 1) + sumN (fun d => T (m + 1) d) (m + 1) := by
      rw [sumN]
      congr 1
      show sumN (fun c => sumN (fun d => T c d) m + T c m) (m + 1) = _
      rw [sumN_add]
    rw [e, ih, sumN_congr (f := fun d => T (m + 1) d) (g := fun d => (-1) * T d m) _ (fun d hd => by rw [h m d (by omega)]; grind), sumN_mul]
    grind
omit [CommRing R] in
theorem minor_upd (A : Nat → Nat → R) (r c : Nat) (f : Nat → R) : (fun i j => upd A (r + 1) f (i + 1) (skp c j)) = upd (fun i j => A (i + 1) (skp c j)) r (fun j => f (skp c j)) := by
  funext i j
  unfold upd
  by_cases h : i = r
  · subst h; simp
  · simp [h]
theorem alt_dt (n : Nat) : Alt n (dt (R := R) n) := by
  induction n with
  | zero => exact ⟨fun _ => rfl, fun A r a b f g h => by omega, fun A r h => by omega⟩
  | succ n ih =>
    refine ⟨fun e => dt_congr e, ?_, ?_⟩
    · intro A r a b f g hr
      rw [dt, dt, dt, ← sumN_lin]
      refine sumN_congr _ fun c hc => ?_
      cases r with
      | zero =>
        have e : ∀ g : Nat → R, (fun i j => upd A 0 g (i + 1) (skp c j)) = fun i j => A (i + 1) (skp c j) := fun g => by funext i j; simp [upd]
        rw [e, e, e, upd_same, upd_same, upd_same]; grind
      | succ r =>
        rw [minor_upd, minor_upd, minor_upd, ih.lin _ r a b _ _ (by omega), upd_other _ _ (by omega), upd_other _ _ (by omega), upd_other _ _ (by omega)]
        grind
    · intro A r hr he
      cases r with
      | succ r =>
        rw [dt]
        refine sumN_zero _ fun c hc => ?_
        rw [ih.adj _ r (by omega) (fun j hj => he _ (by unfold skp; split <;> omega))]
        grind
      | zero =>
        obtain ⟨m, rfl⟩ : ∃ m, n = m + 1 := ⟨n - 1, by omega⟩
        rw [dt]
        have e : ∀ c, c < m + 1 + 1 → sgN c * A 0 c * dt (m + 1) (fun i j => A (i + 1) (skp c j)) = sumN (fun d => sgN c * sgN d * A 0 c * A 0 (skp c d) * dt m (fun i j => A (i + 1 + 1) (skp c (skp d j)))) (m + 1) := by
          intro c hc
          rw [dt, ← sumN_mul]
          refine sumN_congr _ fun d hd => ?_
          rw [he (skp c d) (by unfold skp; split <;> omega)]
          grind
        rw [sumN_congr _ e]
        refine cancel_sum _ (m + 1) fun c d hd => ?_
        have e1 : skp (c + 1) d = d := by unfold skp; rw [if_pos (by omega)]
        have e2 : skp d c = c + 1 := by unfold skp; rw [if_neg (by omega)]
        have e3 : (fun i j => A (i + 1 + 1) (skp (c + 1) (skp d j))) = fun i j => A (i + 1 + 1) (skp d (skp c j)) := by funext i j; rw [skp_skp hd]
        rw [e1, e2, e3, sgN_succ]
        grind

theorem dt_uni (n : Nat) : dt n (uni (R := R)) = 1 := by
  induction n with
  | zero => rfl
  | succ n ih =>
    rw [dt, sumN_one (n + 1) 0 (by omega) (fun k _ hk => by unfold uni; rw [if_neg (fun e => hk e.symm)]; grind)]
    have e : (fun i j => uni (R := R) (i + 1) (skp 0 j)) = uni := by funext i j; unfold uni skp; simp
    rw [e, ih, sgN_zero]; unfold uni; rw [if_pos rfl]; grind

def mul (n : Nat) (A B : Nat → Nat → R) : Nat → Nat → R := fun i j => sumN (fun k => A i k * B k j) n
/-- Transposed. -/
theorem alt_turn (n : Nat) : Alt n (fun A : Nat → Nat → R => dt n (fun i j => A j i)) := by
  induction n with
  | zero => exact ⟨fun _ => rfl, fun A r a b f g h => by omega, fun A r h => by omega⟩
  | succ n ih =>
    have hmin : ∀ (A : Nat → Nat → R) (r c : Nat) (f : Nat → R), c ≠ r → (fun i j => upd A r f (skp c j) (i + 1)) = fun i j => upd (fun i j => A (skp c i) (j + 1)) (usk c r) (fun j => f (j + 1)) j i := by
      intro A r c f hcr
      funext i j
      unfold upd
      by_cases h : j = usk c r
      · subst h
        rw [skp_usk (fun e => hcr e.symm)]; simp
      · rw [if_neg h, if_neg (fun e => h (by rw [← e, usk_skp]))]
    refine ⟨fun e => dt_congr fun i j hi hj => e j i hj hi, ?_, ?_⟩
    · intro A r a b f g hr
      show dt (n + 1) _ = a * dt (n + 1) _ + b * dt (n + 1) _
      rw [dt, dt, dt, ← sumN_lin]
      refine sumN_congr _ fun c hc => ?_
      by_cases e : c = r
      · subst e
        have e1 : ∀ f : Nat → R, (fun i j => upd A c f (skp c j) (i + 1)) = fun i j => A (skp c j) (i + 1) := fun f => by funext i j; rw [upd_other _ _ (skp_ne c j)]
        simp only [upd_same, e1]; grind
      · rw [hmin A r c _ e, hmin A r c _ e, hmin A r c _ e]
        have := ih.lin (fun i j => A (skp c i) (j + 1)) (usk c r) a b (fun j => f (j + 1)) (fun j => g (j + 1)) (by unfold usk; split <;> omega)
        rw [this, upd_other _ _ e, upd_other _ _ e, upd_other _ _ e]
        grind
    · intro A r hr he
      show dt (n + 1) _ = 0
      rw [dt, sumN_two (n + 1) r hr]
      · have e1 : dt n (fun i j => A (skp r j) (i + 1)) = dt n (fun i j => A (skp (r + 1) j) (i + 1)) := by
          refine dt_congr fun i j hi hj => ?_
          by_cases h1 : j = r
          · subst h1
            have a1 : skp j j = j + 1 := by unfold skp; rw [if_neg (by omega)]
            have a2 : skp (j + 1) j = j := by unfold skp; rw [if_pos (by omega)]
            rw [a1, a2]; exact (he _ (by omega)).symm
          · have : skp r j = skp (r + 1) j := by unfold skp; (repeat' split) <;> omega
            rw [this]
        rw [e1, he 0 (by omega), sgN_succ]; grind
      · intro k hk h1 h2
        have := ih.adj (fun i j => A (skp k i) (j + 1)) (usk k r) (by unfold usk; split <;> omega) (fun j hj => by
          have a1 : skp k (usk k r) = r := skp_usk (fun e => h1 e.symm)
          have a2 : skp k (usk k r + 1) = r + 1 := by unfold skp usk; (repeat' split) <;> omega
          rw [a1, a2]; exact he _ (by omega))
        rw [this]; grind
theorem dt_turn (n : Nat) (A : Nat → Nat → R) : dt n (fun i j => A j i) = dt n A := by
  have e := unique (alt_turn n) A
  rw [e]
  have e2 : (fun i j => uni (R := R) j i) = uni := by funext i j; unfold uni; split <;> split <;> first | rfl | omega
  rw [e2, dt_uni]; grind

/-- The last column 0 but for the corner. -/
def brd (n : Nat) (x : Nat → R) (B : Nat → Nat → R) : Nat → Nat → R := fun i j => if i < n then (if j < n then B i j else 0) else x j
theorem brd_upd {n : Nat} (x : Nat → R) (B : Nat → Nat → R) {r : Nat} (hr : r < n) (f : Nat → R) : brd n x (upd B r f) = upd (brd n x B) r (fun j => if j < n then f j else 0) := by
  funext i j
  unfold brd upd
  by_cases h : i = r
  · subst h; simp [hr]
  · simp [h]
theorem alt_brd (n : Nat) (x : Nat → R) : Alt n (fun B => dt (n + 1) (brd n x B)) where
  congr := fun {A B} e => dt_congr fun i j hi hj => by
    unfold brd
    split
    · split
      · exact e i j (by assumption) (by assumption)
      · rfl
    · rfl
  lin := fun A r a b f g hr => by
    show dt (n + 1) _ = a * dt (n + 1) _ + b * dt (n + 1) _
    rw [brd_upd _ _ hr, brd_upd _ _ hr, brd_upd _ _ hr, ← (alt_dt (n + 1)).lin _ r a b _ _ (by omega)]
    congr 2
    funext j
    split
    · rfl
    · grind
  adj := fun A r hr e => (alt_dt (n + 1)).adj _ r (by omega) fun j hj => by
    show brd n x A r j = brd n x A (r + 1) j
    unfold brd
    rw [if_pos (show r < n by omega), if_pos hr]
    split
    · exact e j (by assumption)
    · rfl
theorem brd_uni (n : Nat) : ∀ x : Nat → R, dt (n + 1) (brd n x uni) = x n := by
  induction n with
  | zero => intro x; rw [dt, sumN, sumN, dt, sgN_zero]; unfold brd; simp; grind
  | succ n ih =>
    intro x
    rw [dt, sumN_one (n + 1 + 1) 0 (by omega) (fun k hk h0 => by
      unfold brd uni
      rw [if_pos (by omega)]
      split
      · rw [if_neg (fun e => h0 e.symm)]; grind
      · grind)]
    have e : (fun i j => brd (n + 1) x uni (i + 1) (skp 0 j)) = brd n (fun j => x (j + 1)) (uni (R := R)) := by
      funext i j
      unfold brd uni skp
      simp
    rw [e, ih, sgN_zero]; unfold brd uni; simp; grind
theorem dt_corner (n : Nat) (A : Nat → Nat → R) (h : ∀ i, i < n → A i n = 0) : dt (n + 1) A = A n n * dt n A := by
  have e := unique (alt_brd n (A n)) A
  rw [brd_uni] at e
  rw [dt_congr (A := A) (B := brd n (A n) A) (fun i j hi hj => by
    unfold brd
    split
    · split
      · rfl
      · rw [show j = n by omega]; exact h i (by assumption)
    · rw [show i = n by omega]), e]
  grind

end Go.Det

