/- The components of a closed braid: plain law. -/
import Derived.Test.YtckopilciekfbaaQColorCounts20
import Derived.Test.YtckopilciekfbaaQColorCounts21
import Derived.Test.YtckopilciekfbaaQColorCounts22
import Derived.Test.YtckopilciekfbaaQColorCounts23
import Derived.Test.YtckopilciekfbaaQColorCounts25
import Derived.Test.YtckopilciekfbaaQColorCounts29
import Derived.Test.YtckopilciekfbaaQColorCounts210
import Derived.Test.YtckopilciekfbaaQColorCounts211
import Derived.Test.YtckopilciekfbaaQColorCounts213
import Derived.Test.YtckopilciekfbaaQColorCounts217
import Derived.Test.YtckopilciekfbaaQColorCounts218
import Derived.Test.YtckopilciekfbaaQColorCounts220
import Derived.Test.YtckopilciekfbaaQColorCounts221
import Derived.Test.YtckopilciekfbaaQColorCounts222

namespace Go.Proofs.Ytckopilciekfbaa
open Go.RowKit Go.Sl

def altS : List (Nat × List Nat) → Int → (Nat → List Nat → Int) → Int
  | [], _, _ => 0
  | (d, ds) :: l, s, g => s * g d ds + altS l (-s) g
def sel : List Nat → List (Nat × List Nat)
  | [] => []
  | c :: cs => (c, cs) :: (sel cs).map fun p => (p.1, c :: p.2)
/-- The determinant of the rows and columns with these numbers. -/
def minL (a : Nat → Nat → Int) : List Nat → List Nat → Int
  | [], _ => 1
  | r :: rs, cs => altS (sel cs) 1 fun d ds => a r d * minL a rs ds

theorem altS_congr {l : List (Nat × List Nat)} {g h : Nat → List Nat → Int} (e : ∀ p ∈ l, g p.1 p.2 = h p.1 p.2) : ∀ s, altS l s g = altS l s h := by
  induction l with
  | nil => intro s; rfl
  | cons p l ih =>
    intro s
    obtain ⟨d, ds⟩ := p
    rw [altS, altS, e (d, ds) (by simp), ih (fun p hp => e p (by simp [hp]))]
def bits6 (m : Nat) : List Nat := (List.range 6).filter (hasBit m)
theorem bits_rows : ∀ r : Fin 64, r.val ≠ 0 → bits6 r.val = low 6 r.val :: bits6 (r.val - 2 ^ low 6 r.val) := by decide +kernel
theorem sel_bits : ∀ c : Fin 64, sel (bits6 c.val) = (bits6 c.val).map fun j => (j, bits6 (c.val - 2 ^ j)) := by decide +kernel
theorem bits_len : ∀ r : Fin 64, (bits6 r.val).length = popc 6 r.val := by decide +kernel
theorem bits_lt : ∀ C : Fin 7, ∀ c : Fin 64, c.val < 2 ^ C.val → (List.range C.val).filter (hasBit c.val) = bits6 c.val := by decide +kernel
theorem altS_append (l : List (Nat × List Nat)) (p : Nat × List Nat) (g : Nat → List Nat → Int) : ∀ s, altS (l ++ [p]) s g = altS l s g + (if l.length % 2 = 0 then s else -s) * g p.1 p.2 := by
  induction l with
  | nil => intro s; simp [altS]
  | cons q l ih =>
    intro s
    obtain ⟨d, ds⟩ := q
    rw [List.cons_append, altS, altS, ih (-s), List.length_cons]
    by_cases h : l.length % 2 = 0
    · rw [if_pos h, if_neg (by omega)]; grind
    · rw [if_neg h, if_pos (by omega)]; grind
theorem sgn_eq (cols c : Nat) : sgn cols c = if ((List.range c).filter (hasBit cols)).length % 2 = 0 then 1 else -1 := by
  induction c with
  | zero => rfl
  | succ c ih =>
    rw [sgn, ih, List.range_succ, List.filter_append]
    by_cases hb : hasBit cols c = true
    · simp only [hb, if_true, List.filter_cons, List.filter_nil, List.length_append, List.length_cons, List.length_nil]
      split <;> split <;> first | rfl | omega
    · simp [hb, List.filter_cons]
theorem outTo_eq (e sub : Nat → Int) (g : Nat → List Nat) (cols c : Nat) : outTo e sub cols c = altS (((List.range c).filter (hasBit cols)).map fun j => (j, g j)) 1 fun d _ => e d * sub d := by
  induction c with
  | zero => rfl
  | succ c ih =>
    rw [outTo, ih, List.range_succ, List.filter_append, List.map_append]
    by_cases hb : hasBit cols c = true
    · have h1 : List.filter (hasBit cols) [c] = [c] := by simp [hb]
      rw [h1, List.map_cons, List.map_nil, altS_append, if_pos hb, sgn_eq, List.length_map]
      split <;> grind
    · have h1 : List.filter (hasBit cols) [c] = [] := by simp [hb]
      rw [h1, if_neg hb]; simp
theorem minM_eq (m : List (List Int)) {C : Nat} (hC : C ≤ 6) (f : Nat) : ∀ rows cols, rows < 64 → cols < 2 ^ C → popc 6 rows = f → minM m C f rows cols = minL (ent2 m) (bits6 rows) (bits6 cols) := by
  have h64 := pow_le64 ⟨C, by omega⟩
  simp only at h64
  induction f with
  | zero =>
    intro rows cols hr hc hp
    have h0 : rows = 0 := popc_zero ⟨rows, hr⟩ hp
    subst h0
    rfl
  | succ f ih =>
    intro rows cols hr hc hp
    have hne : rows ≠ 0 := by intro h; rw [h] at hp; revert hp; simp [popc]
    have h1 := bits_rows ⟨rows, hr⟩ hne
    have h2 := sel_bits ⟨cols, by omega⟩
    have h3 := bits_lt ⟨C, by omega⟩ ⟨cols, by omega⟩ hc
    have h4 := (low_facts ⟨rows, hr⟩ hne).2.2
    simp only at h1 h2 h3 h4
    rw [minM, h1, minL, h2, outTo_eq (ent2 m (low 6 rows)) _ (fun j => bits6 (cols - 2 ^ j)) cols C, h3]
    refine altS_congr (fun p hp' => ?_) 1
    obtain ⟨j, hj, rfl⟩ := List.mem_map.1 hp'
    rw [ih _ _ (Nat.lt_of_le_of_lt (Nat.sub_le _ _) hr) (Nat.lt_of_le_of_lt (Nat.sub_le _ _) hc) (by omega)]

theorem colsG_dvd {m : List (List Int)} {C k r acc x : Nat} (c : Nat) : x ∣ colsG m C k r acc c ↔ x ∣ acc ∧ ∀ c', c' < c → popc 6 r = k → popc 6 c' = k → x ∣ (minM m C k r c').natAbs := by
  induction c with
  | zero => simp [colsG]
  | succ c ih =>
    rw [colsG]
    constructor
    · intro h
      have h0 : x ∣ colsG m C k r acc c := by
        split at h
        · exact (Nat.dvd_gcd_iff.1 h).1
        · exact h
      refine ⟨(ih.1 h0).1, fun c' hc' h1 h2 => ?_⟩
      rcases Nat.lt_or_ge c' c with hl | hl
      · exact (ih.1 h0).2 c' hl h1 h2
      · obtain rfl : c' = c := by omega
        rw [if_pos ⟨h1, h2⟩] at h
        exact (Nat.dvd_gcd_iff.1 h).2
    · rintro ⟨h1, h2⟩
      have h0 := ih.2 ⟨h1, fun c' hc' => h2 c' (by omega)⟩
      split
      · rename_i hh
        exact Nat.dvd_gcd h0 (h2 c (by omega) hh.1 hh.2)
      · exact h0
theorem rowsG_dvd {m : List (List Int)} {C k x : Nat} (r : Nat) : x ∣ rowsG m C k r ↔ ∀ r', r' < r → ∀ c', c' < 2 ^ C → popc 6 r' = k → popc 6 c' = k → x ∣ (minM m C k r' c').natAbs := by
  induction r with
  | zero => simp [rowsG]
  | succ r ih =>
    rw [rowsG, colsG_dvd, ih]
    constructor
    · rintro ⟨h1, h2⟩ r' hr' c' hc' e1 e2
      rcases Nat.lt_or_ge r' r with hl | hl
      · exact h1 r' hl c' hc' e1 e2
      · obtain rfl : r' = r := by omega
        exact h2 c' hc' e1 e2
    · intro h
      exact ⟨fun r' hr' => h r' (by omega), fun c' hc' e1 e2 => h r (by omega) c' hc' e1 e2⟩
def swap (x y i : Nat) : Nat := if i = x then y else if i = y then x else i
end Go.Proofs.Ytckopilciekfbaa

namespace Go.Det
open Lean.Grind (CommRing)
variable {R : Type} [CommRing R]

theorem mulc (a b : R) : a * b = b * a := by grind
def sumN (f : Nat → R) : Nat → R
  | 0 => 0
  | n + 1 => sumN f n + f n
def sgN (c : Nat) : R := if c % 2 = 0 then 1 else -1
def skp (c j : Nat) : Nat := if j < c then j else j + 1
def dt : Nat → (Nat → Nat → R) → R
  | 0, _ => 1
  | n + 1, A => sumN (fun c => sgN c * A 0 c * dt n (fun i j => A (i + 1) (skp c j))) (n + 1)

theorem sgN_zero : sgN (R := R) 0 = 1 := rfl
theorem sgN_succ (c : Nat) : sgN (R := R) (c + 1) = -sgN c := by
  unfold sgN
  by_cases h : c % 2 = 0
  · rw [if_pos h, if_neg (by omega)]
  · rw [if_neg h, if_pos (by omega)]; grind
theorem sumN_congr {f g : Nat → R} (n : Nat) (h : ∀ k, k < n → f k = g k) : sumN f n = sumN g n := by
  induction n with
  | zero => rfl
  | succ n ih => rw [sumN, sumN, ih fun k hk => h k (by omega), h n (by omega)]
theorem sumN_lin (a b : R) (f g : Nat → R) (n : Nat) : sumN (fun k => a * f k + b * g k) n = a * sumN f n + b * sumN g n := by
  induction n with
  | zero => simp only [sumN]; grind
  | succ n ih => simp only [sumN]; rw [ih]; grind
theorem sumN_add (f g : Nat → R) (n : Nat) : sumN (fun k => f k + g k) n = sumN f n + sumN g n := by
  induction n with
  | zero => simp only [sumN]; grind
  | succ n ih => simp only [sumN]; rw [ih]; grind
theorem sumN_mul (a : R) (f : Nat → R) (n : Nat) : sumN (fun k => a * f k) n = a * sumN f n := by
  induction n with
  | zero => simp only [sumN]; grind
  | succ n ih => simp only [sumN]; rw [ih]; grind
theorem sumN_zero {f : Nat → R} (n : Nat) (h : ∀ k, k < n → f k = 0) : sumN f n = 0 := by
  induction n with
  | zero => rfl
  | succ n ih => rw [sumN, ih fun k hk => h k (by omega), h n (by omega)]; grind
theorem sumN_one {f : Nat → R} (n p : Nat) (hp : p < n) (h : ∀ k, k < n → k ≠ p → f k = 0) : sumN f n = f p := by
  induction n with
  | zero => omega
  | succ n ih =>
    rw [sumN]
    by_cases e : p = n
    · subst e
      rw [sumN_zero p fun k hk => h k (by omega) (by omega)]; grind
    · rw [ih (by omega) fun k hk => h k (by omega), h n (by omega) (by omega)]; grind
theorem sumN_two {f : Nat → R} (n p : Nat) (hp : p + 1 < n) (h : ∀ k, k < n → k ≠ p → k ≠ p + 1 → f k = 0) : sumN f n = f p + f (p + 1) := by
  induction n with
  | zero => omega
  | succ n ih =>
    rw [sumN]
    by_cases e : p + 1 = n
    · subst e
      rw [sumN_one (p + 1) p (by omega) fun k hk hkp => h k (by omega) hkp (by omega)]
    · rw [ih (by omega) fun k hk => h k (by omega), h n (by omega) (by omega) (by omega)]; grind
theorem dt_congr {n : Nat} : ∀ {A B : Nat → Nat → R}, (∀ i j, i < n → j < n → A i j = B i j) → dt n A = dt n B := by
  induction n with
  | zero => intro A B _; rfl
  | succ n ih =>
    intro A B h
    rw [dt, dt]
    refine sumN_congr _ fun c hc => ?_
    rw [h 0 c (by omega) hc]
    congr 1
    refine ih fun i j hi hj => h _ _ (by omega) ?_
    unfold skp; split <;> omega

def upd (A : Nat → Nat → R) (r : Nat) (f : Nat → R) : Nat → Nat → R := fun i => if i = r then f else A i
omit [CommRing R] in
theorem upd_same (A : Nat → Nat → R) (r : Nat) (f : Nat → R) : upd A r f r = f := by simp [upd]
omit [CommRing R] in
theorem upd_other (A : Nat → Nat → R) {r i : Nat} (f : Nat → R) (h : i ≠ r) : upd A r f i = A i := by simp [upd, h]
omit [CommRing R] in
theorem upd_self (A : Nat → Nat → R) (r : Nat) : upd A r (A r) = A := by funext i; unfold upd; split <;> simp_all
omit [CommRing R] in
theorem upd_comm (A : Nat → Nat → R) {r s : Nat} (f g : Nat → R) (h : r ≠ s) : upd (upd A r f) s g = upd (upd A s g) r f := by
  funext i; unfold upd; by_cases h1 : i = s <;> by_cases h2 : i = r <;> simp_all

/-- Linear in each row, zero if two neighbouring rows are equal, and dependent on n rows and columns only. -/
structure Alt (n : Nat) (F : (Nat → Nat → R) → R) : Prop where
  congr : ∀ {A B : Nat → Nat → R}, (∀ i j, i < n → j < n → A i j = B i j) → F A = F B
  lin : ∀ (A : Nat → Nat → R) (r : Nat) (a b : R) (f g : Nat → R), r < n → F (upd A r (fun j => a * f j + b * g j)) = a * F (upd A r f) + b * F (upd A r g)
  adj : ∀ (A : Nat → Nat → R) (r : Nat), r + 1 < n → (∀ j, j < n → A r j = A (r + 1) j) → F A = 0

namespace Alt
variable {n : Nat} {F : (Nat → Nat → R) → R}
theorem add (h : Alt n F) (A : Nat → Nat → R) (r : Nat) (f g : Nat → R) (hr : r < n) : F (upd A r (fun j => f j + g j)) = F (upd A r f) + F (upd A r g) := by
  have e := h.lin A r 1 1 f g hr
  have e2 : (fun j => (1 : R) * f j + 1 * g j) = fun j => f j + g j := by funext j; grind
  rw [e2] at e; rw [e]; grind
theorem smul (h : Alt n F) (A : Nat → Nat → R) (r : Nat) (a : R) (f : Nat → R) (hr : r < n) : F (upd A r (fun j => a * f j)) = a * F (upd A r f) := by
  have e := h.lin A r a 0 f f hr
  have e2 : (fun j => a * f j + 0 * f j) = fun j => a * f j := by funext j; grind
  rw [e2] at e; rw [e]; grind
/-- From 'zero if rows p and q are equal' to 'a swap of both changes the sign'. -/
theorem swapOf (h : Alt n F) {p q : Nat} (hp : p < n) (hq : q < n) (hpq : p ≠ q) (hz : ∀ A : Nat → Nat → R, (∀ j, j < n → A p j = A q j) → F A = 0) (A : Nat → Nat → R) (f g : Nat → R) :
    F (upd (upd A p f) q g) = -F (upd (upd A p g) q f) := by
  have z := hz (upd (upd A p (fun j => f j + g j)) q (fun j => f j + g j)) (fun j _ => by rw [upd_other _ _ hpq, upd_same, upd_same])
  rw [h.add _ q f g hq, upd_comm _ _ _ hpq, upd_comm A _ _ hpq, h.add _ p f g hp, h.add _ p f g hp] at z
  have z1 := hz (upd (upd A q f) p f) (fun j _ => by rw [upd_same, upd_other _ _ hpq.symm, upd_same])
  have z2 := hz (upd (upd A q g) p g) (fun j _ => by rw [upd_same, upd_other _ _ hpq.symm, upd_same])
  rw [z1, z2] at z
  rw [upd_comm A f g hpq, upd_comm A g f hpq]
  grind
theorem zero_of (h : Alt n F) (d : Nat) : ∀ (p : Nat) (A : Nat → Nat → R), p + d + 1 < n → (∀ j, j < n → A p j = A (p + d + 1) j) → F A = 0 := by
  induction d with
  | zero => intro p A hp he; exact h.adj A p hp he
  | succ d ih =>
    intro p A hp he
    have s := h.swapOf (p := p + d + 1) (q := p + d + 1 + 1) (by omega) (by omega) (by omega) (fun B hB => h.adj B _ (by omega) hB) A (A (p + d + 1)) (A (p + d + 1 + 1))
    rw [upd_self, upd_self] at s
    rw [s, ih p _ (by omega) (fun j hj => by
      rw [upd_other _ _ (show p ≠ p + d + 1 + 1 by omega), upd_other _ _ (show p ≠ p + d + 1 by omega), upd_other _ _ (show p + d + 1 ≠ p + d + 1 + 1 by omega), upd_same]
      exact he j hj)]
    grind
theorem zero (h : Alt n F) {p q : Nat} (hp : p < n) (hq : q < n) (hpq : p ≠ q) (A : Nat → Nat → R) (he : ∀ j, j < n → A p j = A q j) : F A = 0 := by
  rcases Nat.lt_or_gt_of_ne hpq with hl | hl
  · have := h.zero_of (q - p - 1) p A (by omega)
    rw [show p + (q - p - 1) + 1 = q by omega] at this
    exact this he
  · have := h.zero_of (p - q - 1) q A (by omega)
    rw [show q + (p - q - 1) + 1 = p by omega] at this
    exact this fun j hj => (he j hj).symm
theorem swap (h : Alt n F) {p q : Nat} (hp : p < n) (hq : q < n) (hpq : p ≠ q) (A : Nat → Nat → R) (f g : Nat → R) :
    F (upd (upd A p f) q g) = -F (upd (upd A p g) q f) := h.swapOf hp hq hpq (fun B hB => h.zero hp hq hpq B hB) A f g
/-- A multiple of another row added. -/
theorem addRow (h : Alt n F) {p q : Nat} (hp : p < n) (hq : q < n) (hpq : p ≠ q) (A : Nat → Nat → R) (a : R) : F (upd A q (fun j => A q j + a * A p j)) = F A := by
  have e := h.lin A q 1 a (A q) (A p) hq
  have e2 : (fun j => (1 : R) * A q j + a * A p j) = fun j => A q j + a * A p j := by funext j; grind
  rw [e2, upd_self, h.zero hp hq hpq (upd A q (A p)) (fun j _ => by rw [upd_other _ _ hpq, upd_same])] at e
  rw [e]; grind
/-- A row that is a sum of multiples of rows. -/
theorem sum (h : Alt n F) (A : Nat → Nat → R) {r : Nat} (hr : r < n) (a : Nat → R) (f : Nat → Nat → R) (m : Nat) : F (upd A r (fun j => sumN (fun k => a k * f k j) m)) = sumN (fun k => a k * F (upd A r (f k))) m := by
  induction m with
  | zero =>
    have e := h.smul A r 0 (fun _ => 0) hr
    have e2 : (fun j => sumN (fun k => a k * f k j) 0) = fun _ => (0 : R) * 0 := by funext j; simp only [sumN]; grind
    rw [e2, e]; simp only [sumN]; grind
  | succ m ih =>
    have e2 : (fun j => sumN (fun k => a k * f k j) (m + 1)) = fun j => sumN (fun k => a k * f k j) m + a m * f m j := by funext j; rfl
    rw [e2, h.add A r _ _ hr, ih, h.smul A r _ _ hr]; rfl
end Alt

def uni (i j : Nat) : R := if i = j then 1 else 0
def usk (c j : Nat) : Nat := if j < c then j else j - 1
theorem usk_skp (c j : Nat) : usk c (skp c j) = j := by unfold usk skp; (repeat' split) <;> omega
theorem skp_ne (c j : Nat) : skp c j ≠ c := by unfold skp; split <;> omega
theorem skp_usk {c j : Nat} (h : j ≠ c) : skp c (usk c j) = j := by unfold usk skp; (repeat' split) <;> omega
/-- Row 0 the unit row c; the others those of B, with 0 in column c. -/
def emb (c : Nat) (B : Nat → Nat → R) : Nat → Nat → R := fun i j => if i = 0 then uni c j else if j = c then 0 else B (i - 1) (usk c j)
theorem emb_upd (c : Nat) (B : Nat → Nat → R) (r : Nat) (f : Nat → R) : emb c (upd B r f) = upd (emb c B) (r + 1) (fun j => if j = c then 0 else f (usk c j)) := by
  funext i j
  unfold emb upd
  by_cases h : i = r + 1
  · subst h; simp
  · by_cases h0 : i = 0
    · subst h0; simp
    · have : i - 1 ≠ r := by omega
      simp [h, h0, this]
theorem alt_emb {n : Nat} {F : (Nat → Nat → R) → R} (h : Alt (n + 1) F) {c : Nat} (hc : c < n + 1) : Alt n (fun B => F (emb c B)) where
  congr := fun {A B} e => h.congr fun i j hi hj => by
    unfold emb
    split
    · rfl
    · split
      · rfl
      · rename_i h0 h1
        exact e _ _ (by omega) (by unfold usk; split <;> omega)
  lin := fun A r a b f g hr => by
    show F _ = a * F _ + b * F _
    rw [emb_upd, emb_upd, emb_upd, ← h.lin _ _ a b _ _ (show r + 1 < n + 1 by omega)]
    congr 2
    funext j
    split
    · grind
    · rfl
  adj := fun A r hr e => h.adj _ (r + 1) (by omega) fun j hj => by
    show emb c A (r + 1) j = emb c A (r + 1 + 1) j
    unfold emb
    rw [if_neg (show ¬ r + 1 = 0 by omega), if_neg (show ¬ r + 1 + 1 = 0 by omega)]
    split
    · rfl
    · rename_i h1
      exact e (usk c j) (by unfold usk; split <;> omega)
/-- The entries in column c below a unit row c may be taken away. -/
theorem clear_col {n : Nat} {F : (Nat → Nat → R) → R} (h : Alt (n + 1) F) {c : Nat} (A : Nat → Nat → R) (h0 : ∀ j, A 0 j = uni c j) (m : Nat) (hm : m ≤ n) :
    F (fun i j => if 1 ≤ i ∧ i ≤ m then A i j - A i c * uni c j else A i j) = F A := by
  induction m with
  | zero => congr 1; funext i j; rw [if_neg (by omega)]
  | succ m ih =>
    have ar := h.addRow (p := 0) (q := m + 1) (by omega) (by omega) (by omega) (fun i j => if 1 ≤ i ∧ i ≤ m then A i j - A i c * uni c j else A i j) (-(A (m + 1) c))
    rw [← ih (by omega), ← ar]
    congr 1
    funext i j
    unfold upd
    by_cases e : i = m + 1
    · subst e
      simp only [if_true]
      rw [if_pos (show 1 ≤ m + 1 ∧ m + 1 ≤ m + 1 by omega), if_neg (show ¬ (1 ≤ m + 1 ∧ m + 1 ≤ m) by omega), if_neg (show ¬ (1 ≤ 0 ∧ 0 ≤ m) by omega), h0]; grind
    · rw [if_neg e]
      simp only
      by_cases e2 : 1 ≤ i ∧ i ≤ m
      · rw [if_pos (by omega), if_pos e2]
      · rw [if_neg (by omega), if_neg e2]
theorem emb_uni {n : Nat} {F : (Nat → Nat → R) → R} (h : Alt (n + 1) F) (c : Nat) (hc : c < n + 1) : F (emb c uni) = sgN c * F uni := by
  induction c with
  | zero =>
    have e : emb 0 (uni (R := R)) = uni := by
      funext i j
      unfold emb uni usk
      by_cases h0 : i = 0
      · subst h0; simp
      · by_cases h1 : j = 0
        · subst h1; simp [h0]
        · rw [if_neg h0, if_neg h1, if_neg (show ¬ j < 0 by omega)]
          by_cases h2 : i = j
          · subst h2; simp
          · rw [if_neg (by omega), if_neg h2]
    rw [e, sgN_zero]; grind
  | succ c ih =>
    have s := h.swap (p := 0) (q := c + 1) (by omega) (by omega) (by omega) (emb c uni) (uni (c + 1)) (uni c)
    have e1 : upd (upd (emb c (uni (R := R))) 0 (uni (c + 1))) (c + 1) (uni c) = emb (c + 1) uni := by
      funext i j
      unfold upd emb
      by_cases h1 : i = c + 1
      · subst h1
        simp only [if_true]
        rw [if_neg (by omega)]
        unfold uni usk
        by_cases h2 : j = c + 1
        · subst h2; simp
        · rw [if_neg h2]
          by_cases h3 : j < c + 1
          · rw [if_pos h3]; simp
          · rw [if_neg h3, if_neg (by omega), if_neg (by omega)]
      · rw [if_neg h1]
        by_cases h0 : i = 0
        · rw [if_pos h0, if_pos h0]
        · rw [if_neg h0, if_neg h0, if_neg h0]
          have u1 : usk (c + 1) c = c := by unfold usk; rw [if_pos (by omega)]
          have u2 : usk c (c + 1) = c := by unfold usk; rw [if_neg (by omega)]; omega
          unfold uni
          by_cases h2 : j = c
          · subst h2
            rw [if_pos rfl, if_neg (show ¬ j = j + 1 by omega), u1, if_neg (show ¬ i - 1 = j by omega)]
          · rw [if_neg h2]
            by_cases h3 : j = c + 1
            · subst h3
              rw [if_pos rfl, u2, if_neg (show ¬ i - 1 = c by omega)]
            · rw [if_neg h3]
              have u3 : usk c j = usk (c + 1) j := by unfold usk; (repeat' split) <;> omega
              rw [u3]
    have e2 : upd (upd (emb c (uni (R := R))) 0 (uni c)) (c + 1) (uni (c + 1)) = emb c uni := by
      funext i j
      unfold upd emb
      by_cases h1 : i = c + 1
      · subst h1
        simp only [if_true]
        rw [if_neg (by omega)]
        unfold uni usk
        by_cases h2 : j = c
        · subst h2; simp
        · rw [if_neg h2]
          by_cases h3 : j < c
          · rw [if_pos h3, if_neg (by omega), if_neg (by omega)]
          · rw [if_neg h3]
            by_cases h4 : j = c + 1
            · subst h4; simp
            · rw [if_neg (by omega), if_neg (by omega)]
      · rw [if_neg h1]
        by_cases h0 : i = 0
        · rw [if_pos h0, if_pos h0]
        · rw [if_neg h0]
    rw [e1, e2, ih (by omega)] at s
    rw [s, sgN_succ]; grind

/-- The determinant is the only one. -/
theorem unique {n : Nat} : ∀ {F : (Nat → Nat → R) → R}, Alt n F → ∀ A, F A = dt n A * F uni := by
  induction n with
  | zero => intro F h A; rw [h.congr (A := A) (B := uni) (fun i j hi => by omega), dt]; grind
  | succ n ih =>
    intro F h A
    have e1 : F A = F (upd A 0 (fun j => sumN (fun c => A 0 c * uni c j) (n + 1))) := by
      refine h.congr fun i j hi hj => ?_
      unfold upd
      split
      · rename_i h0
        subst h0
        simp only
        rw [sumN_one (n + 1) j hj (fun k _ hk => by unfold uni; rw [if_neg hk]; grind)]
        unfold uni; rw [if_pos rfl]; grind
      · rfl
    rw [e1, h.sum A (by omega), dt, mulc, ← sumN_mul]
    refine sumN_congr _ fun c hc => ?_
    have e2 : F (upd A 0 (uni c)) = F (emb c (fun i j => A (i + 1) (skp c j))) := by
      rw [← clear_col h (c := c) (upd A 0 (uni c)) (fun j => by rw [upd_same]) n (Nat.le_refl _)]
      refine h.congr fun i j hi hj => ?_
      unfold emb upd
      by_cases h0 : i = 0
      · subst h0; simp
      · rw [if_pos (by omega), if_neg h0, if_neg h0]
        by_cases h1 : j = c
        · subst h1; rw [if_pos rfl]; unfold uni; rw [if_pos rfl]; grind
        · rw [if_neg h1]
          simp only
          rw [skp_usk h1, show i - 1 + 1 = i by omega]; unfold uni; rw [if_neg (fun e => h1 e.symm)]; grind
    rw [e2, ih (alt_emb h hc), emb_uni h c hc]
    grind

theorem skp_skp {c d j : Nat} (h : d ≤ c) : skp d (skp c j) = skp (c + 1) (skp d j) := by unfold skp; (repeat' split) <;> omega
theorem cancel_sum (T : Nat → Nat → R) (m : Nat) (h : ∀ c d, d ≤ c → T (c + 1) d = -T d c) : sumN (fun c => sumN (fun d => T c d) m) (m + 1) = 0 := by
  induction m with
  | zero => simp only [sumN]; grind
  | succ m ih =>
    have e : sumN (fun c => sumN (fun d => T c d) (m + 1)) (m + 1 + 1) = sumN (fun c => sumN (fun d => T c d) m) (m + 1) + sumN (fun c => T c m) (m + 1) + sumN (fun d => T (m + 1) d) (m + 1) := by
      rw [sumN]
      congr 1
      show sumN (fun c => sumN (fun d => T c d) m + T c m) (m + 1) = _
      rw [sumN_add]
    rw [e, ih, sumN_congr (f := fun d => T (m + 1) d) (g := fun d => (-1) * T d m) _ (fun d hd => by rw [h m d (by omega)]; grind), sumN_mul]
    grind
omit [CommRing R] in
theorem minor_upd (A : Nat → Nat → R) (r c : Nat) (f : Nat → R) : (fun i j => upd A (r + 1) f (i + 1) (skp c j)) = upd (fun i j => A (i + 1) (skp c j)) r (fun j => f (skp c j)) := by
  funext i j
  unfold upd
  by_cases h : i = r
  · subst h; simp
  · simp [h]
theorem alt_dt (n : Nat) : Alt n (dt (R := R) n) := by
  induction n with
  | zero => exact ⟨fun _ => rfl, fun A r a b f g h => by omega, fun A r h => by omega⟩
  | succ n ih =>
    refine ⟨fun e => dt_congr e, ?_, ?_⟩
    · intro A r a b f g hr
      rw [dt, dt, dt, ← sumN_lin]
      refine sumN_congr _ fun c hc => ?_
      cases r with
      | zero =>
        have e : ∀ g : Nat → R, (fun i j => upd A 0 g (i + 1) (skp c j)) = fun i j => A (i + 1) (skp c j) := fun g => by funext i j; simp [upd]
        rw [e, e, e, upd_same, upd_same, upd_same]; grind
      | succ r =>
        rw [minor_upd, minor_upd, minor_upd, ih.lin _ r a b _ _ (by omega), upd_other _ _ (by omega), upd_other _ _ (by omega), upd_other _ _ (by omega)]
        grind
    · intro A r hr he
      cases r with
      | succ r =>
        rw [dt]
        refine sumN_zero _ fun c hc => ?_
        rw [ih.adj _ r (by omega) (fun j hj => he _ (by unfold skp; split <;> omega))]
        grind
      | zero =>
        obtain ⟨m, rfl⟩ : ∃ m, n = m + 1 := ⟨n - 1, by omega⟩
        rw [dt]
        have e : ∀ c, c < m + 1 + 1 → sgN c * A 0 c * dt (m + 1) (fun i j => A (i + 1) (skp c j)) = sumN (fun d => sgN c * sgN d * A 0 c * A 0 (skp c d) * dt m (fun i j => A (i + 1 + 1) (skp c (skp d j)))) (m + 1) := by
          intro c hc
          rw [dt, ← sumN_mul]
          refine sumN_congr _ fun d hd => ?_
          rw [he (skp c d) (by unfold skp; split <;> omega)]
          grind
        rw [sumN_congr _ e]
        refine cancel_sum _ (m + 1) fun c d hd => ?_
        have e1 : skp (c + 1) d = d := by unfold skp; rw [if_pos (by omega)]
        have e2 : skp d c = c + 1 := by unfold skp; rw [if_neg (by omega)]
        have e3 : (fun i j => A (i + 1 + 1) (skp (c + 1) (skp d j))) = fun i j => A (i + 1 + 1) (skp d (skp c j)) := by funext i j; rw [skp_skp hd]
        rw [e1, e2, e3, sgN_succ]
        grind

theorem dt_uni (n : Nat) : dt n (uni (R := R)) = 1 := by
  induction n with
  | zero => rfl
  | succ n ih =>
    rw [dt, sumN_one (n + 1) 0 (by omega) (fun k _ hk => by unfold uni; rw [if_neg (fun e => hk e.symm)]; grind)]
    have e : (fun i j => uni (R := R) (i + 1) (skp 0 j)) = uni := by funext i j; unfold uni skp; simp
    rw [e, ih, sgN_zero]; unfold uni; rw [if_pos rfl]; grind

def mul (n : Nat) (A B : Nat → Nat → R) : Nat → Nat → R := fun i j => sumN (fun k => A i k * B k j) n
theorem mul_upd (n : Nat) (A B : Nat → Nat → R) (r : Nat) (f : Nat → R) : mul n (upd A r f) B = upd (mul n A B) r (fun j => sumN (fun k => f k * B k j) n) := by
  funext i j
  unfold mul upd
  by_cases h : i = r
  · simp [h]
  · simp [h]
theorem alt_mul (n : Nat) (B : Nat → Nat → R) : Alt n (fun A => dt n (mul n A B)) where
  congr := fun {A C} e => dt_congr fun i j hi hj => sumN_congr _ fun k hk => by rw [e i k hi hk]
  lin := fun A r a b f g hr => by
    show dt n _ = a * dt n _ + b * dt n _
    rw [mul_upd, mul_upd, mul_upd, ← (alt_dt n).lin _ r a b _ _ hr]
    congr 2
    funext j
    rw [← sumN_lin]
    exact sumN_congr _ fun k _ => by grind
  adj := fun A r hr e => (alt_dt n).adj _ r hr fun j hj => sumN_congr _ fun k hk => by rw [e k hk]
theorem mul_uni {n : Nat} (B : Nat → Nat → R) {i : Nat} (hi : i < n) (j : Nat) : mul n uni B i j = B i j := by
  unfold mul
  rw [sumN_one n i hi (fun k _ hk => by unfold uni; rw [if_neg (fun e => hk e.symm)]; grind)]
  unfold uni; rw [if_pos rfl]; grind
/-- CAUCHY, BINET. -/
theorem dt_mul (n : Nat) (A B : Nat → Nat → R) : dt n (mul n A B) = dt n A * dt n B := by
  have e := unique (alt_mul n B) A
  rw [e, dt_congr (A := mul n uni B) (B := B) (fun i j hi hj => mul_uni B hi j)]

/-- Transposed. -/
theorem alt_turn (n : Nat) : Alt n (fun A : Nat → Nat → R => dt n (fun i j => A j i)) := by
  induction n with
  | zero => exact ⟨fun _ => rfl, fun A r a b f g h => by omega, fun A r h => by omega⟩
  | succ n ih =>
    have hmin : ∀ (A : Nat → Nat → R) (r c : Nat) (f : Nat → R), c ≠ r → (fun i j => upd A r f (skp c j) (i + 1)) = fun i j => upd (fun i j => A (skp c i) (j + 1)) (usk c r) (fun j => f (j + 1)) j i := by
      intro A r c f hcr
      funext i j
      unfold upd
      by_cases h : j = usk c r
      · subst h
        rw [skp_usk (fun e => hcr e.symm)]; simp
      · rw [if_neg h, if_neg (fun e => h (by rw [← e, usk_skp]))]
    refine ⟨fun e => dt_congr fun i j hi hj => e j i hj hi, ?_, ?_⟩
    · intro A r a b f g hr
      show dt (n + 1) _ = a * dt (n + 1) _ + b * dt (n + 1) _
      rw [dt, dt, dt, ← sumN_lin]
      refine sumN_congr _ fun c hc => ?_
      by_cases e : c = r
      · subst e
        have e1 : ∀ f : Nat → R, (fun i j => upd A c f (skp c j) (i + 1)) = fun i j => A (skp c j) (i + 1) := fun f => by funext i j; rw [upd_other _ _ (skp_ne c j)]
        simp only [upd_same, e1]; grind
      · rw [hmin A r c _ e, hmin A r c _ e, hmin A r c _ e]
        have := ih.lin (fun i j => A (skp c i) (j + 1)) (usk c r) a b (fun j => f (j + 1)) (fun j => g (j + 1)) (by unfold usk; split <;> omega)
        rw [this, upd_other _ _ e, upd_other _ _ e, upd_other _ _ e]
        grind
    · intro A r hr he
      show dt (n + 1) _ = 0
      rw [dt, sumN_two (n + 1) r hr]
      · have e1 : dt n (fun i j => A (skp r j) (i + 1)) = dt n (fun i j => A (skp (r + 1) j) (i + 1)) := by
          refine dt_congr fun i j hi hj => ?_
          by_cases h1 : j = r
          · subst h1
            have a1 : skp j j = j + 1 := by unfold skp; rw [if_neg (by omega)]
            have a2 : skp (j + 1) j = j := by unfold skp; rw [if_pos (by omega)]
            rw [a1, a2]; exact (he _ (by omega)).symm
          · have : skp r j = skp (r + 1) j := by unfold skp; (repeat' split) <;> omega
            rw [this]
        rw [e1, he 0 (by omega), sgN_succ]; grind
      · intro k hk h1 h2
        have := ih.adj (fun i j => A (skp k i) (j + 1)) (usk k r) (by unfold usk; split <;> omega) (fun j hj => by
          have a1 : skp k (usk k r) = r := skp_usk (fun e => h1 e.symm)
          have a2 : skp k (usk k r + 1) = r + 1 := by unfold skp usk; (repeat' split) <;> omega
          rw [a1, a2]; exact he _ (by omega))
        rw [this]; grind
theorem dt_turn (n : Nat) (A : Nat → Nat → R) : dt n (fun i j => A j i) = dt n A := by
  have e := unique (alt_turn n) A
  rw [e]
  have e2 : (fun i j => uni (R := R) j i) = uni := by funext i j; unfold uni; split <;> split <;> first | rfl | omega
  rw [e2, dt_uni]; grind

/-- The last column 0 but for the corner. -/
def brd (n : Nat) (x : Nat → R) (B : Nat → Nat → R) : Nat → Nat → R := fun i j => if i < n then (if j < n then B i j else 0) else x j
theorem brd_upd {n : Nat} (x : Nat → R) (B : Nat → Nat → R) {r : Nat} (hr : r < n) (f : Nat → R) : brd n x (upd B r f) = upd (brd n x B) r (fun j => if j < n then f j else 0) := by
  funext i j
  unfold brd upd
  by_cases h : i = r
  · subst h; simp [hr]
  · simp [h]
theorem alt_brd (n : Nat) (x : Nat → R) : Alt n (fun B => dt (n + 1) (brd n x B)) where
  congr := fun {A B} e => dt_congr fun i j hi hj => by
    unfold brd
    split
    · split
      · exact e i j (by assumption) (by assumption)
      · rfl
    · rfl
  lin := fun A r a b f g hr => by
    show dt (n + 1) _ = a * dt (n + 1) _ + b * dt (n + 1) _
    rw [brd_upd _ _ hr, brd_upd _ _ hr, brd_upd _ _ hr, ← (alt_dt (n + 1)).lin _ r a b _ _ (by omega)]
    congr 2
    funext j
    split
    · rfl
    · grind
  adj := fun A r hr e => (alt_dt (n + 1)).adj _ r (by omega) fun j hj => by
    show brd n x A r j = brd n x A (r + 1) j
    unfold brd
    rw [if_pos (show r < n by omega), if_pos hr]
    split
    · exact e j (by assumption)
    · rfl
theorem brd_uni (n : Nat) : ∀ x : Nat → R, dt (n + 1) (brd n x uni) = x n := by
  induction n with
  | zero => intro x; rw [dt, sumN, sumN, dt, sgN_zero]; unfold brd; simp; grind
  | succ n ih =>
    intro x
    rw [dt, sumN_one (n + 1 + 1) 0 (by omega) (fun k hk h0 => by
      unfold brd uni
      rw [if_pos (by omega)]
      split
      · rw [if_neg (fun e => h0 e.symm)]; grind
      · grind)]
    have e : (fun i j => brd (n + 1) x uni (i + 1) (skp 0 j)) = brd n (fun j => x (j + 1)) (uni (R := R)) := by
      funext i j
      unfold brd uni skp
      simp
    rw [e, ih, sgN_zero]; unfold brd uni; simp; grind
theorem dt_corner (n : Nat) (A : Nat → Nat → R) (h : ∀ i, i < n → A i n = 0) : dt (n + 1) A = A n n * dt n A := by
  have e := unique (alt_brd n (A n)) A
  rw [brd_uni] at e
  rw [dt_congr (A := A) (B := brd n (A n) A) (fun i j hi hj => by
    unfold brd
    split
    · split
      · rfl
      · rw [show j = n by omega]; exact h i (by assumption)
    · rw [show i = n by omega]), e]
  grind

end Go.Det

namespace Go.Proofs.Ytckopilciekfbaa
open Go.RowKit Go.Sl
open Go.Det (sumN dt mul upd Alt uni sgN skp)

section
variable {R : Type} [Lean.Grind.CommRing R]
theorem combR {n : Nat} {F : (Nat → Nat → R) → R} (h : Alt n F) (A : Nat → Nat → R) (c : Nat → R) {r : Nat} (hr : r < n) : F (upd A r (fun j => sumN (fun k => c k * A k j) n)) = c r * F A := by
  rw [h.sum A hr]
  rw [Go.Det.sumN_one n r hr fun k hk hkr => ?_]
  · rw [Go.Det.upd_self]
  · rw [h.zero hk hr hkr _ fun j _ => by rw [Go.Det.upd_other _ _ hkr, Go.Det.upd_same]]; grind
theorem sum_uniR (n : Nat) (c : Nat → R) {i : Nat} (hi : i < n) : sumN (fun k => c k * uni k i) n = c i := by
  rw [Go.Det.sumN_one n i hi (fun k _ hk => by unfold uni; rw [if_neg hk]; grind)]
  unfold uni; rw [if_pos rfl]; grind
/-- The cofactor. -/
def cof (n : Nat) (A : Nat → Nat → R) (l j : Nat) : R := dt n (upd A l (uni j))
theorem cof_sum {n : Nat} (A : Nat → Nat → R) {l : Nat} (hl : l < n) (f : Nat → R) : dt n (upd A l f) = sumN (fun j => f j * cof n A l j) n := by
  have h := (Go.Det.alt_dt (R := R) n).sum A hl f (fun k => uni k) n
  show _ = sumN (fun k => f k * dt n (upd A l (uni k))) n
  rw [← h]
  refine Go.Det.dt_congr fun i j _ hj => ?_
  unfold upd
  by_cases e : i = l
  · rw [if_pos e, if_pos e, sum_uniR n f hj]
  · rw [if_neg e, if_neg e]
/-- A cofactor is the minor without the row and the column, up to the sign. -/
theorem cof_minor (n : Nat) : ∀ (l : Nat) (A : Nat → Nat → R) (j : Nat), l < n + 1 → j < n + 1 → cof (n + 1) A l j = sgN l * sgN j * dt n (fun a b => A (skp l a) (skp j b)) := by
  intro l
  induction l with
  | zero =>
    intro A j _ hj
    unfold cof
    rw [dt, Go.Det.sumN_one (n + 1) j hj (fun k _ hk => by rw [Go.Det.upd_same]; unfold uni; rw [if_neg (Ne.symm hk)]; grind), Go.Det.upd_same]
    have e : dt n (fun a b => upd A 0 (uni j) (a + 1) (skp j b)) = dt n (fun a b => A (skp 0 a) (skp j b)) := by
      refine Go.Det.dt_congr fun a b _ _ => ?_
      rw [Go.Det.upd_other _ _ (by omega)]
      have : skp 0 a = a + 1 := by unfold skp; rw [if_neg (by omega)]
      rw [this]
    rw [e, Go.Det.sgN_zero]; unfold uni; rw [if_pos rfl]; grind
  | succ l ih =>
    intro A j hl hj
    have sw := (Go.Det.alt_dt (R := R) (n + 1)).swap (p := l) (q := l + 1) (by omega) (by omega) (by omega) A (A l) (uni j)
    rw [Go.Det.upd_self] at sw
    have e1 : cof (n + 1) (upd A (l + 1) (A l)) l j = dt (n + 1) (upd (upd A l (uni j)) (l + 1) (A l)) := by
      unfold cof; rw [Go.Det.upd_comm _ _ _ (by omega)]
    have h := ih (upd A (l + 1) (A l)) j (by omega) hj
    have e2 : dt n (fun a b => upd A (l + 1) (A l) (skp l a) (skp j b)) = dt n (fun a b => A (skp (l + 1) a) (skp j b)) := by
      refine Go.Det.dt_congr fun a b _ _ => ?_
      unfold upd
      by_cases e : skp l a = l + 1
      · rw [if_pos e]
        have h1 : a = l := by unfold skp at e; split at e <;> omega
        have h2 : skp (l + 1) a = l := by unfold skp; rw [if_pos (by omega)]; exact h1
        rw [h2]
      · rw [if_neg e]
        have h1 : skp (l + 1) a = skp l a := by unfold skp at e ⊢; (repeat' split) <;> split at e <;> omega
        rw [h1]
    unfold cof at *
    rw [sw, ← e1, h, e2, Go.Det.sgN_succ]; grind
theorem dt_scal (n : Nat) (c : R) : dt n (fun i j => c * uni i j) = c ^ n := by
  induction n with
  | zero => rw [dt, Lean.Grind.Semiring.pow_zero]
  | succ n ih =>
    rw [Go.Det.dt_corner n _ (fun i hi => by unfold uni; rw [if_neg (by omega)]; grind), ih, Lean.Grind.Semiring.pow_succ]
    unfold uni; rw [if_pos rfl]; grind
end

/-- A prime number, as the program's moduli are. -/
def PrimeZ (p : Int) : Prop := ∀ a b : Int, p ∣ a * b → p ∣ a ∨ p ∣ b
theorem PrimeZ.pow {p : Int} (hp : PrimeZ p) {x : Int} : ∀ {n : Nat}, 0 < n → p ∣ x ^ n → p ∣ x := by
  intro n
  induction n with
  | zero => intro h; omega
  | succ n ih =>
    intro _ h
    rw [Int.pow_succ] at h
    rcases hp _ _ h with h | h
    · rcases Nat.eq_zero_or_pos n with e | e
      · subst e
        exact Int.dvd_trans (by simpa using h) (Int.one_dvd x)
      · exact ih e h
    · exact h
theorem primeZ_small {p : Nat} (hp : p = 2 ∨ p = 3 ∨ p = 5 ∨ p = 7 ∨ p = 11 ∨ p = 13) : PrimeZ (p : Int) := by
  intro a b h
  have h1 : a * b % p = 0 := Int.emod_eq_zero_of_dvd h
  rw [Int.mul_emod] at h1
  have key : a % p = 0 ∨ b % p = 0 := by
    have ra := Int.emod_nonneg a (show (p : Int) ≠ 0 by omega)
    have rb := Int.emod_nonneg b (show (p : Int) ≠ 0 by omega)
    have la := Int.emod_lt_of_pos a (show (0 : Int) < p by omega)
    have lb := Int.emod_lt_of_pos b (show (0 : Int) < p by omega)
    obtain ⟨x, hx⟩ : ∃ x : Nat, a % p = x := ⟨(a % p).toNat, by omega⟩
    obtain ⟨y, hy⟩ : ∃ y : Nat, b % p = y := ⟨(b % p).toNat, by omega⟩
    rw [hx, hy] at h1 ⊢
    have h2 : x * y % p = 0 := by exact_mod_cast h1
    have hx2 : x < p := by omega
    have hy2 : y < p := by omega
    have D : ∀ p : Fin 14, (p.val = 2 ∨ p.val = 3 ∨ p.val = 5 ∨ p.val = 7 ∨ p.val = 11 ∨ p.val = 13) → ∀ x y : Fin 14, x.val < p.val → y.val < p.val → x.val * y.val % p.val = 0 → x.val = 0 ∨ y.val = 0 := by decide +kernel
    rcases D ⟨p, by omega⟩ hp ⟨x, by omega⟩ ⟨y, by omega⟩ hx2 hy2 h2 with h | h
    · left; simp only at h; omega
    · right; simp only at h; omega
  rcases key with h | h
  · exact .inl (Int.dvd_of_emod_eq_zero h)
  · exact .inr (Int.dvd_of_emod_eq_zero h)

/-- If a prime divides a determinant, it does so besides any number that divides all cofactors. -/
theorem prime_step {n : Nat} (M : Nat → Nat → Int) {p g : Int} (hn : 0 < n) (hp : PrimeZ p) (hd : p ∣ dt n M) (hg : ∀ l j, l < n → j < n → g ∣ cof n M l j) : p * g ∣ dt n M := by
  have hexp : dt n M = sumN (fun j => M 0 j * cof n M 0 j) n := by
    have := cof_sum M hn (M 0)
    rwa [Go.Det.upd_self] at this
  have hgd : g ∣ dt n M := by
    rw [hexp]
    have : ∀ k, k ≤ n → g ∣ sumN (fun j => M 0 j * cof n M 0 j) k := by
      intro k
      induction k with
      | zero => intro _; exact Int.dvd_zero _
      | succ k ih => intro hk; rw [sumN]; exact Int.dvd_add (ih (by omega)) (Int.dvd_mul_of_dvd_right (hg 0 k hn (by omega)))
    exact this n (Nat.le_refl _)
  obtain ⟨d, hdd⟩ := hgd
  by_cases g0 : g = 0
  · rw [hdd, g0]; simp
  obtain ⟨N, hN⟩ : ∃ N : Nat → Nat → Int, N = fun l j => cof n M l j / g := ⟨_, rfl⟩
  have hNg : ∀ l j, l < n → j < n → cof n M l j = g * N l j := fun l j hl hj => by
    rw [hN]
    exact (Int.mul_ediv_cancel' (hg l j hl hj)).symm
  have hprod : ∀ i l, i < n → l < n → mul n M (fun j l => N l j) i l = d * uni i l := by
    intro i l hi hl
    refine Int.eq_of_mul_eq_mul_left g0 ?_
    unfold mul
    rw [← Go.Det.sumN_mul]
    have e1 : sumN (fun k => g * (M i k * N l k)) n = sumN (fun k => M i k * cof n M l k) n := Go.Det.sumN_congr n fun k hk => by rw [hNg l k hl hk]; grind
    rw [e1, ← cof_sum M hl (M i)]
    by_cases e : i = l
    · subst e
      rw [Go.Det.upd_self, hdd]; unfold uni; rw [if_pos rfl]; grind
    · rw [(Go.Det.alt_dt n).zero hi hl e _ fun j _ => by rw [Go.Det.upd_other _ _ e, Go.Det.upd_same]]
      unfold uni; rw [if_neg e]; grind
  have hdet := Go.Det.dt_mul n M (fun j l => N l j)
  rw [Go.Det.dt_congr hprod, dt_scal] at hdet
  have h1 : p ∣ d ^ n := by
    have : d ^ n = dt n M * dt n (fun j l => N l j) := hdet
    rw [this]
    exact Int.dvd_mul_of_dvd_left hd
  obtain ⟨q, hq⟩ := hp.pow hn h1
  exact ⟨q, by rw [hdd, hq]; grind⟩

/-! The program's minors. -/
def minD (a : Nat → Nat → Int) (rs cs : List Nat) : Int := dt rs.length (fun i j => a (rs.getD i 0) (cs.getD j 0))
theorem altS_sumN (l : List (Nat × List Nat)) (g : Nat → List Nat → Int) : ∀ s, altS l s g = s * sumN (fun k => sgN k * g (l.getD k (0, [])).1 (l.getD k (0, [])).2) l.length := by
  have first : ∀ (f : Nat → Int) (m : Nat), sumN f (m + 1) = f 0 + sumN (fun j => f (j + 1)) m := by
    intro f m
    induction m with
    | zero => simp only [sumN]; grind
    | succ m ih => rw [sumN, ih]; simp only [sumN]; grind
  induction l with
  | nil => intro s; simp [altS, sumN]
  | cons p l ih =>
    intro s
    obtain ⟨d, ds⟩ := p
    rw [altS, ih, List.length_cons, first]
    have e : ∀ k, k < l.length → sgN (k + 1) * g (((d, ds) :: l).getD (k + 1) (0, [])).1 (((d, ds) :: l).getD (k + 1) (0, [])).2 = (-1) * (sgN k * g (l.getD k (0, [])).1 (l.getD k (0, [])).2) := fun k _ => by
      rw [List.getD_cons_succ, Go.Det.sgN_succ]; grind
    rw [Go.Det.sumN_congr _ e, Go.Det.sumN_mul, List.getD_cons_zero, Go.Det.sgN_zero]; grind
theorem sel_nth (cs : List Nat) : (sel cs).length = cs.length ∧ ∀ k, k < cs.length → (sel cs).getD k (0, []) = (cs.getD k 0, cs.eraseIdx k) := by
  induction cs with
  | nil => exact ⟨rfl, fun k h => by simp at h⟩
  | cons c cs ih =>
    obtain ⟨h1, h2⟩ := ih
    refine ⟨by simp [sel, h1], fun k hk => ?_⟩
    cases k with
    | zero => simp [sel]
    | succ k =>
      have hk2 : k < cs.length := by simpa using hk
      have h3 := h2 k hk2
      rw [List.getD_eq_getElem?_getD, List.getElem?_eq_getElem (by rw [h1]; exact hk2)] at h3
      simp only [Option.getD_some] at h3
      rw [sel, List.getD_cons_succ, List.getD_eq_getElem?_getD, List.getElem?_map, List.getElem?_eq_getElem (by rw [h1]; exact hk2)]
      simp only [Option.map_some, Option.getD_some, h3, List.getD_cons_succ, List.eraseIdx_cons_succ]
theorem getD_erase (cs : List Nat) (k j : Nat) : (cs.eraseIdx k).getD j 0 = cs.getD (skp k j) 0 := by
  rw [List.getD_eq_getElem?_getD, List.getD_eq_getElem?_getD, List.getElem?_eraseIdx]
  unfold skp
  split <;> rfl
theorem minL_minD (a : Nat → Nat → Int) (rs : List Nat) : ∀ cs, cs.length = rs.length → minL a rs cs = minD a rs cs := by
  induction rs with
  | nil => intro cs _; rfl
  | cons r rs ih =>
    intro cs hc
    obtain ⟨h1, h2⟩ := sel_nth cs
    rw [minL, altS_sumN, h1, hc]
    unfold minD
    rw [List.length_cons, dt, Int.one_mul]
    refine Go.Det.sumN_congr _ fun k hk => ?_
    have hk2 : k < cs.length := by rw [hc]; simpa using hk
    rw [h2 k hk2]
    simp only [List.getD_cons_zero]
    rw [ih _ (by rw [List.length_eraseIdx_of_lt hk2, hc]; simp)]
    unfold minD
    rw [Int.mul_assoc]
    congr 2
    refine Go.Det.dt_congr fun i j _ _ => ?_
    rw [List.getD_cons_succ, getD_erase]
theorem cof_minD (a : Nat → Nat → Int) {rs cs : List Nat} (h : cs.length = rs.length) {l j : Nat} (hl : l < rs.length) (hj : j < rs.length) :
    cof rs.length (fun i j => a (rs.getD i 0) (cs.getD j 0)) l j = sgN l * sgN j * minD a (rs.eraseIdx l) (cs.eraseIdx j) := by
  obtain ⟨n, hn⟩ : ∃ n, rs.length = n + 1 := ⟨rs.length - 1, by omega⟩
  rw [hn, cof_minor n l _ j (by omega) (by omega)]
  unfold minD
  rw [List.length_eraseIdx_of_lt hl, hn, Nat.add_sub_cancel]
  congr 1
  refine Go.Det.dt_congr fun i b _ _ => ?_
  rw [getD_erase, getD_erase]
theorem bits_erase : ∀ r : Fin 64, ∀ l : Fin 6, l.val < (bits6 r.val).length → ∃ s : Fin 64, s.val ≤ r.val ∧ bits6 s.val = (bits6 r.val).eraseIdx l.val := by decide +kernel
theorem bits_all : ∀ n : Fin 7, ∀ r : Fin 64, r.val < 2 ^ n.val → ∀ x ∈ bits6 r.val, x < n.val := by decide +kernel

/-- The greatest common divisor of the minors of k rows. -/
def gD (m : List (List Int)) (n k : Nat) : Nat := rowsG m n k (2 ^ n)
section
variable {m : List (List Int)} {n : Nat}
theorem gD_dvd (hn : n ≤ 6) (k x : Nat) : x ∣ gD m n k ↔ ∀ r c, r < 2 ^ n → c < 2 ^ n → (bits6 r).length = k → (bits6 c).length = k → (x : Int) ∣ minD (ent2 m) (bits6 r) (bits6 c) := by
  have h64 := pow_le64 ⟨n, by omega⟩
  simp only at h64
  unfold gD
  rw [rowsG_dvd]
  constructor
  · intro H r c hr hc h1 h2
    have b1 := bits_len ⟨r, by omega⟩
    have b2 := bits_len ⟨c, by omega⟩
    simp only at b1 b2
    have := H r hr c hc (by omega) (by omega)
    rw [minM_eq m hn k r c (by omega) hc (by omega), minL_minD _ _ _ (by omega)] at this
    exact Int.ofNat_dvd_left.2 this
  · intro H r hr c hc h1 h2
    have b1 := bits_len ⟨r, by omega⟩
    have b2 := bits_len ⟨c, by omega⟩
    simp only at b1 b2
    rw [minM_eq m hn k r c (by omega) hc (by omega), minL_minD _ _ _ (by omega)]
    exact Int.ofNat_dvd_left.1 (H r c hr hc (by omega) (by omega))
theorem gD_minor (hn : n ≤ 6) {k r c : Nat} (hr : r < 2 ^ n) (hc : c < 2 ^ n) (h1 : (bits6 r).length = k) (h2 : (bits6 c).length = k) : ((gD m n k : Nat) : Int) ∣ minD (ent2 m) (bits6 r) (bits6 c) :=
  (gD_dvd hn k _).1 (Nat.dvd_refl _) r c hr hc h1 h2
theorem gD_cof (hn : n ≤ 6) {k r c l j : Nat} (hr : r < 2 ^ n) (hc : c < 2 ^ n) (h1 : (bits6 r).length = k + 1) (h2 : (bits6 c).length = k + 1) (hl : l < k + 1) (hj : j < k + 1) :
    ((gD m n k : Nat) : Int) ∣ cof (k + 1) (fun i j => ent2 m ((bits6 r).getD i 0) ((bits6 c).getD j 0)) l j := by
  have h64 := pow_le64 ⟨n, by omega⟩
  simp only at h64
  have hk6 : k + 1 ≤ 6 := by
    have := bits_len ⟨r, by omega⟩
    have h3 := popc_le ⟨r, by omega⟩
    simp only at this h3; omega
  obtain ⟨r', hr', e1⟩ := bits_erase ⟨r, by omega⟩ ⟨l, by omega⟩ (by simp only; omega)
  obtain ⟨c', hc', e2⟩ := bits_erase ⟨c, by omega⟩ ⟨j, by omega⟩ (by simp only; omega)
  simp only at e1 e2 hr' hc'
  have h3 := cof_minD (ent2 m) (rs := bits6 r) (cs := bits6 c) (by omega) (l := l) (j := j) (by omega) (by omega)
  rw [h1] at h3
  rw [h3, ← e1, ← e2]
  refine Int.dvd_mul_of_dvd_right (gD_minor hn (by omega) (by omega) ?_ ?_)
  · rw [e1, List.length_eraseIdx_of_lt (by omega)]; omega
  · rw [e2, List.length_eraseIdx_of_lt (by omega)]; omega
theorem gD_up (hn : n ≤ 6) (k : Nat) : gD m n k ∣ gD m n (k + 1) := by
  refine (gD_dvd hn (k + 1) _).2 fun r c hr hc h1 h2 => ?_
  have hexp : minD (ent2 m) (bits6 r) (bits6 c) = sumN (fun j => ent2 m ((bits6 r).getD 0 0) ((bits6 c).getD j 0) * cof (k + 1) (fun i j => ent2 m ((bits6 r).getD i 0) ((bits6 c).getD j 0)) 0 j) (k + 1) := by
    have := cof_sum (fun i j => ent2 m ((bits6 r).getD i 0) ((bits6 c).getD j 0)) (n := k + 1) (l := 0) (by omega) (fun j => ent2 m ((bits6 r).getD 0 0) ((bits6 c).getD j 0))
    rw [← this]
    unfold minD
    rw [h1]
    have e : (fun j => ent2 m ((bits6 r).getD 0 0) ((bits6 c).getD j 0)) = (fun i j => ent2 m ((bits6 r).getD i 0) ((bits6 c).getD j 0)) 0 := rfl
    rw [e, Go.Det.upd_self]
  rw [hexp]
  have : ∀ q, q ≤ k + 1 → ((gD m n k : Nat) : Int) ∣ sumN (fun j => ent2 m ((bits6 r).getD 0 0) ((bits6 c).getD j 0) * cof (k + 1) (fun i j => ent2 m ((bits6 r).getD i 0) ((bits6 c).getD j 0)) 0 j) q := by
    intro q
    induction q with
    | zero => intro _; exact Int.dvd_zero _
    | succ q ih => intro hq; rw [sumN]; exact Int.dvd_add (ih (by omega)) (Int.dvd_mul_of_dvd_right (gD_cof hn hr hc h1 h2 (by omega) (by omega)))
  exact this _ (Nat.le_refl _)
theorem gD_mono (hn : n ≤ 6) {j k : Nat} (h : j ≤ k) : gD m n j ∣ gD m n k := by
  obtain ⟨d, rfl⟩ : ∃ d, k = j + d := ⟨k - j, by omega⟩
  induction d with
  | zero => exact Nat.dvd_refl _
  | succ d ih => exact Nat.dvd_trans (ih (by omega)) (gD_up hn _)
theorem gD_prime (hn : n ≤ 6) {p : Nat} (hp : PrimeZ (p : Int)) (k : Nat) (h : p ∣ gD m n (k + 1)) : p * gD m n k ∣ gD m n (k + 1) := by
  refine (gD_dvd hn (k + 1) _).2 fun r c hr hc h1 h2 => ?_
  have hd := (gD_dvd hn (k + 1) p).1 h r c hr hc h1 h2
  have := prime_step (fun i j => ent2 m ((bits6 r).getD i 0) ((bits6 c).getD j 0)) (n := k + 1) (p := (p : Int)) (g := ((gD m n k : Nat) : Int)) (by omega) hp (by unfold minD at hd; rwa [h1] at hd)
    (fun l j hl hj => gD_cof hn hr hc h1 h2 hl hj)
  rw [Int.natCast_mul]
  unfold minD
  rw [h1]; exact this
theorem nth_smithD {k : Nat} (hk : k < n) : nth (smithL m n n) k = if gD m n (k + 1) = 0 then 0 else ((gD m n (k + 1) / gD m n k : Nat) : Int) := by
  have hk2 : k < min n n := by omega
  unfold smithL gD
  rw [facL, nth_fac _ _ _ hk2, facAt, dTo_end (by omega), dTo_end (by omega)]
  by_cases h : rowsG m n (k + 1) (2 ^ n) = 0
  · rw [if_pos h, if_pos (by rw [h]; rfl)]
  · rw [if_neg h, if_neg (by omega)]; simp
/-- A prime's share of a factor. -/
theorem smith_prime (hn : n ≤ 6) {p : Nat} (hp : PrimeZ (p : Int)) (hp1 : ∀ d, d ∣ p → d = 1 ∨ d = p) {k : Nat} (hk : k < n) : Nat.gcd (nth (smithL m n n) k).natAbs p = if p ∣ gD m n (k + 1) then p else 1 := by
  rw [nth_smithD hk]
  by_cases h : p ∣ gD m n (k + 1)
  · rw [if_pos h]
    by_cases h0 : gD m n (k + 1) = 0
    · rw [if_pos h0]; simp
    · rw [if_neg h0, Int.natAbs_natCast]
      obtain ⟨q, hq⟩ := gD_prime hn hp k h
      have hg : 0 < gD m n k := Nat.pos_of_ne_zero fun e => h0 (by rw [hq, e]; simp)
      have : gD m n (k + 1) / gD m n k = p * q := by rw [hq, show p * gD m n k * q = gD m n k * (p * q) by grind]; exact Nat.mul_div_cancel_left _ hg
      rw [this, Nat.gcd_comm]
      exact Nat.gcd_eq_left (Nat.dvd_mul_right p q)
  · rw [if_neg h]
    have h0 : gD m n (k + 1) ≠ 0 := fun e => h (by rw [e]; exact Nat.dvd_zero _)
    rw [if_neg h0, Int.natAbs_natCast]
    rcases hp1 _ (Nat.gcd_dvd_right (gD m n (k + 1) / gD m n k) p) with e | e
    · exact e
    · exfalso
      have h1 : p ∣ gD m n (k + 1) / gD m n k := by rw [← e]; exact Nat.gcd_dvd_left _ _
      obtain ⟨q, hq⟩ := gD_up (m := m) hn k
      rw [hq] at h1 h
      have hg : 0 < gD m n k := Nat.pos_of_ne_zero fun e => h0 (by rw [hq, e]; simp)
      rw [Nat.mul_div_cancel_left _ hg] at h1
      exact h (Nat.dvd_trans h1 (Nat.dvd_mul_left _ _))
end

end Go.Proofs.Ytckopilciekfbaa

namespace Go.Proofs.Ytckopilciekfbaa
open Go.RowKit Go.Sl
open Go.Det (sumN dt mul upd Alt uni sgN skp)

/-! Congruent matrices. -/
theorem dvd_sum {p : Int} {f : Nat → Int} (n : Nat) (h : ∀ k, k < n → p ∣ f k) : p ∣ sumN f n := by
  induction n with
  | zero => exact Int.dvd_zero _
  | succ n ih => rw [sumN]; exact Int.dvd_add (ih fun k hk => h k (by omega)) (h n (by omega))
theorem dvd_mul_sub {p a b c d : Int} (h1 : p ∣ a - b) (h2 : p ∣ c - d) : p ∣ a * c - b * d := by
  obtain ⟨x, hx⟩ := h1
  obtain ⟨y, hy⟩ := h2
  have e1 : a = b + p * x := by omega
  have e2 : c = d + p * y := by omega
  exact ⟨b * y + x * d + p * x * y, by rw [e1, e2]; grind⟩
theorem dt_mod {p : Int} (n : Nat) : ∀ {A B : Nat → Nat → Int}, (∀ i j, i < n → j < n → p ∣ A i j - B i j) → p ∣ dt n A - dt n B := by
  induction n with
  | zero => intro A B _; rw [dt, dt]; exact ⟨0, by omega⟩
  | succ n ih =>
    intro A B h
    rw [dt, dt]
    have e : sumN (fun c => sgN c * A 0 c * dt n fun i j => A (i + 1) (skp c j)) (n + 1) - sumN (fun c => sgN c * B 0 c * dt n fun i j => B (i + 1) (skp c j)) (n + 1) =
        sumN (fun c => sgN c * A 0 c * (dt n fun i j => A (i + 1) (skp c j)) - sgN c * B 0 c * dt n fun i j => B (i + 1) (skp c j)) (n + 1) := by
      have h1 := Go.Det.sumN_lin (1 : Int) (-1) (fun c => sgN c * A 0 c * dt n fun i j => A (i + 1) (skp c j)) (fun c => sgN c * B 0 c * dt n fun i j => B (i + 1) (skp c j)) (n + 1)
      have h2 : ∀ k, k < n + 1 → sgN k * A 0 k * (dt n fun i j => A (i + 1) (skp k j)) - sgN k * B 0 k * (dt n fun i j => B (i + 1) (skp k j)) = 1 * (sgN k * A 0 k * dt n fun i j => A (i + 1) (skp k j)) + (-1) * (sgN k * B 0 k * dt n fun i j => B (i + 1) (skp k j)) := fun k _ => by grind
      rw [Go.Det.sumN_congr _ h2, h1]; grind
    rw [e]
    refine dvd_sum _ fun c hc => dvd_mul_sub ?_ (ih fun i j hi hj => h _ _ (by omega) (by unfold skp; split <;> omega))
    have := h 0 c (by omega) hc
    have e2 : sgN c * A 0 c - sgN c * B 0 c = sgN c * (A 0 c - B 0 c) := by grind
    rw [e2]; exact Int.dvd_mul_of_dvd_right this
theorem bits_small {n r : Nat} (hn : n ≤ 6) (hr : r < 2 ^ n) {i : Nat} (hi : i < (bits6 r).length) : (bits6 r).getD i 0 < n := by
  have h64 := pow_le64 ⟨n, by omega⟩
  simp only at h64
  have := bits_all ⟨n, by omega⟩ ⟨r, by omega⟩ hr
  simp only at this
  rw [List.getD_eq_getElem?_getD, List.getElem?_eq_getElem hi]
  exact this _ (List.getElem_mem hi)
section
variable {m m' : List (List Int)} {n : Nat}
theorem gD_mod (hn : n ≤ 6) {p : Nat} (h : ∀ i j, i < n → j < n → (p : Int) ∣ ent2 m i j - ent2 m' i j) (k : Nat) (hk : p ∣ gD m n k) : p ∣ gD m' n k := by
  refine (gD_dvd hn k p).2 fun r c hr hc h1 h2 => ?_
  have h3 := (gD_dvd hn k p).1 hk r c hr hc h1 h2
  unfold minD at h3 ⊢
  rw [h1] at h3 ⊢
  have h4 := dt_mod (p := (p : Int)) k (A := fun i j => ent2 m ((bits6 r).getD i 0) ((bits6 c).getD j 0)) (B := fun i j => ent2 m' ((bits6 r).getD i 0) ((bits6 c).getD j 0)) fun i j hi hj =>
    h _ _ (bits_small hn hr (by omega)) (bits_small hn hc (by omega))
  have := Int.dvd_sub h3 h4
  have e : ∀ a b : Int, a - (a - b) = b := fun a b => by omega
  rwa [e] at this
/-- The solutions modulo a prime. -/
def shr (p : Nat) (m : List (List Int)) (n : Nat) : Nat → Nat
  | 0 => 1
  | t + 1 => shr p m n t * if p ∣ gD m n (t + 1) then p else 1
theorem solTo_prime (hn : n ≤ 6) {p : Nat} (hp : PrimeZ (p : Int)) (hp1 : ∀ d, d ∣ p → d = 1 ∨ d = p) : ∀ t, t ≤ n → solTo (smithL m n n) p t = shr p m n t := by
  intro t
  induction t with
  | zero => intro _; rfl
  | succ t ih => intro ht; rw [solTo, shr, ih (by omega), smith_prime hn hp hp1 (by omega)]
theorem solL_square (M : Nat) : solL (smithL m n n) M n = solTo (smithL m n n) M n := by
  unfold solL
  rw [smithL_length, Nat.min_self, Nat.sub_self, Nat.pow_zero, Nat.mul_one]
theorem solL_prime (hn : n ≤ 6) {p : Nat} (hp : PrimeZ (p : Int)) (hp1 : ∀ d, d ∣ p → d = 1 ∨ d = p) : solL (smithL m n n) p n = shr p m n n := by
  rw [solL_square, solTo_prime hn hp hp1 n (Nat.le_refl _)]
theorem shr_congr {p : Nat} (h : ∀ k, p ∣ gD m n k ↔ p ∣ gD m' n k) (t : Nat) : shr p m n t = shr p m' n t := by
  induction t with
  | zero => rfl
  | succ t ih =>
    rw [shr, shr, ih]
    by_cases e : p ∣ gD m n (t + 1)
    · rw [if_pos e, if_pos ((h _).1 e)]
    · rw [if_neg e, if_neg (fun q => e ((h _).2 q))]
/-- The number of solutions modulo a prime depends on the entries modulo it only. -/
theorem solL_mod (hn : n ≤ 6) {p : Nat} (hp : PrimeZ (p : Int)) (hp1 : ∀ d, d ∣ p → d = 1 ∨ d = p) (h : ∀ i j, i < n → j < n → (p : Int) ∣ ent2 m i j - ent2 m' i j) : solL (smithL m n n) p n = solL (smithL m' n n) p n := by
  rw [solL_prime hn hp hp1, solL_prime hn hp hp1]
  refine shr_congr (fun k => ⟨gD_mod hn h k, gD_mod hn (fun i j hi hj => ?_) k⟩) n
  have := h i j hi hj
  rw [← Int.neg_sub]; exact Int.dvd_neg.2 this
/-- With all from s on divisible, and none before. -/
theorem shr_count {p s : Nat} (h : ∀ k, p ∣ gD m n k ↔ s < k) : ∀ t, shr p m n t = p ^ (t - s) := by
  intro t
  induction t with
  | zero => simp [shr]
  | succ t ih =>
    rw [shr, ih]
    by_cases e : s < t + 1
    · rw [if_pos ((h _).2 e), show t + 1 - s = (t - s) + 1 by omega, Nat.pow_succ]
    · rw [if_neg (fun q => e ((h _).1 q)), Nat.mul_one]
      congr 1; omega

theorem full_bits : ∀ n : Fin 7, ∀ r : Fin 64, r.val < 2 ^ n.val → (bits6 r.val).length = n.val → bits6 r.val = List.range n.val := by decide +kernel
theorem range_getD {n i : Nat} (h : i < n) : (List.range n).getD i 0 = i := by rw [List.getD_eq_getElem?_getD, List.getElem?_range h]; rfl
theorem cof_turn {R : Type} [Lean.Grind.CommRing R] (n : Nat) (A : Nat → Nat → R) {l j : Nat} (hl : l < n) (hj : j < n) : cof n (fun i j => A j i) l j = cof n A j l := by
  obtain ⟨k, rfl⟩ : ∃ k, n = k + 1 := ⟨n - 1, by omega⟩
  rw [cof_minor k l _ j hl hj, cof_minor k j _ l hj hl, ← Go.Det.dt_turn k (fun a b => A (skp j a) (skp l b))]
  grind
/-- Rows' sums divisible by M: the last factor is. -/
theorem gD_rowsum (hn : n ≤ 6) {k : Nat} (hk : n = k + 1) {M : Int} (h : ∀ i, i < n → M ∣ sumN (fun j => ent2 m i j) n) : M * ((gD m n k : Nat) : Int) ∣ ((gD m n n : Nat) : Int) := by
  have h64 := pow_le64 ⟨n, by omega⟩
  simp only at h64
  have key : M.natAbs * gD m n k ∣ gD m n n := by
    refine (gD_dvd hn n _).2 fun r c hr hc h1 h2 => ?_
    have b1 := full_bits ⟨n, by omega⟩ ⟨r, by omega⟩ hr h1
    have b2 := full_bits ⟨n, by omega⟩ ⟨c, by omega⟩ hc h2
    simp only at b1 b2
    have e0 : minD (ent2 m) (bits6 r) (bits6 c) = dt n (fun i j => ent2 m i j) := by
      unfold minD
      rw [b1, b2, List.length_range]
      exact Go.Det.dt_congr fun i j hi hj => by rw [range_getD hi, range_getD hj]
    obtain ⟨u, hu⟩ : ∃ u : Nat → Int, ∀ i, i < n → sumN (fun j => ent2 m i j) n = M * u i :=
      ⟨fun i => sumN (fun j => ent2 m i j) n / M, fun i hi => (Int.mul_ediv_cancel' (h i hi)).symm⟩
    have h3 := combR (Go.Det.alt_turn n) (fun j i => ent2 m i j) (fun _ => (1 : Int)) (r := 0) (by omega)
    rw [Int.one_mul] at h3
    have h4 : dt n (fun i j => upd (fun j i => ent2 m i j) 0 (fun i => sumN (fun k => 1 * ent2 m i k) n) j i) = dt n (fun i j => upd (fun j i => ent2 m i j) 0 (fun i => M * u i) j i) := by
      refine Go.Det.dt_congr fun i j hi hj => ?_
      unfold upd
      by_cases e : j = 0
      · rw [if_pos e, if_pos e]
        show sumN (fun k => 1 * ent2 m i k) n = M * u i
        rw [← hu i hi]; exact Go.Det.sumN_congr n fun k _ => by rw [Int.one_mul]
      · rw [if_neg e, if_neg e]
    have h5 := (Go.Det.alt_turn (R := Int) n).smul (fun j i => ent2 m i j) 0 M u (by omega)
    have h6 : dt n (fun i j => ent2 m i j) = M * dt n (fun i j => upd (fun j i => ent2 m i j) 0 u j i) := by rw [← h3, h4, h5]
    rw [e0, h6]
    have h7 : dt n (fun i j => upd (fun j i => ent2 m i j) 0 u j i) = sumN (fun j => u j * cof n (fun j i => ent2 m i j) 0 j) n := by
      rw [Go.Det.dt_turn n (fun j i => upd (fun j i => ent2 m i j) 0 u j i)]
      exact cof_sum (fun j i => ent2 m i j) (by omega) u
    rw [h7]
    have h8 : ((gD m n k : Nat) : Int) ∣ sumN (fun j => u j * cof n (fun j i => ent2 m i j) 0 j) n := by
      refine dvd_sum n fun j hj => Int.dvd_mul_of_dvd_right ?_
      rw [cof_turn n (ent2 m) (by omega) hj]
      have h9 := gD_cof (m := m) hn (k := k) (r := r) (c := c) (l := j) (j := 0) hr hc (by omega) (by omega) (by omega) (by omega)
      rw [b1, b2] at h9
      have e9 : cof (k + 1) (fun i j => ent2 m ((List.range n).getD i 0) ((List.range n).getD j 0)) j 0 = cof (k + 1) (ent2 m) j 0 := by
        unfold cof
        refine Go.Det.dt_congr fun a b ha hb => ?_
        unfold upd
        split
        · rfl
        · show ent2 m ((List.range n).getD a 0) ((List.range n).getD b 0) = ent2 m a b
          rw [range_getD (by omega), range_getD (by omega)]
      rw [e9] at h9
      have e10 : cof n (ent2 m) j 0 = cof (k + 1) (ent2 m) j 0 := by rw [← hk]
      rw [e10]; exact h9
    rw [Int.natCast_mul]
    obtain ⟨z, hz⟩ := h8
    rw [hz]
    have : ((M.natAbs : Nat) : Int) ∣ M := by
      rcases Int.natAbs_eq M with e | e
      · exact ⟨1, by omega⟩
      · exact ⟨-1, by omega⟩
    obtain ⟨y, hy⟩ := this
    exact ⟨y * z, by rw [show M * ((gD m n k : Nat) * z) = (((M.natAbs : Nat) : Int) * y) * ((gD m n k : Nat) * z) by rw [← hy]]; grind⟩
  have h9 := Int.natCast_dvd_natCast.2 key
  rw [Int.natCast_mul] at h9
  have : M * ((gD m n k : Nat) : Int) ∣ ((M.natAbs : Nat) : Int) * ((gD m n k : Nat) : Int) := by
    rcases Int.natAbs_eq M with e | e
    · rw [← e]; exact Int.dvd_refl _
    · refine ⟨-1, ?_⟩
      have e2 : ((M.natAbs : Nat) : Int) = -M := by omega
      rw [e2]; grind
  exact Int.dvd_trans this h9
/-- The number of solutions is then a multiple of the modulus. -/
theorem solL_rowsum (hn : n ≤ 6) (h0 : 0 < n) {M : Nat} (hM : 0 < M) (h : ∀ i, i < n → (M : Int) ∣ sumN (fun j => ent2 m i j) n) : ∃ q, 0 < q ∧ solL (smithL m n n) M n = q * M := by
  obtain ⟨k, hk⟩ : ∃ k, n = k + 1 := ⟨n - 1, by omega⟩
  have hd := gD_rowsum hn hk h
  rw [← Int.natCast_mul] at hd
  have hd2 := Int.natCast_dvd_natCast.1 hd
  have hg : Nat.gcd (nth (smithL m n n) k).natAbs M = M := by
    rw [nth_smithD (by omega), ← hk]
    by_cases e : gD m n n = 0
    · rw [if_pos e]; simp
    · rw [if_neg e, Int.natAbs_natCast]
      obtain ⟨q, hq⟩ := hd2
      have hg : 0 < gD m n k := Nat.pos_of_ne_zero fun e2 => e (by rw [hq, e2]; simp)
      have : gD m n n / gD m n k = M * q := by rw [hq, show M * gD m n k * q = gD m n k * (M * q) by grind]; exact Nat.mul_div_cancel_left _ hg
      rw [this, Nat.gcd_comm]
      exact Nat.gcd_eq_left (Nat.dvd_mul_right M q)
  refine ⟨solTo (smithL m n n) M k, solTo_pos _ _ hM _, ?_⟩
  rw [solL_square, hk, solTo, ← hk, hg]
end

end Go.Proofs.Ytckopilciekfbaa

namespace Go.Proofs.Ytckopilciekfbaa
open Go.RowKit Go.Sl

/-- The first k points of the cycle of i. -/
def orb (a : List Int) (i k : Nat) : List Int := (List.range k).map fun t => ((itr a t i : Nat) : Int)
theorem orb_succ (a : List Int) (i k : Nat) : orb a i (k + 1) = orb a i k ++ [((itr a k i : Nat) : Int)] := by simp [orb, List.range_succ]
theorem orb_length (a : List Int) (i k : Nat) : (orb a i k).length = k := by simp [orb]
theorem mem_orb {a : List Int} {i k : Nat} {x : Int} : x ∈ orb a i k ↔ ∃ t, t < k ∧ ((itr a t i : Nat) : Int) = x := by simp [orb]

/-- The components so far. -/
structure Comps (a : List Int) (D : List Bool) (C : List (List Int)) : Prop where
  mem : ∀ k, k < C.length → ∀ x ∈ nthr C k, 0 ≤ x ∧ x.toNat < a.length ∧ at? D x.toNat = true
  dis : ∀ k l, k < C.length → l < C.length → ∀ x, x ∈ nthr C k → x ∈ nthr C l → k = l
  cov : ∀ i, i < a.length → at? D i = true → ∃ k, k < C.length ∧ (i : Int) ∈ nthr C k
  clo : ∀ k, k < C.length → ∀ x ∈ nthr C k, nth a x.toNat ∈ nthr C k
  srt : ∀ k, k < C.length → SortedL (nthr C k)
theorem comps_nil (a : List Int) : Comps a (List.replicate a.length false) [] :=
  ⟨fun k h => absurd h (by simp), fun k l h => absurd h (by simp), fun i _ h => (by rw [at_replicate] at h; cases h), fun k h => absurd h (by simp), fun k h => absurd h (by simp)⟩
theorem Comps.stay {a : List Int} {D E : List Bool} {C : List (List Int)} {i : Nat} (h : Comps a D C) (h1 : Cyc1 a D i 0 E) : Comps a E C := by
  have e : ∀ j, at? E j = true ↔ at? D j = true := fun j => by
    rw [h1.mark]
    exact ⟨fun h => h.elim id (fun ⟨t, ht, _⟩ => by omega), .inl⟩
  exact ⟨fun k hk x hx => by rw [e]; exact h.mem k hk x hx, h.dis, fun i hi hd => h.cov i hi ((e i).1 hd), h.clo, h.srt⟩
theorem Comps.step {a : List Int} {D E : List Bool} {C : List (List Int)} {L : List Nat} {i k : Nat} {ys : List Int} (ha : IsPerm a) (hi : i < a.length) (h : Comps a D C) (hc : Cyc a D L) (h1 : Cyc1 a D i k E) {L' : List Nat} (hc2 : Cyc a E L')
    (hp : ys.Perm (orb a i k)) (hs : SortedL ys) : Comps a E (C ++ [ys]) := by
  have hm : ∀ x, x ∈ ys ↔ ∃ t, t < k ∧ ((itr a t i : Nat) : Int) = x := fun x => by rw [hp.mem_iff, mem_orb]
  have hlt : ∀ t, itr a t i < a.length := fun t => itr_lt ha t hi
  have hl : (C ++ [ys]).length = C.length + 1 := by simp
  refine ⟨fun j hj x hx => ?_, fun j l hj hl' x hx hx' => ?_, fun j hj hjm => ?_, fun j hj x hx => ?_, fun j hj => ?_⟩
  · rw [nthr_snocL] at hx
    by_cases e : j = C.length
    · rw [if_pos e] at hx
      obtain ⟨t, ht, rfl⟩ := (hm x).1 hx
      refine ⟨by omega, by simpa using hlt t, ?_⟩
      simp only [Int.toNat_natCast]
      exact (h1.mark _).2 (.inr ⟨t, ht, rfl⟩)
    · rw [if_neg e] at hx
      obtain ⟨h2, h3, h4⟩ := h.mem j (by omega) x hx
      exact ⟨h2, h3, (h1.mark _).2 (.inl h4)⟩
  · rw [nthr_snocL] at hx hx'
    have key : ∀ j, j < C.length → ∀ x, x ∈ nthr C j → ¬ x ∈ ys := fun j hj x hx hy => by
      obtain ⟨t, ht, rfl⟩ := (hm x).1 hy
      have := (h.mem j hj _ hx).2.2
      simp only [Int.toNat_natCast] at this
      rw [h1.new t ht] at this; cases this
    by_cases e : j = C.length <;> by_cases e' : l = C.length
    · omega
    · rw [if_pos e] at hx; rw [if_neg e'] at hx'
      exact absurd hx (key l (by omega) x hx')
    · rw [if_neg e] at hx; rw [if_pos e'] at hx'
      exact absurd hx' (key j (by omega) x hx)
    · rw [if_neg e] at hx; rw [if_neg e'] at hx'
      exact h.dis j l (by omega) (by omega) x hx hx'
  · rcases (h1.mark j).1 hjm with h2 | ⟨t, ht, he⟩
    · obtain ⟨l, hl', hx⟩ := h.cov j hj h2
      exact ⟨l, by omega, by rw [nthr_snocL, if_neg (by omega)]; exact hx⟩
    · exact ⟨C.length, by omega, by rw [nthr_snocL, if_pos rfl]; exact (hm _).2 ⟨t, ht, by rw [he]⟩⟩
  · rw [nthr_snocL] at hx ⊢
    by_cases e : j = C.length
    · rw [if_pos e] at hx ⊢
      obtain ⟨t, ht, rfl⟩ := (hm x).1 hx
      simp only [Int.toNat_natCast]
      have hr := ha.range _ (nth_mem (hlt t))
      have h2 := hc2.forth (itr a t i) (hlt t) ((h1.mark _).2 (.inr ⟨t, ht, rfl⟩))
      rcases (h1.mark _).1 h2 with h3 | ⟨s, hs', he⟩
      · have := hc.back _ (hlt t) h3
        rw [h1.new t ht] at this; cases this
      · exact (hm _).2 ⟨s, hs', by rw [he]; omega⟩
    · rw [if_neg e] at hx ⊢
      exact h.clo j (by omega) x hx
  · rw [nthr_snocL]
    by_cases e : j = C.length
    · rw [if_pos e]; exact hs
    · rw [if_neg e]; exact h.srt j (by omega)

/-- Every strand has its component. -/
structure LabOK (a : List Int) (C : List (List Int)) (lab : Nat → Nat) : Prop where
  lt : ∀ i, i < a.length → lab i < C.length
  mem : ∀ k, k < C.length → ∀ x ∈ nthr C k, 0 ≤ x ∧ x.toNat < a.length ∧ lab x.toNat = k
  cov : ∀ i, i < a.length → (i : Int) ∈ nthr C (lab i)
  cyc : ∀ i, i < a.length → lab (nth a i).toNat = lab i
  srt : ∀ k, k < C.length → SortedL (nthr C k)
theorem Comps.lab {a : List Int} {D : List Bool} {C : List (List Int)} (ha : IsPerm a) (h : Comps a D C) (hd : ∀ i, i < a.length → at? D i = true) : ∃ lab, LabOK a C lab := by
  have h1 : ∀ i, ∃ k : Nat, i < a.length → k < C.length ∧ (i : Int) ∈ nthr C k := fun i => by
    by_cases hi : i < a.length
    · obtain ⟨k, hk⟩ := h.cov i hi (hd i hi)
      exact ⟨k, fun _ => hk⟩
    · exact ⟨0, fun h => absurd h hi⟩
  obtain ⟨lab, hl⟩ := Classical.skolem.1 h1
  have hu : ∀ k, k < C.length → ∀ x ∈ nthr C k, lab x.toNat = k := fun k hk x hx => by
    obtain ⟨h0, h2, _⟩ := h.mem k hk x hx
    obtain ⟨h3, h4⟩ := hl x.toNat h2
    rw [Int.toNat_of_nonneg h0] at h4
    exact h.dis _ _ h3 hk x h4 hx
  refine ⟨lab, fun i hi => (hl i hi).1, fun k hk x hx => ⟨(h.mem k hk x hx).1, (h.mem k hk x hx).2.1, hu k hk x hx⟩, fun i hi => (hl i hi).2, fun i hi => ?_, h.srt⟩
  exact hu _ (hl i hi).1 _ (by simpa using h.clo _ (hl i hi).1 _ (hl i hi).2)

end Go.Proofs.Ytckopilciekfbaa

