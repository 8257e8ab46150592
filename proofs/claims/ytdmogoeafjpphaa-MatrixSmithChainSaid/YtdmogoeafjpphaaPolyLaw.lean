/- Laurent polynomials by their values: sums, products, and that a trimmed one is known by its values. No program. -/
import Derived.Test.YtdmogoeafjpphaaPermLaw
namespace Go.Proofs.Ytdmogoeafjpphaa
open Go.RowKit Go.Sl

def evL : List Int → Rat → Rat
  | [], _ => 0
  | x :: l, t => (x : Rat) + t * evL l t
def evI : List Int → Int → Int
  | [], _ => 0
  | x :: l, t => x + t * evI l t
def n1 : List Int → Nat
  | [] => 0
  | x :: l => x.natAbs + n1 l
structure LP where
  low : Int
  c : List Int
deriving DecidableEq
def ev (p : LP) (t : Rat) : Rat := t ^ p.low * evL p.c t
structure Trimmed (p : LP) : Prop where
  zero : p.c = [] → p.low = 0
  first : p.c ≠ [] → nth p.c 0 ≠ 0
  last : p.c ≠ [] → nth p.c (p.c.length - 1) ≠ 0
instance (p : LP) : Decidable (Trimmed p) :=
  if h : (p.c = [] → p.low = 0) ∧ (p.c ≠ [] → nth p.c 0 ≠ 0) ∧ (p.c ≠ [] → nth p.c (p.c.length - 1) ≠ 0) then isTrue ⟨h.1, h.2.1, h.2.2⟩ else isFalse fun g => h ⟨g.1, g.2, g.3⟩

theorem evL_int (l : List Int) (n : Int) : evL l (n : Rat) = ((evI l n : Int) : Rat) := by
  induction l with
  | nil => rfl
  | cons x l ih => rw [evL, evI, ih]; simp [Rat.intCast_add, Rat.intCast_mul]
theorem dvd_small {x : Int} (h : ∀ n : Nat, 1 ≤ n → (n : Int) ∣ x) : x = 0 := by
  obtain ⟨k, hk⟩ := h (x.natAbs + 1) (by omega)
  rcases Int.lt_trichotomy k 0 with h1 | h1 | h1
  · have : ((x.natAbs + 1 : Nat) : Int) * k ≤ ((x.natAbs + 1 : Nat) : Int) * (-1) := Int.mul_le_mul_of_nonneg_left (by omega) (by omega)
    omega
  · rw [h1] at hk; simpa using hk
  · have : ((x.natAbs + 1 : Nat) : Int) * 1 ≤ ((x.natAbs + 1 : Nat) : Int) * k := Int.mul_le_mul_of_nonneg_left (by omega) (by omega)
    omega
theorem nth_nil (k : Nat) : nth [] k = 0 := by simp [nth]
theorem nth_cons_zero (x : Int) (l : List Int) : nth (x :: l) 0 = x := by simp [nth]
theorem nth_cons_succ (x : Int) (l : List Int) (k : Nat) : nth (x :: l) (k + 1) = nth l k := by simp [nth]
theorem evI_inj (a : List Int) : ∀ b, (∀ n : Nat, 1 ≤ n → evI a n = evI b n) → ∀ k, nth a k = nth b k := by
  have zero : ∀ b : List Int, (∀ n : Nat, 1 ≤ n → evI b n = 0) → ∀ k, nth b k = 0 := by
    intro b
    induction b with
    | nil => intro _ k; exact nth_nil k
    | cons y b ih =>
      intro h
      have h0 : y = 0 := dvd_small fun n hn => ⟨-(evI b n), by have := h n hn; rw [evI] at this; rw [Int.mul_neg]; omega⟩
      have h1 : ∀ n : Nat, 1 ≤ n → evI b n = 0 := fun n hn => by
        have := h n hn
        rw [evI, h0, Int.zero_add] at this
        rcases Int.mul_eq_zero.1 this with h2 | h2
        · omega
        · exact h2
      intro k
      cases k with
      | zero => rw [nth_cons_zero, h0]
      | succ k => rw [nth_cons_succ, ih h1]
  induction a with
  | nil => intro b h k; rw [nth_nil, zero b (fun n hn => (h n hn).symm) k]
  | cons x a ih =>
    intro b h
    cases b with
    | nil => intro k; rw [nth_nil, zero (x :: a) (fun n hn => h n hn) k]
    | cons y b =>
      have h0 : x - y = 0 := dvd_small fun n hn => ⟨evI b n - evI a n, by have := h n hn; rw [evI, evI] at this; rw [Int.mul_sub]; omega⟩
      have h1 : ∀ n : Nat, 1 ≤ n → evI a n = evI b n := fun n hn => by
        have := h n hn
        rw [evI, evI] at this
        have h2 : (n : Int) * (evI a n - evI b n) = 0 := by rw [Int.mul_sub]; omega
        rcases Int.mul_eq_zero.1 h2 with h3 | h3 <;> omega
      intro k
      cases k with
      | zero => rw [nth_cons_zero, nth_cons_zero]; omega
      | succ k => rw [nth_cons_succ, nth_cons_succ]; exact ih b h1 k

theorem evL_zeros (k : Nat) (l : List Int) (t : Rat) : evL (List.replicate k 0 ++ l) t = t ^ k * evL l t := by
  induction k with
  | zero => simp
  | succ k ih => rw [List.replicate_succ, List.cons_append, evL, ih, Rat.pow_succ]; grind
theorem natCast_ne {n : Nat} (h : 1 ≤ n) : (n : Rat) ≠ 0 := by
  intro e
  have : ((n : Int) : Rat) = ((0 : Int) : Rat) := by simpa using e
  rw [Rat.intCast_inj] at this
  omega
theorem nth_zeros (k : Nat) (l : List Int) (i : Nat) : nth (List.replicate k 0 ++ l) i = if i < k then 0 else nth l (i - k) := by
  unfold nth
  simp only [List.getD_eq_getElem?_getD]
  split
  · rename_i h; rw [List.getElem?_append_left (by simpa using h)]; simp [h]
  · rename_i h; rw [List.getElem?_append_right (by simp; omega)]; simp
theorem nth_ge {l : List Int} {k : Nat} (h : l.length ≤ k) : nth l k = 0 := by simp [nth, h]

theorem ev_inj_le {p q : LP} (hp : Trimmed p) (hq : Trimmed q) (hle : p.low ≤ q.low) (h : ∀ n : Nat, 1 ≤ n → ev p n = ev q n) : p = q := by
  obtain ⟨k, hk⟩ : ∃ k : Nat, q.low = p.low + k := ⟨(q.low - p.low).toNat, by omega⟩
  have h1 : ∀ i, nth p.c i = nth (List.replicate k 0 ++ q.c) i := by
    apply evI_inj
    intro n hn
    have hn0 := natCast_ne hn
    have h2 := h n hn
    rw [ev, ev, hk, Rat.zpow_add hn0, Rat.mul_assoc, Rat.zpow_natCast, ← evL_zeros] at h2
    have h3 : (n : Rat) ^ p.low ≠ 0 := by
      intro e
      have h4 := Rat.zpow_add hn0 p.low (-p.low)
      rw [e, Int.add_right_neg] at h4
      simp at h4
    have h5 : evL p.c n = evL (List.replicate k 0 ++ q.c) n := by
      have h6 := congrArg (((n : Rat) ^ p.low)⁻¹ * ·) h2
      simpa [← Rat.mul_assoc, Rat.inv_mul_cancel _ h3] using h6
    have h7 := evL_int p.c n
    have h8 := evL_int (List.replicate k 0 ++ q.c) n
    simp only [Rat.intCast_natCast] at h7 h8
    rw [h7, h8, Rat.intCast_inj] at h5
    exact h5
  obtain ⟨pl, pc⟩ := p
  obtain ⟨ql, qc⟩ := q
  simp only at hk h1
  by_cases e1 : pc = []
  · subst e1
    have h0 := hp.zero rfl
    by_cases e2 : qc = []
    · subst e2
      have h0' := hq.zero rfl
      simp only at h0 h0'
      rw [h0, h0']
    · have h2 := hq.last e2
      have h3 := h1 (k + (qc.length - 1))
      rw [nth_nil, nth_zeros, if_neg (by omega), Nat.add_sub_cancel_left] at h3
      exact absurd h3.symm h2
  · by_cases e2 : qc = []
    · subst e2
      have h2 := hp.first e1
      have h3 := h1 0
      rw [nth_zeros] at h3
      exact absurd (by rw [h3]; split <;> simp [nth]) h2
    · have hk0 : k = 0 := by
        rcases Nat.eq_zero_or_pos k with h2 | h2
        · exact h2
        · have h3 := h1 0
          rw [nth_zeros, if_pos h2] at h3
          exact absurd h3 (hp.first e1)
      subst hk0
      simp only [List.replicate_zero, List.nil_append] at h1
      have hl : pc.length = qc.length := by
        have a1 : 0 < pc.length := List.length_pos_iff.2 e1
        have a2 : 0 < qc.length := List.length_pos_iff.2 e2
        rcases Nat.lt_trichotomy pc.length qc.length with h2 | h2 | h2
        · exact absurd ((h1 (qc.length - 1)).symm.trans (nth_ge (by omega))) (hq.last e2)
        · exact h2
        · exact absurd ((h1 (pc.length - 1)).trans (nth_ge (by omega))) (hp.last e1)
      have hc : pc = qc := ext_nth hl fun i _ => h1 i
      rw [hc]
      have : pl = ql := by omega
      rw [this]
theorem ev_inj {p q : LP} (hp : Trimmed p) (hq : Trimmed q) (h : ∀ n : Nat, 1 ≤ n → ev p n = ev q n) : p = q := by
  rcases Int.le_total p.low q.low with h1 | h1
  · exact ev_inj_le hp hq h1 h
  · exact (ev_inj_le hq hp h1 fun n hn => (h n hn).symm).symm
/-- A trimmed polynomial is known by its values at all numbers but 0. -/
theorem ev_ext {p q : LP} (hp : Trimmed p) (hq : Trimmed q) (h : ∀ t : Rat, t ≠ 0 → ev p t = ev q t) : p = q := ev_inj hp hq fun n hn => h n (natCast_ne hn)

theorem evL_append (a b : List Int) (t : Rat) : evL (a ++ b) t = evL a t + t ^ a.length * evL b t := by
  induction a with
  | nil => simp [evL, Rat.zero_add]
  | cons x a ih => rw [List.cons_append, evL, evL, ih, List.length_cons, Rat.pow_succ]; grind
theorem evL_zeros_end (l : List Int) (m : Nat) (t : Rat) : evL (l ++ List.replicate m 0) t = evL l t := by
  have h : evL (List.replicate m 0) t = 0 := by
    have := evL_zeros m [] t
    simpa [evL] using this
  rw [evL_append, h]; grind
theorem evL_replicate (m : Nat) (t : Rat) : evL (List.replicate m 0) t = 0 := by
  have := evL_zeros_end [] m t
  simpa [evL] using this
theorem evL_set (l : List Int) (i : Nat) (y : Int) (t : Rat) (h : i < l.length) : evL (l.set i y) t = evL l t + ((y : Rat) - (nth l i : Int)) * t ^ i := by
  induction l generalizing i with
  | nil => simp at h
  | cons x l ih =>
    cases i with
    | zero => rw [List.set_cons_zero, evL, evL, nth_cons_zero]; grind
    | succ i => rw [List.set_cons_succ, evL, evL, nth_cons_succ, ih i (by simpa using h), Rat.pow_succ]; grind
theorem evL_take_succ (l : List Int) (i : Nat) (t : Rat) (h : i < l.length) : evL (l.take (i + 1)) t = evL (l.take i) t + (nth l i : Int) * t ^ i := by
  rw [List.take_succ_eq_append_getElem h, evL_append, nth_lt h, List.length_take, Nat.min_eq_left (by omega), evL, evL]; grind

theorem n1_append (a b : List Int) : n1 (a ++ b) = n1 a + n1 b := by
  induction a with
  | nil => simp [n1]
  | cons x a ih => rw [List.cons_append, n1, n1, ih]; omega
theorem n1_replicate (m : Nat) : n1 (List.replicate m 0) = 0 := by
  induction m with
  | zero => rfl
  | succ m ih => rw [List.replicate_succ, n1, ih]; rfl
theorem n1_set (l : List Int) (i : Nat) (y : Int) (h : i < l.length) : n1 (l.set i y) + (nth l i).natAbs = n1 l + y.natAbs := by
  induction l generalizing i with
  | nil => simp at h
  | cons x l ih =>
    cases i with
    | zero => rw [List.set_cons_zero, n1, n1, nth_cons_zero]; omega
    | succ i => rw [List.set_cons_succ, n1, n1, nth_cons_succ]; have := ih i (by simpa using h); omega
theorem n1_nth (l : List Int) (i : Nat) : (nth l i).natAbs ≤ n1 l := by
  induction l generalizing i with
  | nil => rw [nth_nil]; simp
  | cons x l ih =>
    cases i with
    | zero => rw [nth_cons_zero, n1]; omega
    | succ i => rw [nth_cons_succ, n1]; have := ih i; omega
theorem n1_mem {l : List Int} {x : Int} (h : x ∈ l) : x.natAbs ≤ n1 l := by
  obtain ⟨i, hi, rfl⟩ := List.getElem_of_mem h
  rw [← nth_lt hi]; exact n1_nth l i
theorem n1_take_succ (l : List Int) (i : Nat) (h : i < l.length) : n1 (l.take (i + 1)) = n1 (l.take i) + (nth l i).natAbs := by
  rw [List.take_succ_eq_append_getElem h, n1_append, nth_lt h, n1, n1]; omega
theorem n1_reverse (l : List Int) : n1 l.reverse = n1 l := by
  induction l with
  | nil => rfl
  | cons x l ih => rw [List.reverse_cons, n1_append, ih, n1, n1, n1]; omega
theorem n1_le (l : List Int) (B : Nat) (h : ∀ x ∈ l, x.natAbs ≤ B) : n1 l ≤ l.length * B := by
  induction l with
  | nil => simp [n1]
  | cons x l ih =>
    rw [n1, List.length_cons, Nat.add_mul]
    have h1 := h x (by simp)
    have h2 := ih (fun y hy => h y (by simp [hy]))
    omega
theorem n1_take_le (l : List Int) (i : Nat) : n1 (l.take i) ≤ n1 l := by
  have := n1_append (l.take i) (l.drop i)
  rw [List.take_append_drop] at this; omega

/-- Without the zeros ahead. -/
def dropZ : List Int → List Int
  | [] => []
  | x :: l => if x = 0 then dropZ l else x :: l
def dropE (l : List Int) : List Int := (dropZ l.reverse).reverse
def trimP (low : Int) (c : List Int) : LP :=
  if dropZ c = [] then ⟨0, []⟩ else ⟨low + ((c.length - (dropZ c).length : Nat) : Int), dropE (dropZ c)⟩
theorem dropZ_zeros (l : List Int) : (dropZ l).length ≤ l.length ∧ l = List.replicate (l.length - (dropZ l).length) 0 ++ dropZ l := by
  induction l with
  | nil => simp [dropZ]
  | cons x l ih =>
    rw [dropZ]
    split
    · rename_i h
      subst h
      refine ⟨by simp; omega, ?_⟩
      have e : (0 :: l).length - (dropZ l).length = (l.length - (dropZ l).length) + 1 := by simp; omega
      rw [e, List.replicate_succ, List.cons_append, ← ih.2]
    · simp
theorem dropZ_first {l : List Int} (h : dropZ l ≠ []) : nth (dropZ l) 0 ≠ 0 := by
  induction l with
  | nil => exact absurd rfl h
  | cons x l ih =>
    rw [dropZ] at h ⊢
    split at h
    · rename_i hx; rw [if_pos hx]; exact ih h
    · rename_i hx; rw [if_neg hx, nth_cons_zero]; exact hx
theorem dropE_zeros (l : List Int) : (dropE l).length ≤ l.length ∧ l = dropE l ++ List.replicate (l.length - (dropE l).length) 0 := by
  have h := dropZ_zeros l.reverse
  unfold dropE
  rw [List.length_reverse] at h ⊢
  refine ⟨h.1, ?_⟩
  have h2 := congrArg List.reverse h.2
  rw [List.reverse_reverse, List.reverse_append, List.reverse_replicate] at h2
  exact h2
theorem nth_reverse {l : List Int} {i : Nat} (h : i < l.length) : nth l.reverse i = nth l (l.length - 1 - i) := by
  rw [nth_lt (by simpa using h), nth_lt (by omega), List.getElem_reverse]
theorem dropE_last {l : List Int} (h : dropE l ≠ []) : nth (dropE l) ((dropE l).length - 1) ≠ 0 := by
  have h1 : dropZ l.reverse ≠ [] := fun e => h (by rw [dropE, e]; rfl)
  have h2 := dropZ_first h1
  have hp : 0 < (dropZ l.reverse).length := List.length_pos_iff.2 h1
  unfold dropE
  rw [List.length_reverse, nth_reverse (by omega)]
  rw [show (dropZ l.reverse).length - 1 - ((dropZ l.reverse).length - 1) = 0 by omega]
  exact h2
theorem dropE_first {l : List Int} (h : l ≠ []) (h0 : nth l 0 ≠ 0) : dropE l ≠ [] ∧ nth (dropE l) 0 = nth l 0 := by
  have h1 := (dropE_zeros l).2
  have h2 : dropE l ≠ [] := by
    intro e
    rw [e, List.nil_append] at h1
    apply h0
    rw [h1, nth]
    simp [List.getElem?_replicate]
    split <;> simp
  refine ⟨h2, ?_⟩
  have hp : 0 < (dropE l).length := List.length_pos_iff.2 h2
  conv => rhs; rw [h1]
  rw [nth_lt hp, nth_lt (by simp; omega), List.getElem_append_left hp]
theorem trimP_trimmed (low : Int) (c : List Int) : Trimmed (trimP low c) := by
  unfold trimP
  split
  · exact ⟨fun _ => rfl, fun h => absurd rfl h, fun h => absurd rfl h⟩
  · rename_i h
    have h1 := dropE_first h (dropZ_first h)
    exact ⟨fun e => absurd e h1.1, fun _ => by rw [h1.2]; exact dropZ_first h, fun e => dropE_last e⟩
theorem evL_dropE (l : List Int) (t : Rat) : evL (dropE l) t = evL l t := by
  conv => rhs; rw [(dropE_zeros l).2]
  rw [evL_zeros_end]
theorem ev_trimP (low : Int) (c : List Int) {t : Rat} (h : t ≠ 0) : ev (trimP low c) t = t ^ low * evL c t := by
  have h1 := (dropZ_zeros c).2
  unfold trimP
  split
  · rename_i e
    rw [e, List.append_nil] at h1
    rw [h1, evL_replicate]; simp [ev, evL]
  · rw [ev, evL_dropE, Rat.zpow_add h, Rat.zpow_natCast, Rat.mul_assoc, ← evL_zeros, ← h1]
theorem n1_trimP (low : Int) (c : List Int) : n1 (trimP low c).c ≤ n1 c := by
  have h1 := congrArg n1 (dropZ_zeros c).2
  have h2 := congrArg n1 (dropE_zeros (dropZ c)).2
  rw [n1_append, n1_replicate] at h1 h2
  unfold trimP
  split
  · simp [n1]
  · simp only; omega

/-- The exponents of a polynomial lie from lo on, before hi. -/
def Within (p : LP) (lo hi : Int) : Prop := p.c = [] ∨ (lo ≤ p.low ∧ p.low + p.c.length ≤ hi)
theorem Within.mono {p : LP} {lo hi lo' hi' : Int} (h : Within p lo hi) (h1 : lo' ≤ lo) (h2 : hi ≤ hi') : Within p lo' hi' := by
  rcases h with h | h
  · exact .inl h
  · exact .inr (by omega)
theorem within_self (p : LP) : Within p p.low (p.low + p.c.length) := .inr ⟨Int.le_refl _, Int.le_refl _⟩
theorem within_trimP (low : Int) (c : List Int) : Within (trimP low c) low (low + c.length) := by
  have h1 := (dropZ_zeros c).1
  have h2 := (dropE_zeros (dropZ c)).1
  unfold trimP
  split
  · exact .inl rfl
  · refine .inr ?_; simp only; omega

/-- A trimmed polynomial, met in a list of coefficients. -/
theorem trimP_eq {low : Int} {c : List Int} {p : LP} (hp : Trimmed p) (h : ∀ t : Rat, t ≠ 0 → ev p t = t ^ low * evL c t) : trimP low c = p :=
  ev_ext (trimP_trimmed _ _) hp fun t ht => by rw [ev_trimP low c ht, h t ht]
theorem trimP_self {p : LP} (hp : Trimmed p) : trimP p.low p.c = p := trimP_eq hp fun _ _ => rfl

def addl : List Int → List Int → Int → List Int
  | [], b, k => b.map (k * ·)
  | a, [], _ => a
  | x :: a, y :: b, k => (x + k * y) :: addl a b k
theorem evL_scale (b : List Int) (k : Int) (t : Rat) : evL (b.map (k * ·)) t = k * evL b t := by
  induction b with
  | nil => simp [evL]
  | cons x b ih => rw [List.map_cons, evL, evL, ih, Rat.intCast_mul]; grind
theorem n1_scale (b : List Int) (k : Int) : n1 (b.map (k * ·)) = k.natAbs * n1 b := by
  induction b with
  | nil => simp [n1]
  | cons x b ih => rw [List.map_cons, n1, n1, ih, Int.natAbs_mul, Nat.mul_add]
theorem evL_addl (a b : List Int) (k : Int) (t : Rat) : evL (addl a b k) t = evL a t + k * evL b t := by
  induction a generalizing b with
  | nil => rw [addl, evL_scale, evL]; grind
  | cons x a ih =>
    cases b with
    | nil => rw [addl, evL, evL]; grind; simp
    | cons y b => rw [addl, evL, evL, evL, ih, Rat.intCast_add, Rat.intCast_mul]; grind
theorem n1_addl (a b : List Int) (k : Int) : n1 (addl a b k) ≤ n1 a + k.natAbs * n1 b := by
  induction a generalizing b with
  | nil => rw [addl, n1_scale]; omega
  | cons x a ih =>
    cases b with
    | nil => rw [addl]; omega; simp
    | cons y b =>
      have h1 := ih b
      have h2 := Int.natAbs_add_le x (k * y)
      rw [Int.natAbs_mul] at h2
      rw [addl, n1, n1, n1, Nat.mul_add]; omega
theorem addl_length (a b : List Int) (k : Int) : (addl a b k).length = max a.length b.length := by
  induction a generalizing b with
  | nil => simp [addl]
  | cons x a ih =>
    cases b with
    | nil => rw [addl]; simp; simp
    | cons y b => rw [addl, List.length_cons, ih, List.length_cons, List.length_cons]; omega

def shiftl (k : Nat) (l : List Int) : List Int := List.replicate k 0 ++ l
/-- a + k b. -/
def padd (a b : LP) (k : Int) : LP :=
  if a.c = [] then trimP b.low (b.c.map (k * ·)) else if b.c = [] then trimP a.low a.c else
  trimP (min a.low b.low) (addl (shiftl (a.low - min a.low b.low).toNat a.c) (shiftl (b.low - min a.low b.low).toNat b.c) k)
theorem padd_trimmed (a b : LP) (k : Int) : Trimmed (padd a b k) := by
  unfold padd
  split
  · exact trimP_trimmed _ _
  · split <;> exact trimP_trimmed _ _
theorem pow_shift {t : Rat} (ht : t ≠ 0) {lo x : Int} (h : lo ≤ x) (r : Rat) : t ^ lo * (t ^ (x - lo).toNat * r) = t ^ x * r := by
  rw [← Rat.mul_assoc, ← Rat.zpow_natCast, ← Rat.zpow_add ht]
  congr 2
  omega
theorem ev_padd (a b : LP) (k : Int) {t : Rat} (ht : t ≠ 0) : ev (padd a b k) t = ev a t + k * ev b t := by
  unfold padd
  split
  · rename_i h
    rw [ev_trimP _ _ ht, evL_scale, ev, ev, h, evL]; grind
  · split
    · rename_i h
      rw [ev_trimP _ _ ht, ev, ev, h, evL]; grind
    · have h1 := pow_shift ht (Int.min_le_left a.low b.low) (evL a.c t)
      have h2 := pow_shift ht (Int.min_le_right a.low b.low) (evL b.c t)
      rw [ev_trimP _ _ ht, evL_addl, shiftl, shiftl, evL_zeros, evL_zeros, ev, ev, ← h1, ← h2]
      grind
theorem n1_padd (a b : LP) (k : Int) : n1 (padd a b k).c ≤ n1 a.c + k.natAbs * n1 b.c := by
  unfold padd
  split
  · have := n1_trimP b.low (b.c.map (k * ·)); rw [n1_scale] at this; omega
  · split
    · have := n1_trimP a.low a.c; omega
    · have h1 := n1_trimP (min a.low b.low) (addl (shiftl (a.low - min a.low b.low).toNat a.c) (shiftl (b.low - min a.low b.low).toNat b.c) k)
      have h2 := n1_addl (shiftl (a.low - min a.low b.low).toNat a.c) (shiftl (b.low - min a.low b.low).toNat b.c) k
      have h3 : ∀ m l, n1 (shiftl m l) = n1 l := fun m l => by rw [shiftl, n1_append, n1_replicate, Nat.zero_add]
      rw [h3, h3] at h2
      omega
theorem within_padd {a b : LP} {lo hi : Int} (ha : Within a lo hi) (hb : Within b lo hi) (k : Int) : Within (padd a b k) lo hi := by
  unfold padd
  split
  · rcases hb with h | h
    · rw [h]; exact .inl rfl
    · exact (within_trimP _ _).mono h.1 (by rw [List.length_map]; exact h.2)
  · rename_i h0
    rcases ha with h | h
    · exact absurd h h0
    · split
      · exact (within_trimP _ _).mono h.1 h.2
      · rename_i h1
        rcases hb with h2 | h2
        · exact absurd h2 h1
        · refine (within_trimP _ _).mono (by omega) ?_
          rw [addl_length]; simp only [shiftl, List.length_append, List.length_replicate]; omega

def mull : List Int → List Int → List Int
  | [], _ => []
  | x :: a, b => addl (0 :: mull a b) b x
theorem evL_mull (a b : List Int) (t : Rat) : evL (mull a b) t = evL a t * evL b t := by
  induction a with
  | nil => simp [mull, evL]
  | cons x a ih => rw [mull, evL_addl, evL, ih, evL]; grind
theorem n1_mull (a b : List Int) : n1 (mull a b) ≤ n1 a * n1 b := by
  induction a with
  | nil => simp [mull, n1]
  | cons x a ih =>
    have h := n1_addl (0 :: mull a b) b x
    rw [n1] at h
    rw [mull, n1, Nat.add_mul]; simp at h; omega
theorem mull_length (a b : List Int) (ha : a ≠ []) (hb : b ≠ []) : (mull a b).length = a.length + b.length - 1 := by
  have hp : 0 < b.length := List.length_pos_iff.2 hb
  induction a with
  | nil => exact absurd rfl ha
  | cons x a ih =>
    rw [mull, addl_length, List.length_cons, List.length_cons]
    by_cases h : a = []
    · subst h; simp [mull]; omega
    · have h2 : 0 < a.length := List.length_pos_iff.2 h
      rw [ih h]; omega
def pmul (a b : LP) : LP := trimP (a.low + b.low) (mull a.c b.c)
theorem pmul_trimmed (a b : LP) : Trimmed (pmul a b) := trimP_trimmed _ _
theorem ev_pmul (a b : LP) {t : Rat} (ht : t ≠ 0) : ev (pmul a b) t = ev a t * ev b t := by
  rw [pmul, ev_trimP _ _ ht, evL_mull, Rat.zpow_add ht, ev, ev]; grind
theorem n1_pmul (a b : LP) : n1 (pmul a b).c ≤ n1 a.c * n1 b.c := Nat.le_trans (n1_trimP _ _) (n1_mull _ _)
theorem mull_nil (a : List Int) : evL (mull a []) = fun _ => 0 := by
  funext t; rw [evL_mull]; simp [evL]
theorem within_pmul {a b : LP} {lo hi lo' hi' : Int} (ha : Within a lo hi) (hb : Within b lo' hi') : Within (pmul a b) (lo + lo') (hi + hi' - 1) := by
  have hz : ∀ c : List Int, (∀ t, evL c t = 0) → (trimP (a.low + b.low) c).c = [] := fun c h => by
    have : trimP (a.low + b.low) c = ⟨0, []⟩ := trimP_eq ⟨fun _ => rfl, fun h => absurd rfl h, fun h => absurd rfl h⟩ fun t _ => by rw [h]; simp [ev, evL]
    rw [this]
  rcases ha with h | h
  · exact .inl (hz _ fun t => by rw [evL_mull, h]; simp [evL])
  · rcases hb with h2 | h2
    · exact .inl (hz _ fun t => by rw [evL_mull, h2]; simp [evL])
    · by_cases e1 : a.c = []
      · exact .inl (hz _ fun t => by rw [evL_mull, e1]; simp [evL])
      · by_cases e2 : b.c = []
        · exact .inl (hz _ fun t => by rw [evL_mull, e2]; simp [evL])
        · refine (within_trimP _ _).mono (by omega) ?_
          have p1 : 0 < a.c.length := List.length_pos_iff.2 e1
          have p2 : 0 < b.c.length := List.length_pos_iff.2 e2
          rw [mull_length _ _ e1 e2]; omega

theorem rpow_add (t : Rat) (m n : Nat) : t ^ (m + n) = t ^ m * t ^ n := by
  induction n with
  | zero => simp
  | succ n ih => rw [← Nat.add_assoc, Rat.pow_succ, Rat.pow_succ, ih, Rat.mul_assoc]
theorem ev_step {cs A : List Int} {d j : Nat} {k : Int} {f : Rat → Rat} (h : ∀ t, evL cs t = f t + k * (t ^ d * evL (A.take j) t)) (h1 : d + j < cs.length) (h2 : j < A.length) (t : Rat) :
    evL (cs.set (d + j) (nth cs (d + j) + k * nth A j)) t = f t + k * (t ^ d * evL (A.take (j + 1)) t) := by
  rw [evL_set _ _ _ _ h1, evL_take_succ _ _ _ h2, h, Rat.intCast_add, Rat.intCast_mul, rpow_add]; grind
theorem ev_step1 {cs A : List Int} {d j : Nat} (h : ∀ t, evL cs t = t ^ d * evL (A.take j) t) (h1 : d + j < cs.length) (h2 : j < A.length) (t : Rat) :
    evL (cs.set (d + j) (nth cs (d + j) + nth A j)) t = t ^ d * evL (A.take (j + 1)) t := by
  rw [evL_set _ _ _ _ h1, evL_take_succ _ _ _ h2, h, Rat.intCast_add, rpow_add]; grind
theorem ev_start (u x r : Rat) (l : List Int) (t : Rat) : u = u + x * (r * evL (l.take 0) t) := by
  simp only [List.take_zero, evL]; grind
theorem n1_step {cs : List Int} {i : Nat} {x : Int} {m : Nat} (h : n1 cs ≤ m) (h1 : i < cs.length) : n1 (cs.set i (nth cs i + x)) ≤ m + x.natAbs := by
  have := n1_set cs i (nth cs i + x) h1
  have := Int.natAbs_add_le (nth cs i) x
  omega

def pterm (c e : Int) : LP := trimP e [c]
theorem pterm_trimmed (c e : Int) : Trimmed (pterm c e) := trimP_trimmed _ _
theorem ev_pterm (c e : Int) {t : Rat} (ht : t ≠ 0) : ev (pterm c e) t = c * t ^ e := by
  rw [pterm, ev_trimP _ _ ht, evL, evL]; grind
theorem n1_pterm (c e : Int) : n1 (pterm c e).c ≤ c.natAbs := by have := n1_trimP e [c]; simpa [n1, pterm] using this
theorem within_pterm (c e : Int) : Within (pterm c e) e (e + 1) := within_trimP _ _
def pzero : LP := ⟨0, []⟩
theorem pzero_trimmed : Trimmed pzero := ⟨fun _ => rfl, fun h => absurd rfl h, fun h => absurd rfl h⟩
theorem ev_pzero (t : Rat) : ev pzero t = 0 := by simp [ev, evL, pzero]
theorem within_pzero (lo hi : Int) : Within pzero lo hi := .inl rfl

end Go.Proofs.Ytdmogoeafjpphaa
