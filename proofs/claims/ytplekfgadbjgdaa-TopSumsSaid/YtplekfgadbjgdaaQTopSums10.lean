/- slices.Sort and IsSorted of at most twelve numbers, walked. -/
import Derived.Test.YtplekfgadbjgdaaQTopSums0
import Derived.Test.YtplekfgadbjgdaaQTopSums1
import Derived.Test.YtplekfgadbjgdaaQTopSums3
import Derived.Test.YtplekfgadbjgdaaQTopSums5
import Derived.Test.YtplekfgadbjgdaaQTopSums8
import Derived.Lib.SliceRun
import Derived.ArgAppend
import Derived.Deep.RegionHeld3
import Derived.KernelRfl
import Derived.Deep.RegionLaw
namespace Go.Proofs.Ytplekfgadbjgdaa
open Go.RowKit Go.Sl

def iota (n : Nat) : List Int := (List.range n).map Int.ofNat
theorem iota_length (n : Nat) : (iota n).length = n := by simp [iota]
theorem nth_iota (n k : Nat) (h : k < n) : nth (iota n) k = k := by rw [nth_lt (by rw [iota_length]; exact h)]; simp [iota]
theorem mem_iota {n : Nat} {x : Int} : x ∈ iota n ↔ 0 ≤ x ∧ x < n := by
  simp only [iota, List.mem_map, List.mem_range]
  constructor
  · rintro ⟨a, h, rfl⟩; simp; omega
  · rintro ⟨h1, h2⟩; exact ⟨x.toNat, by omega, by simp; omega⟩
theorem iota_nodup (n : Nat) : (iota n).Nodup := by
  unfold iota
  rw [List.nodup_iff_pairwise_ne] at *
  rw [List.pairwise_map]
  refine List.Pairwise.imp ?_ List.nodup_range
  intro a b h e
  exact h (Int.ofNat.inj e)
theorem ext_nth {xs ys : List Int} (hl : xs.length = ys.length) (h : ∀ k, k < xs.length → nth xs k = nth ys k) : xs = ys := by
  apply List.ext_getElem hl
  intro j h1 h2
  have := h j h1
  rwa [nth_lt h1, nth_lt h2] at this

def thenL (a b : List Int) : List Int := a.map fun x => nth b x.toNat
theorem thenL_length (a b : List Int) : (thenL a b).length = a.length := by simp [thenL]
theorem nth_thenL (a b : List Int) (k : Nat) (h : k < a.length) : nth (thenL a b) k = nth b (nth a k).toNat := by
  rw [nth_lt (by rw [thenL_length]; exact h)]; simp [thenL, nth_lt h]

/-- A permutation of small degree, as a list. -/
structure IsPerm (xs : List Int) : Prop where
  perm : xs.Perm (iota xs.length)
  small : xs.length ≤ 1000
theorem IsPerm.range {xs : List Int} (h : IsPerm xs) : ∀ x ∈ xs, 0 ≤ x ∧ x < xs.length := fun _ hx => mem_iota.1 (h.perm.mem_iff.1 hx)
theorem IsPerm.nodup {xs : List Int} (h : IsPerm xs) : xs.Nodup := h.perm.nodup_iff.2 (iota_nodup _)
theorem IsPerm.hit {xs : List Int} (h : IsPerm xs) {k : Nat} (hk : k < xs.length) : ∃ j, j < xs.length ∧ nth xs j = k := by
  have : (k : Int) ∈ xs := h.perm.mem_iff.2 (mem_iota.2 ⟨by omega, by omega⟩)
  obtain ⟨j, hj, he⟩ := List.getElem_of_mem this
  exact ⟨j, hj, by rw [nth_lt hj]; exact he⟩
theorem isPerm_iota {n : Nat} (h : n ≤ 1000) : IsPerm (iota n) := ⟨by rw [iota_length], by rw [iota_length]; exact h⟩

theorem thenL_iota (b : List Int) : thenL (iota b.length) b = b := by
  apply ext_nth (by rw [thenL_length, iota_length])
  intro k hk
  rw [thenL_length, iota_length] at hk
  rw [nth_thenL _ _ _ (by rw [iota_length]; exact hk), nth_iota _ _ hk]; simp
theorem iota_thenL {a : List Int} (h : ∀ x ∈ a, 0 ≤ x ∧ x < a.length) : thenL a (iota a.length) = a := by
  apply ext_nth (by rw [thenL_length])
  intro k hk
  rw [thenL_length] at hk
  have := h _ (nth_mem hk)
  rw [nth_thenL _ _ _ hk, nth_iota _ _ (by omega)]; omega
theorem IsPerm.then {a b : List Int} (ha : IsPerm a) (hb : IsPerm b) (hl : a.length = b.length) : IsPerm (thenL a b) := by
  refine ⟨?_, by rw [thenL_length]; exact ha.small⟩
  rw [thenL_length, hl]
  have h1 : (thenL a b).Perm (thenL (iota a.length) b) := ha.perm.map _
  rw [hl, thenL_iota] at h1
  exact h1.trans hb.perm

/-- The first k numbers of a permutation written at their places. -/
def backTo (xs : List Int) (k : Nat) : List Int := (List.range k).foldl (fun acc i => acc.set (nth xs i).toNat i) (List.replicate xs.length 0)
def backL (xs : List Int) : List Int := backTo xs xs.length
theorem backTo_succ (xs : List Int) (k : Nat) : backTo xs (k + 1) = (backTo xs k).set (nth xs k).toNat k := by
  simp [backTo, List.range_succ]
theorem backTo_length (xs : List Int) (k : Nat) : (backTo xs k).length = xs.length := by
  induction k with
  | zero => simp [backTo]
  | succ k ih => rw [backTo_succ]; simp [ih]
theorem backL_length (xs : List Int) : (backL xs).length = xs.length := backTo_length _ _
theorem nth_set_same {xs : List Int} {k : Nat} (x : Int) (h : k < xs.length) : nth (xs.set k x) k = x := by
  rw [nth_lt (by simpa using h)]; simp
theorem nth_set_other {xs : List Int} {k j : Nat} (x : Int) (h : k ≠ j) : nth (xs.set k x) j = nth xs j := by
  simp [nth, List.getElem?_set_ne h]
theorem IsPerm.inj {xs : List Int} (h : IsPerm xs) {i j : Nat} (hi : i < xs.length) (hj : j < xs.length) (e : nth xs i = nth xs j) : i = j := by
  rw [nth_lt hi, nth_lt hj] at e
  exact (List.getElem_inj h.nodup).1 e
theorem backTo_hit {xs : List Int} (h : IsPerm xs) (k : Nat) (hk : k ≤ xs.length) : ∀ j, j < k → nth (backTo xs k) (nth xs j).toNat = j := by
  induction k with
  | zero => intro j hj; omega
  | succ k ih =>
    intro j hj
    have hrk := h.range _ (nth_mem (xs := xs) (k := k) (by omega))
    rw [backTo_succ]
    rcases Nat.lt_or_ge j k with h1 | h1
    · have hrj := h.range _ (nth_mem (xs := xs) (k := j) (by omega))
      rw [nth_set_other _ (fun e => by
        have := h.inj (i := k) (j := j) (by omega) (by omega) (by omega)
        omega)]
      exact ih (by omega) j h1
    · have e : j = k := by omega
      subst e
      rw [nth_set_same _ (by rw [backTo_length]; omega)]
theorem then_back {xs : List Int} (h : IsPerm xs) : thenL xs (backL xs) = iota xs.length := by
  apply ext_nth (by rw [thenL_length, iota_length])
  intro k hk
  rw [thenL_length] at hk
  rw [nth_thenL _ _ _ hk, nth_iota _ _ hk]
  exact backTo_hit h _ (Nat.le_refl _) k hk
theorem IsPerm.back {xs : List Int} (h : IsPerm xs) : IsPerm (backL xs) := by
  refine ⟨?_, by rw [backL_length]; exact h.small⟩
  have h1 : (thenL xs (backL xs)).Perm (thenL (iota xs.length) (backL xs)) := h.perm.map _
  rw [then_back h] at h1
  have h2 := thenL_iota (backL xs)
  rw [backL_length] at h2 ⊢
  rw [h2] at h1
  exact h1.symm

/-! ### The maker of permutations -/
end Go.Proofs.Ytplekfgadbjgdaa

namespace Go.Proofs.Ytplekfgadbjgdaa
open Go.RowKit Go.Sl

def evL : List Int → Rat → Rat
  | [], _ => 0
  | x :: l, t => (x : Rat) + t * evL l t
def evI : List Int → Int → Int
  | [], _ => 0
  | x :: l, t => x + t * evI l t
def n1 : List Int → Nat
  | [] => 0
  | x :: l => x.natAbs + n1 l
structure LP where
  low : Int
  c : List Int
deriving DecidableEq
def ev (p : LP) (t : Rat) : Rat := t ^ p.low * evL p.c t
structure Trimmed (p : LP) : Prop where
  zero : p.c = [] → p.low = 0
  first : p.c ≠ [] → nth p.c 0 ≠ 0
  last : p.c ≠ [] → nth p.c (p.c.length - 1) ≠ 0
instance (p : LP) : Decidable (Trimmed p) :=
  if h : (p.c = [] → p.low = 0) ∧ (p.c ≠ [] → nth p.c 0 ≠ 0) ∧ (p.c ≠ [] → nth p.c (p.c.length - 1) ≠ 0) then isTrue ⟨h.1, h.2.1, h.2.2⟩ else isFalse fun g => h ⟨g.1, g.2, g.3⟩

theorem evL_int (l : List Int) (n : Int) : evL l (n : Rat) = ((evI l n : Int) : Rat) := by
  induction l with
  | nil => rfl
  | cons x l ih => rw [evL, evI, ih]; simp [Rat.intCast_add, Rat.intCast_mul]
theorem dvd_small {x : Int} (h : ∀ n : Nat, 1 ≤ n → (n : Int) ∣ x) : x = 0 := by
  obtain ⟨k, hk⟩ := h (x.natAbs + 1) (by omega)
  rcases Int.lt_trichotomy k 0 with h1 | h1 | h1
  · have : ((x.natAbs + 1 : Nat) : Int) * k ≤ ((x.natAbs + 1 : Nat) : Int) * (-1) := Int.mul_le_mul_of_nonneg_left (by omega) (by omega)
    omega
  · rw [h1] at hk; simpa using hk
  · have : ((x.natAbs + 1 : Nat) : Int) * 1 ≤ ((x.natAbs + 1 : Nat) : Int) * k := Int.mul_le_mul_of_nonneg_left (by omega) (by omega)
    omega
theorem nth_nil (k : Nat) : nth [] k = 0 := by simp [nth]
theorem nth_cons_zero (x : Int) (l : List Int) : nth (x :: l) 0 = x := by simp [nth]
theorem nth_cons_succ (x : Int) (l : List Int) (k : Nat) : nth (x :: l) (k + 1) = nth l k := by simp [nth]
theorem evI_inj (a : List Int) : ∀ b, (∀ n : Nat, 1 ≤ n → evI a n = evI b n) → ∀ k, nth a k = nth b k := by
  have zero : ∀ b : List Int, (∀ n : Nat, 1 ≤ n → evI b n = 0) → ∀ k, nth b k = 0 := by
    intro b
    induction b with
    | nil => intro _ k; exact nth_nil k
    | cons y b ih =>
      intro h
      have h0 : y = 0 := dvd_small fun n hn => ⟨-(evI b n), by have := h n hn; rw [evI] at this; rw [Int.mul_neg]; omega⟩
      have h1 : ∀ n : Nat, 1 ≤ n → evI b n = 0 := fun n hn => by
        have := h n hn
        rw [evI, h0, Int.zero_add] at this
        rcases Int.mul_eq_zero.1 this with h2 | h2
        · omega
        · exact h2
      intro k
      cases k with
      | zero => rw [nth_cons_zero, h0]
      | succ k => rw [nth_cons_succ, ih h1]
  induction a with
  | nil => intro b h k; rw [nth_nil, zero b (fun n hn => (h n hn).symm) k]
  | cons x a ih =>
    intro b h
    cases b with
    | nil => intro k; rw [nth_nil, zero (x :: a) (fun n hn => h n hn) k]
    | cons y b =>
      have h0 : x - y = 0 := dvd_small fun n hn => ⟨evI b n - evI a n, by have := h n hn; rw [evI, evI] at this; rw [Int.mul_sub]; omega⟩
      have h1 : ∀ n : Nat, 1 ≤ n → evI a n = evI b n := fun n hn => by
        have := h n hn
        rw [evI, evI] at this
        have h2 : (n : Int) * (evI a n - evI b n) = 0 := by rw [Int.mul_sub]; omega
        rcases Int.mul_eq_zero.1 h2 with h3 | h3 <;> omega
      intro k
      cases k with
      | zero => rw [nth_cons_zero, nth_cons_zero]; omega
      | succ k => rw [nth_cons_succ, nth_cons_succ]; exact ih b h1 k

theorem evL_zeros (k : Nat) (l : List Int) (t : Rat) : evL (List.replicate k 0 ++ l) t = t ^ k * evL l t := by
  induction k with
  | zero => simp
  | succ k ih => rw [List.replicate_succ, List.cons_append, evL, ih, Rat.pow_succ]; grind
theorem natCast_ne {n : Nat} (h : 1 ≤ n) : (n : Rat) ≠ 0 := by
  intro e
  have : ((n : Int) : Rat) = ((0 : Int) : Rat) := by simpa using e
  rw [Rat.intCast_inj] at this
  omega
theorem nth_zeros (k : Nat) (l : List Int) (i : Nat) : nth (List.replicate k 0 ++ l) i = if i < k then 0 else nth l (i - k) := by
  unfold nth
  simp only [List.getD_eq_getElem?_getD]
  split
  · rename_i h; rw [List.getElem?_append_left (by simpa using h)]; simp [h]
  · rename_i h; rw [List.getElem?_append_right (by simp; omega)]; simp
theorem nth_ge {l : List Int} {k : Nat} (h : l.length ≤ k) : nth l k = 0 := by simp [nth, h]

theorem ev_inj_le {p q : LP} (hp : Trimmed p) (hq : Trimmed q) (hle : p.low ≤ q.low) (h : ∀ n : Nat, 1 ≤ n → ev p n = ev q n) : p = q := by
  obtain ⟨k, hk⟩ : ∃ k : Nat, q.low = p.low + k := ⟨(q.low - p.low).toNat, by omega⟩
  have h1 : ∀ i, nth p.c i = nth (List.replicate k 0 ++ q.c) i := by
    apply evI_inj
    intro n hn
    have hn0 := natCast_ne hn
    have h2 := h n hn
    rw [ev, ev, hk, Rat.zpow_add hn0, Rat.mul_assoc, Rat.zpow_natCast, ← evL_zeros] at h2
    have h3 : (n : Rat) ^ p.low ≠ 0 := by
      intro e
      have h4 := Rat.zpow_add hn0 p.low (-p.low)
      rw [e, Int.add_right_neg] at h4
      simp at h4
    have h5 : evL p.c n = evL (List.replicate k 0 ++ q.c) n := by
      have h6 := congrArg (((n : Rat) ^ p.low)⁻¹ * ·) h2
      simpa [← Rat.mul_assoc, Rat.inv_mul_cancel _ h3] using h6
    have h7 := evL_int p.c n
    have h8 := evL_int (List.replicate k 0 ++ q.c) n
    simp only [Rat.intCast_natCast] at h7 h8
    rw [h7, h8, Rat.intCast_inj] at h5
    exact h5
  obtain ⟨pl, pc⟩ := p
  obtain ⟨ql, qc⟩ := q
  simp only at hk h1
  by_cases e1 : pc = []
  · subst e1
    have h0 := hp.zero rfl
    by_cases e2 : qc = []
    · subst e2
      have h0' := hq.zero rfl
      simp only at h0 h0'
      rw [h0, h0']
    · have h2 := hq.last e2
      have h3 := h1 (k + (qc.length - 1))
      rw [nth_nil, nth_zeros, if_neg (by omega), Nat.add_sub_cancel_left] at h3
      exact absurd h3.symm h2
  · by_cases e2 : qc = []
    · subst e2
      have h2 := hp.first e1
      have h3 := h1 0
      rw [nth_zeros] at h3
      exact absurd (by rw [h3]; split <;> simp [nth]) h2
    · have hk0 : k = 0 := by
        rcases Nat.eq_zero_or_pos k with h2 | h2
        · exact h2
        · have h3 := h1 0
          rw [nth_zeros, if_pos h2] at h3
          exact absurd h3 (hp.first e1)
      subst hk0
      simp only [List.replicate_zero, List.nil_append] at h1
      have hl : pc.length = qc.length := by
        have a1 : 0 < pc.length := List.length_pos_iff.2 e1
        have a2 : 0 < qc.length := List.length_pos_iff.2 e2
        rcases Nat.lt_trichotomy pc.length qc.length with h2 | h2 | h2
        · exact absurd ((h1 (qc.length - 1)).symm.trans (nth_ge (by omega))) (hq.last e2)
        · exact h2
        · exact absurd ((h1 (pc.length - 1)).trans (nth_ge (by omega))) (hp.last e1)
      have hc : pc = qc := ext_nth hl fun i _ => h1 i
      rw [hc]
      have : pl = ql := by omega
      rw [this]
theorem ev_inj {p q : LP} (hp : Trimmed p) (hq : Trimmed q) (h : ∀ n : Nat, 1 ≤ n → ev p n = ev q n) : p = q := by
  rcases Int.le_total p.low q.low with h1 | h1
  · exact ev_inj_le hp hq h1 h
  · exact (ev_inj_le hq hp h1 fun n hn => (h n hn).symm).symm
/-- A trimmed polynomial is known by its values at all numbers but 0. -/
theorem ev_ext {p q : LP} (hp : Trimmed p) (hq : Trimmed q) (h : ∀ t : Rat, t ≠ 0 → ev p t = ev q t) : p = q := ev_inj hp hq fun n hn => h n (natCast_ne hn)

theorem evL_append (a b : List Int) (t : Rat) : evL (a ++ b) t = evL a t + t ^ a.length * evL b t := by
  induction a with
  | nil => simp [evL, Rat.zero_add]
  | cons x a ih => rw [List.cons_append, evL, evL, ih, List.length_cons, Rat.pow_succ]; grind
theorem evL_zeros_end (l : List Int) (m : Nat) (t : Rat) : evL (l ++ List.replicate m 0) t = evL l t := by
  have h : evL (List.replicate m 0) t = 0 := by
    have := evL_zeros m [] t
    simpa [evL] using this
  rw [evL_append, h]; grind
theorem evL_replicate (m : Nat) (t : Rat) : evL (List.replicate m 0) t = 0 := by
  have := evL_zeros_end [] m t
  simpa [evL] using this
theorem evL_set (l : List Int) (i : Nat) (y : Int) (t : Rat) (h : i < l.length) : evL (l.set i y) t = evL l t + ((y : Rat) - (nth l i : Int)) * t ^ i := by
  induction l generalizing i with
  | nil => simp at h
  | cons x l ih =>
    cases i with
    | zero => rw [List.set_cons_zero, evL, evL, nth_cons_zero]; grind
    | succ i => rw [List.set_cons_succ, evL, evL, nth_cons_succ, ih i (by simpa using h), Rat.pow_succ]; grind
theorem evL_take_succ (l : List Int) (i : Nat) (t : Rat) (h : i < l.length) : evL (l.take (i + 1)) t = evL (l.take i) t + (nth l i : Int) * t ^ i := by
  rw [List.take_succ_eq_append_getElem h, evL_append, nth_lt h, List.length_take, Nat.min_eq_left (by omega), evL, evL]; grind

theorem n1_append (a b : List Int) : n1 (a ++ b) = n1 a + n1 b := by
  induction a with
  | nil => simp [n1]
  | cons x a ih => rw [List.cons_append, n1, n1, ih]; omega
theorem n1_replicate (m : Nat) : n1 (List.replicate m 0) = 0 := by
  induction m with
  | zero => rfl
  | succ m ih => rw [List.replicate_succ, n1, ih]; rfl
theorem n1_set (l : List Int) (i : Nat) (y : Int) (h : i < l.length) : n1 (l.set i y) + (nth l i).natAbs = n1 l + y.natAbs := by
  induction l generalizing i with
  | nil => simp at h
  | cons x l ih =>
    cases i with
    | zero => rw [List.set_cons_zero, n1, n1, nth_cons_zero]; omega
    | succ i => rw [List.set_cons_succ, n1, n1, nth_cons_succ]; have := ih i (by simpa using h); omega
theorem n1_nth (l : List Int) (i : Nat) : (nth l i).natAbs ≤ n1 l := by
  induction l generalizing i with
  | nil => rw [nth_nil]; simp
  | cons x l ih =>
    cases i with
    | zero => rw [nth_cons_zero, n1]; omega
    | succ i => rw [nth_cons_succ, n1]; have := ih i; omega
theorem n1_mem {l : List Int} {x : Int} (h : x ∈ l) : x.natAbs ≤ n1 l := by
  obtain ⟨i, hi, rfl⟩ := List.getElem_of_mem h
  rw [← nth_lt hi]; exact n1_nth l i
theorem n1_take_succ (l : List Int) (i : Nat) (h : i < l.length) : n1 (l.take (i + 1)) = n1 (l.take i) + (nth l i).natAbs := by
  rw [List.take_succ_eq_append_getElem h, n1_append, nth_lt h, n1, n1]; omega
theorem n1_reverse (l : List Int) : n1 l.reverse = n1 l := by
  induction l with
  | nil => rfl
  | cons x l ih => rw [List.reverse_cons, n1_append, ih, n1, n1, n1]; omega
theorem n1_le (l : List Int) (B : Nat) (h : ∀ x ∈ l, x.natAbs ≤ B) : n1 l ≤ l.length * B := by
  induction l with
  | nil => simp [n1]
  | cons x l ih =>
    rw [n1, List.length_cons, Nat.add_mul]
    have h1 := h x (by simp)
    have h2 := ih (fun y hy => h y (by simp [hy]))
    omega
theorem n1_take_le (l : List Int) (i : Nat) : n1 (l.take i) ≤ n1 l := by
  have := n1_append (l.take i) (l.drop i)
  rw [List.take_append_drop] at this; omega

/-- Without the zeros ahead. -/
def dropZ : List Int → List Int
  | [] => []
  | x :: l => if x = 0 then dropZ l else x :: l
def dropE (l : List Int) : List Int := (dropZ l.reverse).reverse
def trimP (low : Int) (c : List Int) : LP :=
  if dropZ c = [] then ⟨0, []⟩ else ⟨low + ((c.length - (dropZ c).length : Nat) : Int), dropE (dropZ c)⟩
theorem dropZ_zeros (l : List Int) : (dropZ l).length ≤ l.length ∧ l = List.replicate (l.length - (dropZ l).length) 0 ++ dropZ l := by
  induction l with
  | nil => simp [dropZ]
  | cons x l ih =>
    rw [dropZ]
    split
    · rename_i h
      subst h
      refine ⟨by simp; omega, ?_⟩
      have e : (0 :: l).length - (dropZ l).length = (l.length - (dropZ l).length) + 1 := by simp; omega
      rw [e, List.replicate_succ, List.cons_append, ← ih.2]
    · simp
theorem dropZ_first {l : List Int} (h : dropZ l ≠ []) : nth (dropZ l) 0 ≠ 0 := by
  induction l with
  | nil => exact absurd rfl h
  | cons x l ih =>
    rw [dropZ] at h ⊢
    split at h
    · rename_i hx; rw [if_pos hx]; exact ih h
    · rename_i hx; rw [if_neg hx, nth_cons_zero]; exact hx
theorem dropE_zeros (l : List Int) : (dropE l).length ≤ l.length ∧ l = dropE l ++ List.replicate (l.length - (dropE l).length) 0 := by
  have h := dropZ_zeros l.reverse
  unfold dropE
  rw [List.length_reverse] at h ⊢
  refine ⟨h.1, ?_⟩
  have h2 := congrArg List.reverse h.2
  rw [List.reverse_reverse, List.reverse_append, List.reverse_replicate] at h2
  exact h2
theorem nth_reverse {l : List Int} {i : Nat} (h : i < l.length) : nth l.reverse i = nth l (l.length - 1 - i) := by
  rw [nth_lt (by simpa using h), nth_lt (by omega), List.getElem_reverse]
theorem dropE_last {l : List Int} (h : dropE l ≠ []) : nth (dropE l) ((dropE l).length - 1) ≠ 0 := by
  have h1 : dropZ l.reverse ≠ [] := fun e => h (by rw [dropE, e]; rfl)
  have h2 := dropZ_first h1
  have hp : 0 < (dropZ l.reverse).length := List.length_pos_iff.2 h1
  unfold dropE
  rw [List.length_reverse, nth_reverse (by omega)]
  rw [show (dropZ l.reverse).length - 1 - ((dropZ l.reverse).length - 1) = 0 by omega]
  exact h2
theorem dropE_first {l : List Int} (_h : l ≠ []) (h0 : nth l 0 ≠ 0) : dropE l ≠ [] ∧ nth (dropE l) 0 = nth l 0 := by
  have h1 := (dropE_zeros l).2
  have h2 : dropE l ≠ [] := by
    intro e
    rw [e, List.nil_append] at h1
    apply h0
    rw [h1, nth]
    simp [List.getElem?_replicate]
    split <;> simp
  refine ⟨h2, ?_⟩
  have hp : 0 < (dropE l).length := List.length_pos_iff.2 h2
  conv => rhs; rw [h1]
  rw [nth_lt hp, nth_lt (by simp; omega), List.getElem_append_left hp]
theorem trimP_trimmed (low : Int) (c : List Int) : Trimmed (trimP low c) := by
  unfold trimP
  split
  · exact ⟨fun _ => rfl, fun h => absurd rfl h, fun h => absurd rfl h⟩
  · rename_i h
    have h1 := dropE_first h (dropZ_first h)
    exact ⟨fun e => absurd e h1.1, fun _ => by rw [h1.2]; exact dropZ_first h, fun e => dropE_last e⟩
theorem evL_dropE (l : List Int) (t : Rat) : evL (dropE l) t = evL l t := by
  conv => rhs; rw [(dropE_zeros l).2]
  rw [evL_zeros_end]
theorem ev_trimP (low : Int) (c : List Int) {t : Rat} (h : t ≠ 0) : ev (trimP low c) t = t ^ low * evL c t := by
  have h1 := (dropZ_zeros c).2
  unfold trimP
  split
  · rename_i e
    rw [e, List.append_nil] at h1
    rw [h1, evL_replicate]; simp [ev, evL]
  · rw [ev, evL_dropE, Rat.zpow_add h, Rat.zpow_natCast, Rat.mul_assoc, ← evL_zeros, ← h1]
theorem n1_trimP (low : Int) (c : List Int) : n1 (trimP low c).c ≤ n1 c := by
  have h1 := congrArg n1 (dropZ_zeros c).2
  have h2 := congrArg n1 (dropE_zeros (dropZ c)).2
  rw [n1_append, n1_replicate] at h1 h2
  unfold trimP
  split
  · simp [n1]
  · simp only; omega

/-- The exponents of a polynomial lie from lo on, before hi. -/
def Within (p : LP) (lo hi : Int) : Prop := p.c = [] ∨ (lo ≤ p.low ∧ p.low + p.c.length ≤ hi)
theorem Within.mono {p : LP} {lo hi lo' hi' : Int} (h : Within p lo hi) (h1 : lo' ≤ lo) (h2 : hi ≤ hi') : Within p lo' hi' := by
  rcases h with h | h
  · exact .inl h
  · exact .inr (by omega)
theorem within_trimP (low : Int) (c : List Int) : Within (trimP low c) low (low + c.length) := by
  have h1 := (dropZ_zeros c).1
  have h2 := (dropE_zeros (dropZ c)).1
  unfold trimP
  split
  · exact .inl rfl
  · refine .inr ?_; simp only; omega

/-- A trimmed polynomial, met in a list of coefficients. -/
theorem trimP_eq {low : Int} {c : List Int} {p : LP} (hp : Trimmed p) (h : ∀ t : Rat, t ≠ 0 → ev p t = t ^ low * evL c t) : trimP low c = p :=
  ev_ext (trimP_trimmed _ _) hp fun t ht => by rw [ev_trimP low c ht, h t ht]
def addl : List Int → List Int → Int → List Int
  | [], b, k => b.map (k * ·)
  | a, [], _ => a
  | x :: a, y :: b, k => (x + k * y) :: addl a b k
theorem evL_scale (b : List Int) (k : Int) (t : Rat) : evL (b.map (k * ·)) t = k * evL b t := by
  induction b with
  | nil => simp [evL]
  | cons x b ih => rw [List.map_cons, evL, evL, ih, Rat.intCast_mul]; grind
theorem n1_scale (b : List Int) (k : Int) : n1 (b.map (k * ·)) = k.natAbs * n1 b := by
  induction b with
  | nil => simp [n1]
  | cons x b ih => rw [List.map_cons, n1, n1, ih, Int.natAbs_mul, Nat.mul_add]
theorem evL_addl (a b : List Int) (k : Int) (t : Rat) : evL (addl a b k) t = evL a t + k * evL b t := by
  induction a generalizing b with
  | nil => rw [addl, evL_scale, evL]; grind
  | cons x a ih =>
    cases b with
    | nil => rw [addl, evL, evL]; grind; simp
    | cons y b => rw [addl, evL, evL, evL, ih, Rat.intCast_add, Rat.intCast_mul]; grind
theorem n1_addl (a b : List Int) (k : Int) : n1 (addl a b k) ≤ n1 a + k.natAbs * n1 b := by
  induction a generalizing b with
  | nil => rw [addl, n1_scale]; omega
  | cons x a ih =>
    cases b with
    | nil => rw [addl]; omega; simp
    | cons y b =>
      have h1 := ih b
      have h2 := Int.natAbs_add_le x (k * y)
      rw [Int.natAbs_mul] at h2
      rw [addl, n1, n1, n1, Nat.mul_add]; omega
theorem addl_length (a b : List Int) (k : Int) : (addl a b k).length = max a.length b.length := by
  induction a generalizing b with
  | nil => simp [addl]
  | cons x a ih =>
    cases b with
    | nil => rw [addl]; simp; simp
    | cons y b => rw [addl, List.length_cons, ih, List.length_cons, List.length_cons]; omega

def shiftl (k : Nat) (l : List Int) : List Int := List.replicate k 0 ++ l
/-- a + k b. -/
def padd (a b : LP) (k : Int) : LP :=
  if a.c = [] then trimP b.low (b.c.map (k * ·)) else if b.c = [] then trimP a.low a.c else
  trimP (min a.low b.low) (addl (shiftl (a.low - min a.low b.low).toNat a.c) (shiftl (b.low - min a.low b.low).toNat b.c) k)
theorem padd_trimmed (a b : LP) (k : Int) : Trimmed (padd a b k) := by
  unfold padd
  split
  · exact trimP_trimmed _ _
  · split <;> exact trimP_trimmed _ _
theorem pow_shift {t : Rat} (ht : t ≠ 0) {lo x : Int} (h : lo ≤ x) (r : Rat) : t ^ lo * (t ^ (x - lo).toNat * r) = t ^ x * r := by
  rw [← Rat.mul_assoc, ← Rat.zpow_natCast, ← Rat.zpow_add ht]
  congr 2
  omega
theorem ev_padd (a b : LP) (k : Int) {t : Rat} (ht : t ≠ 0) : ev (padd a b k) t = ev a t + k * ev b t := by
  unfold padd
  split
  · rename_i h
    rw [ev_trimP _ _ ht, evL_scale, ev, ev, h, evL]; grind
  · split
    · rename_i h
      rw [ev_trimP _ _ ht, ev, ev, h, evL]; grind
    · have h1 := pow_shift ht (Int.min_le_left a.low b.low) (evL a.c t)
      have h2 := pow_shift ht (Int.min_le_right a.low b.low) (evL b.c t)
      rw [ev_trimP _ _ ht, evL_addl, shiftl, shiftl, evL_zeros, evL_zeros, ev, ev, ← h1, ← h2]
      grind
theorem n1_padd (a b : LP) (k : Int) : n1 (padd a b k).c ≤ n1 a.c + k.natAbs * n1 b.c := by
  unfold padd
  split
  · have := n1_trimP b.low (b.c.map (k * ·)); rw [n1_scale] at this; omega
  · split
    · have := n1_trimP a.low a.c; omega
    · have h1 := n1_trimP (min a.low b.low) (addl (shiftl (a.low - min a.low b.low).toNat a.c) (shiftl (b.low - min a.low b.low).toNat b.c) k)
      have h2 := n1_addl (shiftl (a.low - min a.low b.low).toNat a.c) (shiftl (b.low - min a.low b.low).toNat b.c) k
      have h3 : ∀ m l, n1 (shiftl m l) = n1 l := fun m l => by rw [shiftl, n1_append, n1_replicate, Nat.zero_add]
      rw [h3, h3] at h2
      omega
theorem within_padd {a b : LP} {lo hi : Int} (ha : Within a lo hi) (hb : Within b lo hi) (k : Int) : Within (padd a b k) lo hi := by
  unfold padd
  split
  · rcases hb with h | h
    · rw [h]; exact .inl rfl
    · exact (within_trimP _ _).mono h.1 (by rw [List.length_map]; exact h.2)
  · rename_i h0
    rcases ha with h | h
    · exact absurd h h0
    · split
      · exact (within_trimP _ _).mono h.1 h.2
      · rename_i h1
        rcases hb with h2 | h2
        · exact absurd h2 h1
        · refine (within_trimP _ _).mono (by omega) ?_
          rw [addl_length]; simp only [shiftl, List.length_append, List.length_replicate]; omega

def mull : List Int → List Int → List Int
  | [], _ => []
  | x :: a, b => addl (0 :: mull a b) b x
theorem evL_mull (a b : List Int) (t : Rat) : evL (mull a b) t = evL a t * evL b t := by
  induction a with
  | nil => simp [mull, evL]
  | cons x a ih => rw [mull, evL_addl, evL, ih, evL]; grind
theorem n1_mull (a b : List Int) : n1 (mull a b) ≤ n1 a * n1 b := by
  induction a with
  | nil => simp [mull, n1]
  | cons x a ih =>
    have h := n1_addl (0 :: mull a b) b x
    rw [n1] at h
    rw [mull, n1, Nat.add_mul]; simp at h; omega
theorem mull_length (a b : List Int) (ha : a ≠ []) (hb : b ≠ []) : (mull a b).length = a.length + b.length - 1 := by
  have hp : 0 < b.length := List.length_pos_iff.2 hb
  induction a with
  | nil => exact absurd rfl ha
  | cons x a ih =>
    rw [mull, addl_length, List.length_cons, List.length_cons]
    by_cases h : a = []
    · subst h; simp [mull]; omega
    · have h2 : 0 < a.length := List.length_pos_iff.2 h
      rw [ih h]; omega
def pmul (a b : LP) : LP := trimP (a.low + b.low) (mull a.c b.c)
theorem pmul_trimmed (a b : LP) : Trimmed (pmul a b) := trimP_trimmed _ _
theorem ev_pmul (a b : LP) {t : Rat} (ht : t ≠ 0) : ev (pmul a b) t = ev a t * ev b t := by
  rw [pmul, ev_trimP _ _ ht, evL_mull, Rat.zpow_add ht, ev, ev]; grind
theorem n1_pmul (a b : LP) : n1 (pmul a b).c ≤ n1 a.c * n1 b.c := Nat.le_trans (n1_trimP _ _) (n1_mull _ _)
theorem within_pmul {a b : LP} {lo hi lo' hi' : Int} (ha : Within a lo hi) (hb : Within b lo' hi') : Within (pmul a b) (lo + lo') (hi + hi' - 1) := by
  have hz : ∀ c : List Int, (∀ t, evL c t = 0) → (trimP (a.low + b.low) c).c = [] := fun c h => by
    have : trimP (a.low + b.low) c = ⟨0, []⟩ := trimP_eq ⟨fun _ => rfl, fun h => absurd rfl h, fun h => absurd rfl h⟩ fun t _ => by rw [h]; simp [ev, evL]
    rw [this]
  rcases ha with h | h
  · exact .inl (hz _ fun t => by rw [evL_mull, h]; simp [evL])
  · rcases hb with h2 | h2
    · exact .inl (hz _ fun t => by rw [evL_mull, h2]; simp [evL])
    · by_cases e1 : a.c = []
      · exact .inl (hz _ fun t => by rw [evL_mull, e1]; simp [evL])
      · by_cases e2 : b.c = []
        · exact .inl (hz _ fun t => by rw [evL_mull, e2]; simp [evL])
        · refine (within_trimP _ _).mono (by omega) ?_
          have p1 : 0 < a.c.length := List.length_pos_iff.2 e1
          have p2 : 0 < b.c.length := List.length_pos_iff.2 e2
          rw [mull_length _ _ e1 e2]; omega

theorem rpow_add (t : Rat) (m n : Nat) : t ^ (m + n) = t ^ m * t ^ n := by
  induction n with
  | zero => simp
  | succ n ih => rw [← Nat.add_assoc, Rat.pow_succ, Rat.pow_succ, ih, Rat.mul_assoc]
theorem ev_step {cs A : List Int} {d j : Nat} {k : Int} {f : Rat → Rat} (h : ∀ t, evL cs t = f t + k * (t ^ d * evL (A.take j) t)) (h1 : d + j < cs.length) (h2 : j < A.length) (t : Rat) :
    evL (cs.set (d + j) (nth cs (d + j) + k * nth A j)) t = f t + k * (t ^ d * evL (A.take (j + 1)) t) := by
  rw [evL_set _ _ _ _ h1, evL_take_succ _ _ _ h2, h, Rat.intCast_add, Rat.intCast_mul, rpow_add]; grind
theorem ev_step1 {cs A : List Int} {d j : Nat} (h : ∀ t, evL cs t = t ^ d * evL (A.take j) t) (h1 : d + j < cs.length) (h2 : j < A.length) (t : Rat) :
    evL (cs.set (d + j) (nth cs (d + j) + nth A j)) t = t ^ d * evL (A.take (j + 1)) t := by
  rw [evL_set _ _ _ _ h1, evL_take_succ _ _ _ h2, h, Rat.intCast_add, rpow_add]; grind
theorem ev_start (u x r : Rat) (l : List Int) (t : Rat) : u = u + x * (r * evL (l.take 0) t) := by
  simp only [List.take_zero, evL]; grind
theorem n1_step {cs : List Int} {i : Nat} {x : Int} {m : Nat} (h : n1 cs ≤ m) (h1 : i < cs.length) : n1 (cs.set i (nth cs i + x)) ≤ m + x.natAbs := by
  have := n1_set cs i (nth cs i + x) h1
  have := Int.natAbs_add_le (nth cs i) x
  omega

def pterm (c e : Int) : LP := trimP e [c]
theorem pterm_trimmed (c e : Int) : Trimmed (pterm c e) := trimP_trimmed _ _
theorem ev_pterm (c e : Int) {t : Rat} (ht : t ≠ 0) : ev (pterm c e) t = c * t ^ e := by
  rw [pterm, ev_trimP _ _ ht, evL, evL]; grind
theorem n1_pterm (c e : Int) : n1 (pterm c e).c ≤ c.natAbs := by have := n1_trimP e [c]; simpa [n1, pterm] using this
theorem within_pterm (c e : Int) : Within (pterm c e) e (e + 1) := within_trimP _ _
def pzero : LP := ⟨0, []⟩
theorem pzero_trimmed : Trimmed pzero := ⟨fun _ => rfl, fun h => absurd rfl h, fun h => absurd rfl h⟩
theorem ev_pzero (t : Rat) : ev pzero t = 0 := by simp [ev, evL, pzero]
theorem within_pzero (lo hi : Int) : Within pzero lo hi := .inl rfl

end Go.Proofs.Ytplekfgadbjgdaa

namespace Go.Proofs.Ytplekfgadbjgdaa
open Go.RowKit Go.Sl

def nthv (vs : List Value) (i : Nat) : Value := vs.getD i undef
def nthr (xss : List (List Int)) (i : Nat) : List Int := xss.getD i []
theorem nthv_lt {vs : List Value} {i : Nat} (h : i < vs.length) : nthv vs i = vs[i] := by simp [nthv, h]
theorem nthr_lt {xss : List (List Int)} {i : Nat} (h : i < xss.length) : nthr xss i = xss[i] := by simp [nthr, h]
/-- The slice v of slices holds the values vs, which read as the lists xss. -/
def RowsV (w : World) (v : Value) (vs : List Value) (xss : List (List Int)) : Prop := Sl w v 1 vs ∧ vs.length = xss.length ∧ ∀ i, i < xss.length → Ints w (nthv vs i) (nthr xss i)
def Rows2 (w : World) (v : Value) (xss : List (List Int)) : Prop := ∃ vs, RowsV w v vs xss

section
variable {w w' : World} {v : Value} {vs : List Value} {xss : List (List Int)} {B : Nat}
theorem RowsV.isSl (h : RowsV w v vs xss) : IsSl v := h.1.1
theorem RowsV.len (h : RowsV w v vs xss) : vlen v = xss.length := by have := h.1.2.1; rw [h.2.1] at this; omega
theorem RowsV.cell (h : RowsV w v vs xss) {i : Nat} (hi : i < xss.length) : w.cell? (vat v i) = some (nthv vs i) := by
  have := Sl.cell h.1 (j := i) (by rw [h.2.1]; exact hi)
  rw [this, nthv_lt (by rw [h.2.1]; exact hi)]
theorem RowsV.row (h : RowsV w v vs xss) {i : Nat} (hi : i < xss.length) : Ints w (nthv vs i) (nthr xss i) := h.2.2 i hi
theorem RowsV.below (h : RowsV w v vs xss) (hb : Below w.heap.size w w') : RowsV w' v vs xss := ⟨h.1.below hb, h.2.1, fun i hi => (h.2.2 i hi).below hb⟩
theorem RowsV.alloc (h : RowsV w v vs xss) (o : Obj) : RowsV (w.alloc o) v vs xss := h.below ((Below.refl _ _).alloc (Nat.le_refl _) o)
theorem Rows2.isSl (h : Rows2 w v xss) : IsSl v := h.choose_spec.isSl
theorem Rows2.len (h : Rows2 w v xss) : vlen v = xss.length := h.choose_spec.len
theorem Rows2.below (h : Rows2 w v xss) (hb : Below w.heap.size w w') : Rows2 w' v xss := let ⟨vs, h⟩ := h; ⟨vs, h.below hb⟩
/-- The call's own slice of slices: its rows are read, it may be appended to. -/
def OwnR (w : World) (B : Nat) (v : Value) (xss : List (List Int)) : Prop := ∃ vs, Own w B 22 1 v vs ∧ vs.length = xss.length ∧ ∀ i, i < xss.length → Ints w (nthv vs i) (nthr xss i)
theorem OwnR.rows (h : OwnR w B v xss) : Rows2 w v xss := let ⟨vs, a, b, c⟩ := h; ⟨vs, a.sl, b, c⟩
theorem OwnR.isSl (h : OwnR w B v xss) : IsSl v := h.rows.isSl
theorem OwnR.len (h : OwnR w B v xss) : vlen v = xss.length := h.rows.len
theorem OwnR.lt (h : OwnR w B v xss) : ∀ k, row v = some k → B ≤ k ∧ k < w.heap.size := let ⟨_, a, _, _⟩ := h; a.lt
theorem OwnR.below (h : OwnR w B v xss) (hb : Below w.heap.size w w') : OwnR w' B v xss := let ⟨vs, a, b, c⟩ := h; ⟨vs, a.below hb, b, fun i hi => (c i hi).below hb⟩
theorem OwnR.low (h : OwnR w B v xss) {B' : Nat} (hB : B' ≤ B) : OwnR w B' v xss := let ⟨vs, a, b, c⟩ := h; ⟨vs, a.low hB, b, c⟩
/-- No row lies in the slice's own block. -/
def OwnR.apart (w : World) (B : Nat) (v : Value) (xss : List (List Int)) : Prop := ∃ vs, Own w B 22 1 v vs ∧ vs.length = xss.length ∧ (∀ i, i < xss.length → Ints w (nthv vs i) (nthr xss i)) ∧ ∀ i, i < xss.length → 0 < (nthr xss i).length → row v ≠ some (vblk (nthv vs i))
theorem OwnR.apart.own (h : OwnR.apart w B v xss) : OwnR w B v xss := let ⟨vs, a, b, c, _⟩ := h; ⟨vs, a, b, c⟩
theorem OwnR.apart.below (h : OwnR.apart w B v xss) (hb : Below w.heap.size w w') : OwnR.apart w' B v xss := let ⟨vs, a, b, c, d⟩ := h; ⟨vs, a.below hb, b, fun i hi => (c i hi).below hb, d⟩
end

theorem Ints.keep {w w' : World} {v : Value} {xs : List Int} (h : Ints w v xs) {r : Option Nat} (hg : w.grownBy w' r) (hr : 0 < xs.length → r ≠ some (vblk v)) : Ints w' v xs := by
  rcases Nat.eq_zero_or_pos xs.length with h0 | h0
  · obtain rfl := List.eq_nil_of_length_eq_zero h0
    exact ⟨h.1, h.2.1, by simp⟩
  · exact h.grown hg fun k hk e => hr h0 (by rw [hk, e])
theorem Ints.blk_lt {w : World} {v : Value} {xs : List Int} (h : Ints w v xs) (h0 : 0 < xs.length) : vblk v < w.heap.size := by
  have := World.block_lt_of_cell? w _ (h.cell h0); exact this

end Go.Proofs.Ytplekfgadbjgdaa

namespace Go.Proofs.Ytplekfgadbjgdaa
open Go.RowKit Go.Sl

/-- The slice is the call's own: its cells lie somewhere in a block from B on that is not frozen. -/
def OwnG (w : World) (B : Nat) (e : TypeId) (v : Value) (cs : List Value) : Prop :=
  IsSl v ∧ cs.length = vlen v ∧ (0 < vcap v → B ≤ vblk v ∧ ∃ cur, w.heap[vblk v]? = some (.cells cur e (0, 0)) ∧ voff v + vcap v ≤ cur.size ∧ ∀ j, j < cs.length → cur[voff v + j]? = cs[j]?)
section
variable {w w' : World} {B : Nat} {e : TypeId} {v : Value} {cs : List Value}
theorem OwnG.isSl (h : OwnG w B e v cs) : IsSl v := h.1
theorem OwnG.len (h : OwnG w B e v cs) : vlen v = cs.length := h.2.1.symm
theorem OwnG.cap_of (h : OwnG w B e v cs) {j : Nat} (hj : j < cs.length) : 0 < vcap v := by have := h.1.le; have := h.2.1; omega
theorem ownG_nil (w : World) (B : Nat) (e : TypeId) : OwnG w B e (.slice none 0 0) [] := ⟨isSl_nil, by simp, by simp⟩
theorem own_G (h : Own w B e 1 v cs) : OwnG w B e v cs := by
  refine ⟨h.1, by have := h.2.1; omega, fun h0 => ?_⟩
  obtain ⟨a, b, cur, c, d, f⟩ := h.2.2 h0
  refine ⟨a, cur, c, by omega, fun j hj => ?_⟩
  have h1 : (cur.toList.take cs.length)[j]? = cs[j]? := by rw [f]
  rw [List.getElem?_take, if_pos hj] at h1
  rw [b, Nat.zero_add]
  simpa using h1
theorem OwnG.cell (h : OwnG w B e v cs) {j : Nat} (hj : j < cs.length) : w.cell? (vat v j) = some cs[j] := by
  obtain ⟨_, cur, hh, _, hc⟩ := h.2.2 (h.cap_of hj)
  have := hc j hj
  rw [List.getElem?_eq_getElem hj] at this
  simp [World.cell?, vat, hh, this]
theorem OwnG.sl (h : OwnG w B e v cs) : Sl w v 1 cs := by
  refine ⟨h.1, by have := h.2.1; omega, fun j u hu => ?_⟩
  have hj := (List.getElem?_eq_some_iff.1 hu).1
  rw [h.cell hj]
  rw [List.getElem?_eq_getElem hj] at hu
  exact hu
theorem OwnG.frozen (h : OwnG w B e v cs) {j : Nat} (hj : j < vcap v) : w.frozen? (vat v j) = false := by
  obtain ⟨_, cur, hh, _⟩ := h.2.2 (by omega)
  simp [World.frozen?, vat, hh]
theorem OwnG.there (h : OwnG w B e v cs) {j : Nat} (hj : j < vcap v) : (w.cell? (vat v j)).isSome = true := by
  obtain ⟨_, cur, hh, hs, _⟩ := h.2.2 (by omega)
  simp [World.cell?, vat, hh]
  omega
theorem OwnG.ge (h : OwnG w B e v cs) (h0 : 0 < vcap v) (j : Nat) : B ≤ (vat v j).block := (h.2.2 h0).1
theorem OwnG.lt (h : OwnG w B e v cs) : ∀ k, row v = some k → B ≤ k ∧ k < w.heap.size := by
  intro k hk
  obtain ⟨h0, rfl⟩ := row_eq hk
  obtain ⟨hB, cur, hh, _⟩ := h.2.2 h0
  exact ⟨hB, (Array.getElem?_eq_some_iff.1 hh).1⟩
theorem OwnG.low (h : OwnG w B e v cs) {B' : Nat} (hB : B' ≤ B) : OwnG w B' e v cs := ⟨h.1, h.2.1, fun h0 => let ⟨a, b⟩ := h.2.2 h0; ⟨Nat.le_trans hB a, b⟩⟩
theorem OwnG.of_block (h : OwnG w B e v cs) (hb : ∀ k, row v = some k → w'.heap[k]? = w.heap[k]?) : OwnG w' B e v cs :=
  ⟨h.1, h.2.1, fun h0 => by
    obtain ⟨a, cur, c, d⟩ := h.2.2 h0
    exact ⟨a, cur, by rw [hb _ (row_some h0)]; exact c, d⟩⟩
theorem OwnG.below (h : OwnG w B e v cs) (hb : Below w.heap.size w w') : OwnG w' B e v cs := h.of_block fun k hk => hb.block _ (h.lt k hk).2
theorem OwnG.alloc (h : OwnG w B e v cs) (o : Obj) : OwnG (w.alloc o) B e v cs := h.of_block fun k hk => Below.heap_alloc w o _ (h.lt k hk).2
theorem OwnG.setOther (h : OwnG w B e v cs) {p : Addr} (hp : ∀ k, row v = some k → p.block ≠ k) (u : Value) : OwnG (w.setCell p u) B e v cs :=
  h.of_block fun k hk => Below.heap_setCell w p u k (fun e => hp k hk e.symm)
theorem OwnG.grown (h : OwnG w B e v cs) {r : Option Nat} (hg : w.grownBy w' r) (hr : ∀ k, row v = some k → r ≠ some k) : OwnG w' B e v cs :=
  h.of_block fun k hk => hg.block _ (h.lt k hk).2 (fun e => hr k hk e.symm)
theorem OwnG.set (h : OwnG w B e v cs) {j : Nat} (hj : j < cs.length) (u : Value) : OwnG (w.setCell (vat v j) u) B e v (cs.set j u) := by
  refine ⟨h.1, by rw [List.length_set]; exact h.2.1, fun h0 => ?_⟩
  obtain ⟨hB, cur, hh, hs, hc⟩ := h.2.2 h0
  have hle := h.1.le
  have hl := h.2.1
  refine ⟨hB, cur.setIfInBounds (voff v + j) u, ?_, by simpa using hs, fun i hi => ?_⟩
  · simp [World.setCell, vat, Array.getElem?_modify, hh]
  · rw [List.length_set] at hi
    by_cases e1 : i = j
    · subst e1
      rw [Array.getElem?_setIfInBounds_self_of_lt (by omega), List.getElem?_set_self hj]
    · rw [Array.getElem?_setIfInBounds_ne (by omega), List.getElem?_set_ne (fun e => e1 e.symm)]
      exact hc i hi
/-- The slice without its first element. -/
theorem OwnG.tail {c : Value} (h : OwnG w B e v (c :: cs)) : OwnG w B e (vcut v 1 (vlen v) (vcap v) 1) cs := by
  have hl := h.2.1
  have hle := h.1.le
  rw [List.length_cons] at hl
  refine ⟨isSl_cut h.1 (by omega) hle (Nat.le_refl _), by rw [vlen_cut]; omega, fun h0 => ?_⟩
  rw [vcap_cut] at h0
  obtain ⟨hB, cur, hh, hs, hc⟩ := h.2.2 (by omega)
  have h1 := vat_cut h.1 (l := 1) (h := vlen v) (m := vcap v) (s := 1) 0 (by omega) (Nat.le_refl _)
  have eb : vblk (vcut v 1 (vlen v) (vcap v) 1) = vblk v := by have := congrArg Addr.block h1; rwa [vat_block, vat_block] at this
  have eo : voff (vcut v 1 (vlen v) (vcap v) 1) = voff v + 1 := by
    have := congrArg Addr.off h1
    simpa [vat] using this
  refine ⟨by rw [eb]; exact hB, cur, by rw [eb]; exact hh, by rw [eo, vcap_cut]; omega, fun j hj => ?_⟩
  rw [eo, show voff v + 1 + j = voff v + (j + 1) by omega, hc (j + 1) (by simp; omega)]
  simp
/-- The slice's first k elements. -/
theorem OwnG.head (h : OwnG w B e v cs) {k : Nat} (hk : k ≤ cs.length) : OwnG w B e (vcut v 0 k (vcap v) 1) (cs.take k) := by
  have hl := h.2.1
  have hle := h.1.le
  refine ⟨isSl_cut h.1 (by omega) (by omega) (Nat.le_refl _), by rw [vlen_cut, List.length_take]; omega, fun h0 => ?_⟩
  rw [vcap_cut] at h0
  obtain ⟨hB, cur, hh, hs, hc⟩ := h.2.2 (by omega)
  have h1 := vat_cut h.1 (l := 0) (h := k) (m := vcap v) (s := 1) 0 (by omega) (Nat.le_refl _)
  have eb : vblk (vcut v 0 k (vcap v) 1) = vblk v := by have := congrArg Addr.block h1; rwa [vat_block, vat_block] at this
  have eo : voff (vcut v 0 k (vcap v) 1) = voff v := by
    have := congrArg Addr.off h1
    simpa [vat] using this
  refine ⟨by rw [eb]; exact hB, cur, by rw [eb]; exact hh, by rw [eo, vcap_cut]; omega, fun j hj => ?_⟩
  rw [List.length_take] at hj
  rw [eo, hc j (by omega), List.getElem?_take, if_pos (by omega)]
theorem row_tail {v : Value} (hv : IsSl v) : ∀ k, row (vcut v 1 (vlen v) (vcap v) 1) = some k → row v = some k := by
  intro k hk
  obtain ⟨h0, h1⟩ := row_eq hk
  rw [vcap_cut] at h0
  rw [row_some (by omega), ← h1]
  have := congrArg Addr.block (vat_cut hv (l := 1) (h := vlen v) (m := vcap v) (s := 1) 0 (by omega) (Nat.le_refl _))
  rw [vat_block, vat_block] at this
  rw [this]
end

end Go.Proofs.Ytplekfgadbjgdaa

namespace Go.Proofs.Ytplekfgadbjgdaa
open Go.RowKit Go.Sl

def fact : Nat → Nat
  | 0 => 1
  | n + 1 => (n + 1) * fact n
/-- How many of the numbers are smaller. -/
def less (xs : List Int) (x : Int) : Nat := (xs.filter fun y => decide (y < x)).length
/-- Strictly ascending. -/
def Asc (l : List Int) : Prop := l.Pairwise (· < ·)
theorem Asc.erase {l : List Int} (h : Asc l) (i : Nat) : Asc (l.eraseIdx i) := List.Pairwise.sublist (List.eraseIdx_sublist l i) h
theorem Asc.lt {l : List Int} (h : Asc l) {i j : Nat} (hij : i < j) (hj : j < l.length) : nth l i < nth l j := by
  rw [nth_lt hj, nth_lt (by omega)]
  exact List.pairwise_iff_getElem.1 h i j (by omega) hj hij
end Go.Proofs.Ytplekfgadbjgdaa

namespace Go.Proofs.Ytplekfgadbjgdaa
open Go.RowKit Go.Sl

theorem grown_setCell {w w1 : World} {r : Option Nat} (h : w.grownBy w1 r) {p : Addr} (hp : r = some p.block) (u : Value) : w.grownBy (w1.setCell p u) r :=
  ⟨h.os, h.tape, h.output, by simpa using h.size, fun k hk hr => (Below.heap_setCell w1 p u k (fun e => hr (by rw [hp, e]))).trans (h.block k hk hr)⟩

end Go.Proofs.Ytplekfgadbjgdaa

namespace Go.Proofs.Ytplekfgadbjgdaa
open Go.RowKit Go.Sl

/-- One letter onto the stack (its top is the list's head). -/
def psh (s : List Int) (x : Int) : List Int :=
  match s with
  | [] => [x]
  | y :: t => if y = -x then t else x :: y :: t
def act (s xs : List Int) : List Int := xs.foldl psh s
def redL (xs : List Int) : List Int := (act [] xs).reverse
def invL (xs : List Int) : List Int := (xs.map (- ·)).reverse
/-- No letter beside its inverse. -/
def Rd : List Int → Prop
  | [] => True
  | [_] => True
  | y :: z :: t => z ≠ -y ∧ Rd (z :: t)

theorem Rd.tail {y : Int} {t : List Int} (h : Rd (y :: t)) : Rd t := by
  cases t with
  | nil => trivial
  | cons z t => exact h.2
theorem rd_nil : Rd [] := trivial
theorem psh_rd {s : List Int} (h : Rd s) (x : Int) : Rd (psh s x) := by
  cases s with
  | nil => trivial
  | cons y t =>
    rw [psh]
    split
    · exact h.tail
    · rename_i hn; exact ⟨hn, h⟩
theorem psh_psh {s : List Int} (h : Rd s) (x : Int) : psh (psh s x) (-x) = s := by
  cases s with
  | nil => simp [psh]
  | cons y t =>
    by_cases hy : y = -x
    · subst hy
      rw [psh, if_pos rfl]
      cases t with
      | nil => rfl
      | cons z t => rw [psh, if_neg h.1]
    · rw [psh, if_neg hy, psh, if_pos (by omega)]
theorem act_append (s xs ys : List Int) : act s (xs ++ ys) = act (act s xs) ys := List.foldl_append
theorem act_snoc (s xs : List Int) (x : Int) : act s (xs ++ [x]) = psh (act s xs) x := by rw [act_append]; rfl
theorem act_rd {s : List Int} (h : Rd s) (xs : List Int) : Rd (act s xs) := by
  induction xs generalizing s with
  | nil => exact h
  | cons x xs ih => exact ih (psh_rd h x)
theorem act_invL {s : List Int} (h : Rd s) (xs : List Int) : act (act s xs) (invL xs) = s := by
  induction xs generalizing s with
  | nil => rfl
  | cons x xs ih =>
    have e : invL (x :: xs) = invL xs ++ [-x] := by simp [invL]
    rw [e, act_snoc]
    have := ih (psh_rd h x)
    rw [show act s (x :: xs) = act (psh s x) xs from rfl, this, psh_psh h]
theorem invL_invL (xs : List Int) : invL (invL xs) = xs := by
  simp [invL, List.map_reverse, Function.comp_def]
theorem psh_mem {s : List Int} {x y : Int} (h : y ∈ psh s x) : y ∈ s ∨ y = x := by
  cases s with
  | nil => simp [psh] at h; exact .inr h
  | cons z t =>
    rw [psh] at h
    split at h
    · exact .inl (List.mem_cons_of_mem _ h)
    · rcases List.mem_cons.1 h with h | h
      · exact .inr h
      · exact .inl h
theorem act_mem {s xs : List Int} {y : Int} (h : y ∈ act s xs) : y ∈ s ∨ y ∈ xs := by
  induction xs generalizing s with
  | nil => exact .inl h
  | cons x xs ih =>
    rcases ih (s := psh s x) h with h' | h'
    · rcases psh_mem h' with h'' | h''
      · exact .inl h''
      · exact .inr (by simp [h''])
    · exact .inr (List.mem_cons_of_mem _ h')
theorem redL_mem {xs : List Int} {y : Int} (h : y ∈ redL xs) : y ∈ xs := by
  rw [redL, List.mem_reverse] at h
  rcases act_mem h with h' | h'
  · cases h'
  · exact h'

end Go.Proofs.Ytplekfgadbjgdaa

namespace Go.Proofs.Ytplekfgadbjgdaa
open Go.RowKit Go.Sl

/-- The colors after a letter. -/
def cstep (m : Int) (c : List Int) (x : Int) : List Int :=
  let a := nth c (x.natAbs - 1)
  let b := nth c x.natAbs
  if 0 < x then (c.set (x.natAbs - 1) ((2 * a - b + m) % m)).set x.natAbs a else (c.set (x.natAbs - 1) b).set x.natAbs ((2 * b - a + m) % m)
/-- The colors after a word. -/
def prop (m : Int) (c w : List Int) : List Int := w.foldl (cstep m) c
def Colors (m : Int) (c : List Int) : Prop := ∀ x ∈ c, 0 ≤ x ∧ x < m

theorem cstep_length (m : Int) (c : List Int) (x : Int) : (cstep m c x).length = c.length := by
  unfold cstep; simp only; split <;> simp
theorem prop_length (m : Int) (c w : List Int) : (prop m c w).length = c.length := by
  unfold prop
  induction w generalizing c with
  | nil => rfl
  | cons x w ih => rw [List.foldl_cons, ih, cstep_length]
theorem mem_set_cases {c : List Int} {i : Nat} {a y : Int} (h : y ∈ c.set i a) : y = a ∨ y ∈ c := by
  rcases List.mem_or_eq_of_mem_set h with h | h
  · exact .inr h
  · exact .inl h
theorem cstep_colors {m : Int} {c : List Int} {x : Int} (hm : 0 < m) (hc : Colors m c) (hx : x.natAbs < c.length) : Colors m (cstep m c x) := by
  have ha := hc _ (nth_mem (show x.natAbs - 1 < c.length by omega))
  have hb := hc _ (nth_mem hx)
  intro y hy
  have e1 := Int.emod_nonneg (2 * nth c (x.natAbs - 1) - nth c x.natAbs + m) (show m ≠ 0 by omega)
  have e2 := Int.emod_lt_of_pos (2 * nth c (x.natAbs - 1) - nth c x.natAbs + m) hm
  have e3 := Int.emod_nonneg (2 * nth c x.natAbs - nth c (x.natAbs - 1) + m) (show m ≠ 0 by omega)
  have e4 := Int.emod_lt_of_pos (2 * nth c x.natAbs - nth c (x.natAbs - 1) + m) hm
  unfold cstep at hy
  simp only at hy
  split at hy
  · rcases mem_set_cases hy with rfl | hy
    · exact ha
    · rcases mem_set_cases hy with rfl | hy
      · exact ⟨e1, e2⟩
      · exact hc y hy
  · rcases mem_set_cases hy with rfl | hy
    · exact ⟨e3, e4⟩
    · rcases mem_set_cases hy with rfl | hy
      · exact hb
      · exact hc y hy
theorem prop_colors {m : Int} {c w : List Int} (hm : 0 < m) (hc : Colors m c) (hw : ∀ x ∈ w, x.natAbs < c.length) : Colors m (prop m c w) := by
  unfold prop
  induction w generalizing c with
  | nil => exact hc
  | cons x w ih =>
    rw [List.foldl_cons]
    exact ih (cstep_colors hm hc (hw x (by simp))) fun y hy => by rw [cstep_length]; exact hw y (by simp [hy])
theorem prop_append (m : Int) (c u v : List Int) : prop m c (u ++ v) = prop m (prop m c u) v := by simp [prop]

end Go.Proofs.Ytplekfgadbjgdaa

namespace Go.Proofs.Ytplekfgadbjgdaa
open Go.RowKit Go.Sl

def ent (zs : List Int) (b k : Nat) : Int := if k < zs.length then nth zs k % (2 * (b : Int) + 1) - b else 0
end Go.Proofs.Ytplekfgadbjgdaa

namespace Go.Proofs.Ytplekfgadbjgdaa
open Go.RowKit Go.Sl

def nthp (ps : List LP) (i : Nat) : LP := ps.getD i ⟨0, []⟩
def nthm (m : List (List LP)) (i : Nat) : List LP := m.getD i []
theorem nthp_lt {ps : List LP} {i : Nat} (h : i < ps.length) : nthp ps i = ps[i] := by simp [nthp, h]
theorem nthm_lt {m : List (List LP)} {i : Nat} (h : i < m.length) : nthm m i = m[i] := by simp [nthm, h]
theorem nthp_set {ps : List LP} {i j : Nat} {q : LP} (h : i < ps.length) : nthp (ps.set j q) i = if i = j then q else nthp ps i := by
  rw [nthp_lt (by simp; exact h), nthp_lt h, List.getElem_set]
  by_cases e : j = i
  · rw [if_pos e, if_pos e.symm]
  · rw [if_neg e, if_neg (Ne.symm e)]
theorem nthm_set {m : List (List LP)} {i j : Nat} {q : List LP} (h : i < m.length) : nthm (m.set j q) i = if i = j then q else nthm m i := by
  rw [nthm_lt (by simp; exact h), nthm_lt h, List.getElem_set]
  by_cases e : j = i
  · rw [if_pos e, if_pos e.symm]
  · rw [if_neg e, if_neg (Ne.symm e)]
theorem nthv_set {vs : List Value} {i j : Nat} {q : Value} (h : i < vs.length) : nthv (vs.set j q) i = if i = j then q else nthv vs i := by
  rw [nthv_lt (by simp; exact h), nthv_lt h, List.getElem_set]
  by_cases e : j = i
  · rw [if_pos e, if_pos e.symm]
  · rw [if_neg e, if_neg (Ne.symm e)]

/-- The cells of a row of polynomials: the lowest exponent and the slice of coefficients of each. -/
def pcs : List Value → List LP → List Value
  | u :: us, p :: ps => .int .i64 p.low :: u :: pcs us ps
  | _, _ => []
theorem pcs_length : ∀ (us : List Value) (ps : List LP), us.length = ps.length → (pcs us ps).length = ps.length * 2
  | [], [], _ => rfl
  | u :: us, p :: ps, h => by
    have := pcs_length us ps (by simpa using h)
    simp only [pcs, List.length_cons, this]; omega
theorem pcs_low : ∀ (us : List Value) (ps : List LP), us.length = ps.length → ∀ j, j < ps.length → (pcs us ps)[j * 2]? = some (.int .i64 (nthp ps j).low)
  | [], [], _, j, hj => absurd hj (by simp)
  | u :: us, p :: ps, h, 0, hj => by simp [pcs, nthp]
  | u :: us, p :: ps, h, j + 1, hj => by
    have := pcs_low us ps (by simpa using h) j (by simpa using hj)
    rw [show (j + 1) * 2 = j * 2 + 1 + 1 by omega]
    simp only [pcs, List.getElem?_cons_succ, this, nthp, List.getD_cons_succ]
theorem pcs_c : ∀ (us : List Value) (ps : List LP), us.length = ps.length → ∀ j, j < ps.length → (pcs us ps)[j * 2 + 1]? = some (nthv us j)
  | [], [], _, j, hj => absurd hj (by simp)
  | u :: us, p :: ps, h, 0, hj => by simp [pcs, nthv]
  | u :: us, p :: ps, h, j + 1, hj => by
    have := pcs_c us ps (by simpa using h) j (by simpa using hj)
    rw [show (j + 1) * 2 + 1 = j * 2 + 1 + 1 + 1 by omega]
    simp only [pcs, List.getElem?_cons_succ, this, nthv, List.getD_cons_succ]
theorem pcs_set : ∀ (us : List Value) (ps : List LP), us.length = ps.length → ∀ j, j < ps.length → ∀ (q : LP) (v : Value), ((pcs us ps).set (j * 2) (.int .i64 q.low)).set (j * 2 + 1) v = pcs (us.set j v) (ps.set j q)
  | [], [], _, j, hj, _, _ => absurd hj (by simp)
  | u :: us, p :: ps, h, 0, hj, q, v => by simp [pcs]
  | u :: us, p :: ps, h, j + 1, hj, q, v => by
    have := pcs_set us ps (by simpa using h) j (by simpa using hj) q v
    rw [show (j + 1) * 2 = j * 2 + 1 + 1 by omega]
    simp only [pcs, List.set_cons_succ, this]
theorem pcs_append : ∀ (us : List Value) (ps : List LP), us.length = ps.length → ∀ (v : Value) (q : LP), pcs us ps ++ [.int .i64 q.low, v] = pcs (us ++ [v]) (ps ++ [q])
  | [], [], _, _, _ => rfl
  | u :: us, p :: ps, h, v, q => by
    have := pcs_append us ps (by simpa using h) v q
    simp only [pcs, List.cons_append, this]

/-- A row of polynomials that may be read. -/
structure PRead (W : World) (v : Value) (us : List Value) (ps : List LP) : Prop where
  sl : Sl W v 2 (pcs us ps)
  len : us.length = ps.length
  each : ∀ j, j < ps.length → Ints W (nthv us j) (nthp ps j).c
/-- A row of polynomials in a block of the call's own; their coefficients lie in blocks of the call's own, too. -/
structure PRow (W : World) (B : Nat) (v : Value) (us : List Value) (ps : List LP) : Prop where
  own : Own W B 40 2 v (pcs us ps)
  len : us.length = ps.length
  each : ∀ j, j < ps.length → OwnI W B (nthv us j) (nthp ps j).c
section
variable {W W' : World} {B : Nat} {v : Value} {us : List Value} {ps : List LP}
theorem PRow.read (h : PRow W B v us ps) : PRead W v us ps := ⟨h.own.sl, h.len, fun j hj => (h.each j hj).ints⟩
theorem PRead.isSl (h : PRead W v us ps) : IsSl v := h.sl.isSl
theorem PRead.vlen (h : PRead W v us ps) : Go.Sl.vlen v = ps.length := by
  have h1 := h.sl.2.1
  rw [pcs_length us ps h.len] at h1
  omega
theorem PRead.low (h : PRead W v us ps) {j : Nat} (hj : j < ps.length) : W.cell? (vat v (j * 2)) = some (.int .i64 (nthp ps j).low) :=
  h.sl.2.2 _ _ (pcs_low us ps h.len j hj)
theorem PRead.c (h : PRead W v us ps) {j : Nat} (hj : j < ps.length) : W.cell? (vat v (j * 2 + 1)) = some (nthv us j) :=
  h.sl.2.2 _ _ (pcs_c us ps h.len j hj)
theorem PRead.below (h : PRead W v us ps) (hb : Below W.heap.size W W') : PRead W' v us ps := ⟨h.sl.below hb, h.len, fun j hj => (h.each j hj).below hb⟩
theorem PRow.isSl (h : PRow W B v us ps) : IsSl v := h.read.isSl
theorem PRow.vlen (h : PRow W B v us ps) : Go.Sl.vlen v = ps.length := h.read.vlen
theorem PRow.below (h : PRow W B v us ps) (hb : Below W.heap.size W W') : PRow W' B v us ps := ⟨h.own.below hb, h.len, fun j hj => (h.each j hj).below hb⟩
theorem PRow.low' (h : PRow W B v us ps) {B' : Nat} (hB : B' ≤ B) : PRow W B' v us ps := ⟨h.own.low hB, h.len, fun j hj => (h.each j hj).low hB⟩
theorem PRow.frozen0 (h : PRow W B v us ps) {j : Nat} (hj : j < ps.length) : W.frozen? (vat v (j * 2)) = false := h.own.frozen (by rw [pcs_length us ps h.len]; omega)
theorem PRow.frozen1 (h : PRow W B v us ps) {j : Nat} (hj : j < ps.length) : W.frozen? (vat v (j * 2 + 1)) = false := h.own.frozen (by rw [pcs_length us ps h.len]; omega)
theorem PRow.rowAt (h : PRow W B v us ps) (h0 : 0 < ps.length) : Go.Sl.row v = some (vblk v) := row_some (by have := h.isSl.le; have := h.vlen; omega)
theorem PRow.blk (h : PRow W B v us ps) (h0 : 0 < ps.length) : B ≤ vblk v ∧ vblk v < W.heap.size := h.own.lt _ (h.rowAt h0)
/-- The block's object: cells of polynomials. -/
theorem PRow.obj (h : PRow W B v us ps) (h0 : 0 < ps.length) : ∃ cur, W.heap[vblk v]? = some (.cells cur 40 (0, 0)) := by
  obtain ⟨cur, hc, _⟩ := h.own.getCell (j := 0) (by rw [pcs_length us ps h.len]; omega)
  exact ⟨cur, hc⟩
theorem poly_ne_int : (40 : TypeId) ≠ 3 := by decide
theorem rows_ne_poly : (92 : TypeId) ≠ 40 := by decide
theorem rows_ne_int : (92 : TypeId) ≠ 3 := by decide
/-- Whoever's own block of another type it is, it is another block. -/
theorem Own.ne_of_type {e e' : TypeId} (hne : e ≠ e') {s : Nat} {u : Value} {cs : List Value} (h : Own W B e s u cs) {b : Nat} {cur : Array Value} (hb : W.heap[b]? = some (.cells cur e' (0, 0))) : ∀ k, Go.Sl.row u = some k → b ≠ k := by
  intro k hk e1
  obtain ⟨h0, rfl⟩ := row_eq hk
  obtain ⟨_, _, cur', hh, _⟩ := h.2.2 h0
  subst e1
  rw [hh] at hb
  injection hb with hb
  injection hb with h1 h2
  exact hne h2
/-- A store of a polynomial. -/
theorem PRow.set (h : PRow W B v us ps) {j : Nat} (hj : j < ps.length) {u : Value} {q : LP} (hu : OwnI W B u q.c) :
    PRow ((W.setCell (vat v (j * 2)) (.int .i64 q.low)).setCell (vat v (j * 2 + 1)) u) B v (us.set j u) (ps.set j q) := by
  have hl := pcs_length us ps h.len
  obtain ⟨cur, hcur⟩ := h.obj (by omega)
  have keep : ∀ {x : Value} {xs : List Int}, OwnI W B x xs → OwnI ((W.setCell (vat v (j * 2)) (.int .i64 q.low)).setCell (vat v (j * 2 + 1)) u) B x xs := by
    intro x xs hx
    have hne := Own.ne_of_type (Ne.symm poly_ne_int) hx hcur
    exact (hx.setOther (by simpa [vat_block] using hne) _).setOther (by simpa [vat_block] using hne) _
  refine ⟨?_, by simp [h.len], fun i hi => ?_⟩
  · rw [← pcs_set us ps h.len j hj q u]
    exact (h.own.set (by omega) _).set (by rw [List.length_set]; omega) _
  · rw [List.length_set] at hi
    rw [nthp_set hi, nthv_set (by rw [h.len]; exact hi)]
    by_cases e : i = j
    · rw [if_pos e, if_pos e]; exact keep hu
    · rw [if_neg e, if_neg e]; exact keep (h.each i hi)
theorem PRow.setOther (h : PRow W B v us ps) {p : Addr} (hp : ∀ k, Go.Sl.row v = some k → p.block ≠ k) {cur : Array Value} {e : TypeId} (he : e ≠ 3) (hb : W.heap[p.block]? = some (.cells cur e (0, 0))) (x : Value) : PRow (W.setCell p x) B v us ps :=
  ⟨h.own.setOther hp x, h.len, fun j hj => (h.each j hj).setOther (Own.ne_of_type (Ne.symm he) (h.each j hj) hb) x⟩
end

/-- A matrix of polynomials: the first rows (as many as m has) are made, each in a block of its own. -/
structure PMat (W : World) (B : Nat) (v : Value) (vs : List Value) (m : List (List LP)) : Prop where
  own : Own W B 92 1 v vs
  len : m.length ≤ vs.length
  row : ∀ i, i < m.length → ∃ us, PRow W B (nthv vs i) us (nthm m i)
  pos : ∀ i, i < m.length → 0 < (nthm m i).length
  each : ∀ i j, i < m.length → j < m.length → i ≠ j → vblk (nthv vs i) ≠ vblk (nthv vs j)
section
variable {W W' : World} {B : Nat} {v : Value} {vs : List Value} {m : List (List LP)}
theorem PMat.isSl (h : PMat W B v vs m) : IsSl v := h.own.isSl
theorem PMat.vlen (h : PMat W B v vs m) : Go.Sl.vlen v = vs.length := by have := h.own.2.1; omega
theorem PMat.cell (h : PMat W B v vs m) {i : Nat} (hi : i < vs.length) : W.cell? (vat v i) = some (nthv vs i) := by rw [nthv_lt hi]; exact h.own.cell hi
theorem PMat.below (h : PMat W B v vs m) (hb : Below W.heap.size W W') : PMat W' B v vs m :=
  ⟨h.own.below hb, h.len, fun i hi => let ⟨us, k⟩ := h.row i hi; ⟨us, k.below hb⟩, h.pos, h.each⟩
theorem PMat.low' (h : PMat W B v vs m) {B' : Nat} (hB : B' ≤ B) : PMat W B' v vs m :=
  ⟨h.own.low hB, h.len, fun i hi => let ⟨us, k⟩ := h.row i hi; ⟨us, k.low' hB⟩, h.pos, h.each⟩
theorem PMat.frozen (h : PMat W B v vs m) {i : Nat} (hi : i < vs.length) : W.frozen? (vat v i) = false := h.own.frozen hi
/-- A store of a polynomial into a row. -/
theorem PMat.set (h : PMat W B v vs m) {i j : Nat} (hi : i < m.length) (hj : j < (nthm m i).length) {u : Value} {q : LP} (hu : OwnI W B u q.c) :
    PMat ((W.setCell (vat (nthv vs i) (j * 2)) (.int .i64 q.low)).setCell (vat (nthv vs i) (j * 2 + 1)) u) B v vs (m.set i ((nthm m i).set j q)) := by
  obtain ⟨us, hr⟩ := h.row i hi
  obtain ⟨cur, hcur⟩ := hr.obj (by omega)
  have hr2 := hr.set hj hu
  refine ⟨(h.own.setOther (by simpa [vat_block] using Own.ne_of_type rows_ne_poly h.own hcur) _).setOther (by simpa [vat_block] using Own.ne_of_type rows_ne_poly h.own hcur) _, by rw [List.length_set]; exact h.len, fun k hk => ?_, fun k hk => ?_, fun k l hk hl => ?_⟩
  · rw [List.length_set] at hk
    rw [nthm_set hk]
    by_cases e : k = i
    · subst e; rw [if_pos rfl]; exact ⟨_, hr2⟩
    · rw [if_neg e]
      obtain ⟨us', hk'⟩ := h.row k hk
      have hne : ∀ b, Go.Sl.row (nthv vs k) = some b → vblk (nthv vs i) ≠ b := by
        intro b hb
        rw [hk'.rowAt (h.pos k hk)] at hb
        rw [← Option.some.inj hb]
        exact h.each i k hi hk (Ne.symm e)
      have h1 := hk'.setOther (p := vat (nthv vs i) (j * 2)) hne poly_ne_int hcur (.int .i64 q.low)
      have hcur2 : (W.setCell (vat (nthv vs i) (j * 2)) (.int .i64 q.low)).heap[vblk (nthv vs i)]? = some (.cells (cur.setIfInBounds (voff (nthv vs i) + j * 2) (.int .i64 q.low)) 40 (0, 0)) := by
        simp [World.setCell, vat, Array.getElem?_modify, hcur]
      exact ⟨us', h1.setOther (p := vat (nthv vs i) (j * 2 + 1)) hne poly_ne_int hcur2 u⟩
  · rw [List.length_set] at hk
    rw [nthm_set hk]
    split
    · rw [List.length_set]; exact h.pos i hi
    · exact h.pos k hk
  · rw [List.length_set] at hk hl; exact h.each k l hk hl
/-- The next row is made. -/
theorem PMat.setRow (h : PMat W B v vs m) {r : Value} {us : List Value} {ps : List LP} (hl : m.length < vs.length) (hr : PRow W B r us ps) (h0 : 0 < ps.length) (hnew : ∀ i, i < m.length → vblk (nthv vs i) ≠ vblk r) :
    PMat (W.setCell (vat v m.length) r) B v (vs.set m.length r) (m ++ [ps]) := by
  obtain ⟨cur, hcur, _⟩ := h.own.getCell hl
  have hrv : Go.Sl.row v = some (vblk v) := row_some (h.own.cap_of hl)
  have keep : ∀ {x us' ps'}, PRow W B x us' ps' → PRow (W.setCell (vat v m.length) r) B x us' ps' := by
    intro x us' ps' hx
    exact hx.setOther (p := vat v m.length) (Own.ne_of_type (Ne.symm rows_ne_poly) hx.own hcur) rows_ne_int hcur r
  have hn : ∀ i, i < m.length → nthm (m ++ [ps]) i = nthm m i ∧ nthv (vs.set m.length r) i = nthv vs i := by
    intro i hi
    refine ⟨by simp [nthm, List.getElem?_append, hi], ?_⟩
    rw [nthv_set (by omega), if_neg (by omega)]
  have hlast : nthm (m ++ [ps]) m.length = ps ∧ nthv (vs.set m.length r) m.length = r := by
    refine ⟨by simp [nthm], ?_⟩
    rw [nthv_set hl, if_pos rfl]
  refine ⟨h.own.set hl r, by simp; omega, fun i hi => ?_, fun i hi => ?_, fun i j hi hj hij => ?_⟩
  · simp only [List.length_append, List.length_cons, List.length_nil] at hi
    rcases Nat.lt_or_ge i m.length with hlt | hge
    · rw [(hn i hlt).1, (hn i hlt).2]
      obtain ⟨us', hk'⟩ := h.row i hlt
      exact ⟨us', keep hk'⟩
    · obtain rfl : i = m.length := by omega
      rw [hlast.1, hlast.2]; exact ⟨us, keep hr⟩
  · simp only [List.length_append, List.length_cons, List.length_nil] at hi
    rcases Nat.lt_or_ge i m.length with hlt | hge
    · rw [(hn i hlt).1]; exact h.pos i hlt
    · obtain rfl : i = m.length := by omega
      rw [hlast.1]; exact h0
  · simp only [List.length_append, List.length_cons, List.length_nil] at hi hj
    rcases Nat.lt_or_ge i m.length with hi1 | hi1 <;> rcases Nat.lt_or_ge j m.length with hj1 | hj1
    · rw [(hn i hi1).2, (hn j hj1).2]; exact h.each i j hi1 hj1 hij
    · obtain rfl : j = m.length := by omega
      rw [(hn i hi1).2, hlast.2]; exact hnew i hi1
    · obtain rfl : i = m.length := by omega
      rw [(hn j hj1).2, hlast.2]; exact Ne.symm (hnew j hj1)
    · omega
end

end Go.Proofs.Ytplekfgadbjgdaa

namespace Go.Proofs.Ytplekfgadbjgdaa
open Go.RowKit Go.Sl

theorem rd_iff (l : List Int) : Rd l ↔ ∀ i, i + 1 < l.length → nth l (i + 1) ≠ -(nth l i) := by
  induction l with
  | nil => exact ⟨fun _ i h => by simp at h, fun _ => trivial⟩
  | cons x t ih =>
    cases t with
    | nil => exact ⟨fun _ i h => by simp at h, fun _ => trivial⟩
    | cons y t =>
      constructor
      · rintro ⟨h1, h2⟩ i hi
        cases i with
        | zero => simpa [nth] using h1
        | succ i =>
          have := ih.1 h2 i (by simpa using hi)
          simpa [nth] using this
      · intro h
        refine ⟨by simpa [nth] using h 0 (by simp), ih.2 fun i hi => ?_⟩
        have := h (i + 1) (by simpa using hi)
        simpa [nth] using this
theorem rd_mid {a b : List Int} {y x : Int} (h : Rd (a ++ y :: x :: b)) : x ≠ -y := by
  induction a with
  | nil => exact h.1
  | cons z a ih => exact ih (Rd.tail h)
theorem act_rd_append (l : List Int) : ∀ s, Rd (s.reverse ++ l) → act s l = l.reverse ++ s := by
  induction l with
  | nil => intro s _; rfl
  | cons x l ih =>
    intro s h
    have hp : psh s x = x :: s := by
      cases s with
      | nil => rfl
      | cons y t =>
        rw [psh, if_neg]
        intro e
        rw [List.reverse_cons, List.append_assoc] at h
        exact rd_mid h (by omega)
    show act (psh s x) l = _
    rw [hp, ih (x :: s) (by rw [List.reverse_cons, List.append_assoc]; exact h)]
    simp
theorem redL_of_rd {l : List Int} (h : Rd l) : redL l = l := by
  rw [redL, act_rd_append l [] (by simpa using h)]; simp
theorem nth_append (a b : List Int) (i : Nat) : nth (a ++ b) i = if i < a.length then nth a i else nth b (i - a.length) := by
  unfold nth
  split
  · rename_i h; simp [List.getElem?_append, h]
  · rename_i h; simp [List.getElem?_append, h]
theorem rd_append {a b : List Int} (ha : a ≠ []) (hb : b ≠ []) : Rd (a ++ b) ↔ Rd a ∧ Rd b ∧ nth b 0 ≠ -(nth a (a.length - 1)) := by
  have la := List.length_pos_iff.2 ha
  have lb := List.length_pos_iff.2 hb
  rw [rd_iff, rd_iff, rd_iff]
  constructor
  · intro h
    refine ⟨fun i hi => ?_, fun i hi => ?_, ?_⟩
    · have := h i (by rw [List.length_append]; omega)
      rwa [nth_append, if_pos hi, nth_append, if_pos (by omega)] at this
    · have := h (a.length + i) (by rw [List.length_append]; omega)
      rwa [nth_append, if_neg (by omega), nth_append, if_neg (by omega), show a.length + i + 1 - a.length = i + 1 by omega, show a.length + i - a.length = i by omega] at this
    · have := h (a.length - 1) (by rw [List.length_append]; omega)
      rwa [nth_append, if_neg (by omega), nth_append, if_pos (by omega), show a.length - 1 + 1 - a.length = 0 by omega] at this
  · rintro ⟨h1, h2, h3⟩ i hi
    rw [List.length_append] at hi
    rw [nth_append, nth_append]
    rcases Nat.lt_trichotomy (i + 1) a.length with h | h | h
    · rw [if_pos h, if_pos (by omega)]; exact h1 i h
    · rw [if_neg (by omega), if_pos (by omega), show i + 1 - a.length = 0 by omega, show i = a.length - 1 by omega]; exact h3
    · rw [if_neg (by omega), if_neg (by omega), show i + 1 - a.length = (i - a.length) + 1 by omega]; exact h2 _ (by omega)

structure Strip (c : List Int) (n : Nat) : Prop where
  le : 2 * n ≤ c.length
  off : ∀ i, i < n → nth c i = -(nth c (c.length - 1 - i))
  stop : c.length < 2 * n + 2 ∨ nth c n ≠ -(nth c (c.length - 1 - n))
theorem Strip.unique {c : List Int} {m n : Nat} (h : Strip c m) (k : Strip c n) : m = n := by
  rcases Nat.lt_trichotomy m n with hh | hh | hh
  · have h1 := k.le
    rcases h.stop with h2 | h2
    · omega
    · exact absurd (k.off m hh) h2
  · exact hh
  · have h1 := h.le
    rcases k.stop with h2 | h2
    · omega
    · exact absurd (h.off n hh) h2
theorem nth_take' {l : List Int} {k i : Nat} (h : i < k) : nth (l.take k) i = nth l i := by simp [nth, h]
theorem nth_drop' (l : List Int) (k i : Nat) : nth (l.drop k) i = nth l (k + i) := by simp [nth]
/-- A word several times. -/
def rep (d : List Int) (j : Nat) : List Int := (List.replicate j d).flatten
theorem rep_succ (d : List Int) (j : Nat) : rep d (j + 1) = d ++ rep d j := by simp [rep, List.replicate_succ]
theorem rep_length (d : List Int) (j : Nat) : (rep d j).length = j * d.length := by
  induction j with
  | zero => simp [rep]
  | succ j ih => rw [rep_succ, List.length_append, ih, Nat.succ_mul, Nat.add_comm]
theorem nth_rep (d : List Int) (j : Nat) : ∀ i, i < j * d.length → nth (rep d j) i = nth d (i % d.length) := by
  induction j with
  | zero => intro i hi; omega
  | succ j ih =>
    intro i hi
    rw [rep_succ, nth_append]
    split
    · rename_i h; rw [Nat.mod_eq_of_lt h]
    · rename_i h
      rw [Nat.succ_mul] at hi
      rw [ih (i - d.length) (by omega)]
      congr 1
      conv => rhs; rw [show i = (i - d.length) + d.length by omega, Nat.add_mod_right]
theorem act_cancel {s : List Int} (h : Rd s) (u : List Int) : act (act s (invL u)) u = s := by
  have := act_invL h (invL u)
  rwa [invL_invL] at this
theorem redL_cancel (a u b : List Int) : redL (a ++ invL u ++ (u ++ b)) = redL (a ++ b) := by
  have : act [] (a ++ invL u ++ (u ++ b)) = act [] (a ++ b) := by
    rw [act_append, act_append, act_append, act_cancel (act_rd rd_nil _), act_append]
  exact congrArg List.reverse this
/-- The element at a place around the word. -/
def cat (e : List Int) (i : Nat) : Int := nth e (i % e.length)
def Turns (e : List Int) (k : Nat) : Prop := ∀ i, cat e (i + k) = cat e i
theorem Turns.mul {e : List Int} {k : Nat} (h : Turns e k) (q : Nat) : Turns e (k * q) := by
  induction q with
  | zero => intro i; rfl
  | succ q ih => intro i; rw [Nat.mul_succ, ← Nat.add_assoc, h, ih]
theorem Turns.mod {e : List Int} {a b : Nat} (h : Turns e a) (k : Turns e b) : Turns e (a % b) := fun i => by
  rw [← k.mul (a / b) (i + a % b), Nat.add_assoc, Nat.mod_add_div, h]
theorem Turns.gcd {e : List Int} (a b : Nat) : Turns e a → Turns e b → Turns e (Nat.gcd a b) := by
  induction a, b using Nat.gcd.induction with
  | H0 n => intro _ h; rwa [Nat.gcd_zero_left]
  | H1 m n hm ih =>
    intro h k
    rw [Nat.gcd_rec]
    exact ih (k.mod h) h
def Cond (e : List Int) (k : Nat) : Prop := e.length % k = 0 ∧ e.drop (k % e.length) ++ e.take (k % e.length) = e
theorem cond_iff {e : List Int} {k : Nat} (hk : 0 < k) (hl : k ≤ e.length) : Cond e k ↔ k ∣ e.length ∧ Turns e k := by
  have hL : 0 < e.length := by omega
  have hkm : k % e.length < e.length := Nat.mod_lt _ hL
  have key : (e.drop (k % e.length) ++ e.take (k % e.length) = e) ↔ Turns e k := by
    constructor
    · intro h i
      unfold cat
      have hi := Nat.mod_lt i hL
      have h2 : nth (e.drop (k % e.length) ++ e.take (k % e.length)) (i % e.length) = nth e (i % e.length) := by rw [h]
      rw [nth_append, List.length_drop] at h2
      rw [← h2, Nat.add_mod]
      split
      · rename_i h3
        rw [nth_drop', Nat.mod_eq_of_lt (show i % e.length + k % e.length < e.length by omega), Nat.add_comm]
      · rename_i h3
        rw [nth_take' (by omega)]
        have hx : (i % e.length + k % e.length) % e.length = i % e.length + k % e.length - e.length := by
          rw [Nat.mod_eq_sub_mod (by omega), Nat.mod_eq_of_lt (by omega)]
        rw [hx]
        congr 1
        omega
    · intro h
      refine ext_nth (by simp only [List.length_append, List.length_drop, List.length_take]; omega) fun i hi => ?_
      have hi' : i < e.length := by simp only [List.length_append, List.length_drop, List.length_take] at hi; omega
      have h2 := h i
      unfold cat at h2
      rw [Nat.add_mod, Nat.mod_eq_of_lt hi'] at h2
      rw [nth_append, List.length_drop, ← h2]
      split
      · rename_i h3
        rw [nth_drop', Nat.mod_eq_of_lt (show i + k % e.length < e.length by omega), Nat.add_comm]
      · rename_i h3
        rw [nth_take' (by omega)]
        have hx : (i + k % e.length) % e.length = i + k % e.length - e.length := by
          rw [Nat.mod_eq_sub_mod (by omega), Nat.mod_eq_of_lt (by omega)]
        rw [hx]
        congr 1
        omega
  unfold Cond
  rw [key]
  exact ⟨fun h => ⟨Nat.dvd_of_mod_eq_zero h.1, h.2⟩, fun h => ⟨Nat.mod_eq_zero_of_dvd h.1, h.2⟩⟩
structure IsRoot (e : List Int) (k : Nat) : Prop where
  pos : 0 < k
  le : k ≤ e.length
  cond : Cond e k
  least : ∀ k', 0 < k' → k' < k → ¬ Cond e k'
theorem IsRoot.unique {e : List Int} {k k' : Nat} (h : IsRoot e k) (g : IsRoot e k') : k = k' := by
  rcases Nat.lt_trichotomy k k' with h1 | h1 | h1
  · exact absurd h.cond (g.least k h.pos h1)
  · exact h1
  · exact absurd g.cond (h.least k' g.pos h1)
/-- A word is its root several times. -/
theorem IsRoot.parts {d : List Int} {k : Nat} (h : IsRoot d k) : rep (d.take k) (d.length / k) = d := by
  have hc := (cond_iff h.pos h.le).1 h.cond
  have hlk : (d.take k).length = k := by rw [List.length_take]; have := h.le; omega
  have hm : d.length / k * k = d.length := Nat.div_mul_cancel hc.1
  refine ext_nth (by rw [rep_length, hlk, hm]) fun i hi => ?_
  rw [rep_length, hlk, hm] at hi
  rw [nth_rep _ _ _ (by rw [hlk, hm]; exact hi), hlk, nth_take' (Nat.mod_lt _ h.pos)]
  have h2 := (hc.2.mul (i / k)) (i % k)
  rw [Nat.mod_add_div] at h2
  unfold cat at h2
  have h3 : i % k < d.length := by have := Nat.mod_lt i h.pos; have := h.le; omega
  rw [Nat.mod_eq_of_lt hi, Nat.mod_eq_of_lt h3] at h2
  exact h2.symm

end Go.Proofs.Ytplekfgadbjgdaa

namespace Go.Proofs.Ytplekfgadbjgdaa
open Go.RowKit Go.Sl

/-- One word is the other with its first letters at its end. -/
def Rt (c d : List Int) : Prop := ∃ p q, c = p ++ q ∧ d = q ++ p
theorem Rt.refl (c : List Int) : Rt c c := ⟨[], c, by simp, by simp⟩
theorem Rt.symm {c d : List Int} (h : Rt c d) : Rt d c := let ⟨p, q, h1, h2⟩ := h; ⟨q, p, h2, h1⟩
theorem Rt.trans {c d e : List Int} (h : Rt c d) (k : Rt d e) : Rt c e := by
  obtain ⟨p, q, rfl, rfl⟩ := h
  obtain ⟨r, s, h1, rfl⟩ := k
  rcases List.append_eq_append_iff.1 h1 with ⟨t, rfl, rfl⟩ | ⟨t, rfl, rfl⟩
  · exact ⟨t, s ++ q, by simp, by simp⟩
  · exact ⟨p ++ r, t, by simp, by simp⟩
theorem Rt.length {c d : List Int} (h : Rt c d) : c.length = d.length := by
  obtain ⟨p, q, rfl, rfl⟩ := h
  simp only [List.length_append]; omega
theorem back {m : List Int} {r : Int} (h : Rd (m ++ [r])) (a : Int) : redL (m ++ [r] ++ [a]) = if r = -a then m else m ++ [r] ++ [a] := by
  split
  · rename_i e
    subst e
    have := redL_cancel m [a] []
    have e2 : redL (m ++ [-a] ++ [a]) = redL m := by simpa [invL] using this
    rw [e2, redL_of_rd]
    by_cases hm : m = []
    · subst hm; trivial
    · exact ((rd_append hm (by simp)).1 h).1
  · rename_i e
    refine redL_of_rd ((rd_append (by simp) (by simp)).2 ⟨h, trivial, ?_⟩)
    rw [nth_append, List.length_append, if_neg (by simp)]
    simp [nth]; omega
end Go.Proofs.Ytplekfgadbjgdaa

namespace Go.Proofs.Ytplekfgadbjgdaa
open Go.RowKit Go.Sl

/-- The first k and the last k elements have been exchanged. -/
def Turning (xs : List Int) (k : Nat) (zs : List Int) : Prop := zs.length = xs.length ∧ ∀ p, p < xs.length → nth zs p = if p < k ∨ xs.length - k ≤ p then nth xs (xs.length - 1 - p) else nth xs p
theorem Turning.step {xs zs : List Int} {k j : Nat} (h : Turning xs k zs) (hj : j + k + 1 = xs.length) (hk : k < j) : Turning xs (k + 1) ((zs.set k (nth zs j)).set j (nth zs k)) := by
  obtain ⟨hl, hz⟩ := h
  refine ⟨by simp [hl], fun p hp => ?_⟩
  have e1 : nth zs j = nth xs j := by rw [hz j (by omega), if_neg (by omega)]
  have e2 : nth zs k = nth xs k := by rw [hz k (by omega), if_neg (by omega)]
  by_cases h1 : p = j
  · subst h1
    rw [nth_set_same _ (by simp; omega), e2, if_pos (by omega)]
    congr 1; omega
  · rw [nth_set_other _ (by omega)]
    by_cases h2 : p = k
    · subst h2
      rw [nth_set_same _ (by omega), e1, if_pos (by omega)]
      congr 1; omega
    · rw [nth_set_other _ (by omega), hz p hp]
      by_cases h3 : p < k ∨ xs.length - k ≤ p
      · rw [if_pos h3, if_pos (by omega)]
      · rw [if_neg h3, if_neg (by omega)]
theorem nth_rev (xs : List Int) (p : Nat) (h : p < xs.length) : nth xs.reverse p = nth xs (xs.length - 1 - p) := by
  rw [nth_lt (by simpa using h), nth_lt (by omega), List.getElem_reverse]
theorem Turning.done {xs zs : List Int} {k : Nat} (h : Turning xs k zs) (hk : xs.length ≤ 2 * k + 1) : zs = xs.reverse := by
  obtain ⟨hl, hz⟩ := h
  refine ext_nth (by simp [hl]) fun p hp => ?_
  rw [hl] at hp
  rw [hz p hp, nth_rev xs p hp]
  split
  · rfl
  · congr 1; omega

end Go.Proofs.Ytplekfgadbjgdaa

namespace Go.Proofs.Ytplekfgadbjgdaa
open Go.RowKit Go.Sl

/-- Where a point is after k applications. -/
def itr (a : List Int) : Nat → Nat → Nat
  | 0, i => i
  | k + 1, i => (nth a (itr a k i)).toNat
def powL (a : List Int) : Nat → List Int
  | 0 => iota a.length
  | k + 1 => thenL (powL a k) a

theorem step_lt {a : List Int} (h : IsPerm a) {i : Nat} (hi : i < a.length) : (nth a i).toNat < a.length := by
  have := h.range _ (nth_mem hi); omega
theorem step_inj {a : List Int} (h : IsPerm a) {i j : Nat} (hi : i < a.length) (hj : j < a.length) (e : (nth a i).toNat = (nth a j).toNat) : i = j := by
  have h1 := h.range _ (nth_mem hi); have h2 := h.range _ (nth_mem hj)
  exact h.inj hi hj (by omega)
theorem itr_lt {a : List Int} (h : IsPerm a) (k : Nat) {i : Nat} (hi : i < a.length) : itr a k i < a.length := by
  induction k with
  | zero => exact hi
  | succ k ih => exact step_lt h ih
theorem itr_add (a : List Int) (j k i : Nat) : itr a (j + k) i = itr a j (itr a k i) := by
  induction j with
  | zero => rw [Nat.zero_add]; rfl
  | succ j ih => rw [show j + 1 + k = (j + k) + 1 by omega, itr, itr, ih]
theorem itr_inj {a : List Int} (h : IsPerm a) (k : Nat) {i j : Nat} (hi : i < a.length) (hj : j < a.length) (e : itr a k i = itr a k j) : i = j := by
  induction k with
  | zero => exact e
  | succ k ih => exact ih (step_inj h (itr_lt h k hi) (itr_lt h k hj) e)
theorem powL_length (a : List Int) (k : Nat) : (powL a k).length = a.length := by
  induction k with
  | zero => rw [powL, iota_length]
  | succ k ih => rw [powL, thenL_length, ih]
theorem nth_powL {a : List Int} (h : IsPerm a) (k : Nat) {i : Nat} (hi : i < a.length) : nth (powL a k) i = (itr a k i : Nat) := by
  induction k with
  | zero => exact nth_iota _ _ hi
  | succ k ih =>
    rw [powL, nth_thenL _ _ _ (by rw [powL_length]; exact hi), ih, itr]
    have := h.range _ (nth_mem (itr_lt h k hi))
    simp; omega
theorem powL_perm {a : List Int} (h : IsPerm a) (k : Nat) : IsPerm (powL a k) := by
  induction k with
  | zero => exact isPerm_iota h.small
  | succ k ih => exact ih.then h (powL_length a k)
theorem powL_add {a : List Int} (h : IsPerm a) (j k : Nat) : thenL (powL a j) (powL a k) = powL a (j + k) := by
  refine ext_nth (by rw [thenL_length, powL_length, powL_length]) fun i hi => ?_
  rw [thenL_length, powL_length] at hi
  rw [nth_thenL _ _ _ (by rw [powL_length]; exact hi), nth_powL h j hi, nth_powL h _ hi, Nat.add_comm, itr_add]
  exact nth_powL h k (itr_lt h j hi)
theorem powL_one {a : List Int} (h : IsPerm a) (k : Nat) : powL a k = iota a.length ↔ ∀ i, i < a.length → itr a k i = i := by
  constructor
  · intro e i hi
    have := nth_powL h k hi
    rw [e, nth_iota _ _ hi] at this
    omega
  · intro e
    refine ext_nth (by rw [powL_length, iota_length]) fun i hi => ?_
    rw [powL_length] at hi
    rw [nth_powL h k hi, nth_iota _ _ hi, e i hi]

/-- l is the first number of applications that lead from i back to i. -/
def Period (a : List Int) (i l : Nat) : Prop := 0 < l ∧ itr a l i = i ∧ ∀ j, 0 < j → j < l → itr a j i ≠ i
theorem Period.mul {a : List Int} {i l : Nat} (h : Period a i l) (q : Nat) : itr a (l * q) i = i := by
  induction q with
  | zero => rfl
  | succ q ih => rw [Nat.mul_succ, itr_add, h.2.1, ih]
theorem Period.iff {a : List Int} {i l : Nat} (h : Period a i l) (m : Nat) : l ∣ m ↔ itr a m i = i := by
  constructor
  · rintro ⟨q, rfl⟩; exact h.mul q
  · intro e
    have e1 : m % l + l * (m / l) = m := Nat.mod_add_div m l
    rw [← e1, itr_add, h.mul] at e
    have hlt := Nat.mod_lt m h.1
    rcases Nat.eq_zero_or_pos (m % l) with h0 | h0
    · exact Nat.dvd_of_mod_eq_zero h0
    · exact absurd e (h.2.2 _ h0 hlt)

open Classical in
/-- How many numbers below n have the property. -/
noncomputable def cntN (P : Nat → Prop) : Nat → Nat
  | 0 => 0
  | n + 1 => cntN P n + if P n then 1 else 0
theorem cntN_congr {P Q : Nat → Prop} (n : Nat) (h : ∀ j, j < n → (P j ↔ Q j)) : cntN P n = cntN Q n := by
  induction n with
  | zero => rfl
  | succ n ih =>
    rw [cntN, cntN, ih fun j hj => h j (by omega)]
    by_cases e : P n
    · rw [if_pos e, if_pos ((h n (by omega)).1 e)]
    · rw [if_neg e, if_neg (fun q => e ((h n (by omega)).2 q))]
theorem cntN_none {P : Nat → Prop} (n : Nat) (h : ∀ j, j < n → ¬ P j) : cntN P n = 0 := by
  induction n with
  | zero => rfl
  | succ n ih => rw [cntN, ih fun j hj => h j (by omega), if_neg (h n (by omega))]
theorem cntN_all {P : Nat → Prop} (n : Nat) (h : ∀ j, j < n → P j) : cntN P n = n := by
  induction n with
  | zero => rfl
  | succ n ih => rw [cntN, ih fun j hj => h j (by omega), if_pos (h n (by omega))]
theorem cntN_one {P Q : Nat → Prop} (n x : Nat) (hx : x < n) (h : ¬ P x) (hq : ∀ j, j < n → (Q j ↔ P j ∨ j = x)) : cntN Q n = cntN P n + 1 := by
  induction n with
  | zero => omega
  | succ n ih =>
    rw [cntN, cntN]
    by_cases e : x = n
    · subst e
      rw [if_pos ((hq x (by omega)).2 (.inr rfl)), if_neg h, cntN_congr (P := Q) (Q := P) x fun j hj => by rw [hq j (by omega)]; exact ⟨fun h => h.elim id (fun e => by omega), .inl⟩]
    · rw [ih (by omega) fun j hj => hq j (by omega)]
      by_cases e2 : P n
      · rw [if_pos ((hq n (by omega)).2 (.inl e2)), if_pos e2]
      · rw [if_neg (fun q => ((hq n (by omega)).1 q).elim e2 (fun e3 => e e3.symm)), if_neg e2]
theorem Period.uniq {a : List Int} {i l m : Nat} (h : Period a i l) (k : Period a i m) : l = m := by
  rcases Nat.lt_trichotomy l m with h1 | h1 | h1
  · exact absurd h.2.1 (k.2.2 l h.1 h1)
  · exact h1
  · exact absurd k.2.1 (h.2.2 m k.1 h1)
theorem Period.along {a : List Int} (ha : IsPerm a) {i l : Nat} (hi : i < a.length) (h : Period a i l) (t : Nat) : Period a (itr a t i) l := by
  refine ⟨h.1, ?_, fun j h1 h2 e => ?_⟩
  · rw [← itr_add, Nat.add_comm, itr_add, h.2.1]
  · rw [← itr_add, Nat.add_comm, itr_add] at e
    exact h.2.2 j h1 h2 (itr_inj ha t (itr_lt ha _ hi) hi e)

/-- What is marked. -/
def at? (D : List Bool) (i : Nat) : Bool := D.getD i false
def cntT : List Bool → Nat
  | [] => 0
  | true :: D => cntT D + 1
  | false :: D => cntT D
theorem cntT_all {D : List Bool} (h : ∀ i, i < D.length → at? D i = true) : cntT D = D.length := by
  induction D with
  | nil => rfl
  | cons b D ih =>
    have h0 := h 0 (by simp)
    simp [at?] at h0
    subst h0
    rw [cntT, List.length_cons, ih fun i hi => by simpa [at?] using h (i + 1) (by simpa using hi)]
theorem cntT_set {D : List Bool} {i : Nat} (hi : i < D.length) (h : at? D i = false) : cntT (D.set i true) = cntT D + 1 := by
  induction D generalizing i with
  | nil => simp at hi
  | cons b D ih =>
    cases i with
    | zero => simp [at?] at h; subst h; simp [cntT]
    | succ i =>
      have := ih (i := i) (by simpa using hi) (by simpa [at?] using h)
      cases b <;> simp [cntT, this]
theorem at_set {D : List Bool} {i : Nat} (hi : i < D.length) (j : Nat) : at? (D.set i true) j = if j = i then true else at? D j := by
  unfold at?
  by_cases h : j = i
  · subst h; simp [hi]
  · rw [if_neg h]; simp [List.getD_eq_getElem?_getD, Ne.symm h]
/-- The cycles so far: what is marked is a union of cycles whose lengths are L. -/
structure Cyc (a : List Int) (D : List Bool) (L : List Nat) : Prop where
  len : D.length = a.length
  back : ∀ i, i < a.length → at? D (nth a i).toNat = true → at? D i = true
  forth : ∀ i, i < a.length → at? D i = true → at? D (nth a i).toNat = true
  iff : ∀ m, (∀ l, l ∈ L → l ∣ m) ↔ ∀ i, i < a.length → at? D i = true → itr a m i = i
  pos : ∀ l, l ∈ L → 0 < l
  sum : L.sum = cntT D
  cntP : ∀ l, l * L.count l = cntN (fun j => at? D j = true ∧ Period a j l) a.length
  reps : L.length = cntN (fun j => at? D j = true ∧ ∀ k, j ≤ itr a k j) a.length
/-- Inside a cycle: k points of it are marked. -/
structure Cyc1 (a : List Int) (D : List Bool) (i k : Nat) (E : List Bool) : Prop where
  len : E.length = a.length
  free : at? D i = false ∨ k = 0 ∧ at? D i = true
  mark : ∀ j, at? E j = true ↔ at? D j = true ∨ ∃ t, t < k ∧ itr a t i = j
  new : ∀ t, t < k → at? D (itr a t i) = false
  diff : ∀ s t, s < t → t < k → itr a s i ≠ itr a t i
  cnt : cntT E = cntT D + k
  cntA : ∀ P : Nat → Prop, cntN (fun j => at? E j = true ∧ P j) a.length = cntN (fun j => at? D j = true ∧ P j) a.length + cntN (fun t => P (itr a t i)) k
theorem Cyc1.step {a : List Int} {D E : List Bool} {i k : Nat} (ha : IsPerm a) (hi : i < a.length) (h : Cyc1 a D i k E) (hx : at? E (itr a k i) = false) : Cyc1 a D i (k + 1) (E.set (itr a k i) true) := by
  have hlt := itr_lt ha k hi
  have hno : ¬ (at? D (itr a k i) = true ∨ ∃ t, t < k ∧ itr a t i = itr a k i) := fun hh => by
    rw [(h.mark _).2 hh] at hx; cases hx
  have hD : at? D (itr a k i) = false := by
    cases e : at? D (itr a k i) with
    | false => rfl
    | true => exact absurd (.inl e) hno
  refine ⟨by rw [List.length_set, h.len], .inl ?_, fun j => ?_, fun t ht => ?_, fun s t hs ht => ?_, by rw [cntT_set (by rw [h.len]; exact hlt) hx, h.cnt]; omega, fun P => ?_⟩
  · rcases h.free with h1 | ⟨h1, h2⟩
    · exact h1
    · subst h1; exact hD
  · rw [at_set (by rw [h.len]; exact hlt)]
    by_cases e : j = itr a k i
    · subst e; simp only [if_true, true_iff]; exact .inr ⟨k, by omega, rfl⟩
    · rw [if_neg e, h.mark]
      constructor
      · rintro (h1 | ⟨t, h1, h2⟩)
        · exact .inl h1
        · exact .inr ⟨t, by omega, h2⟩
      · rintro (h1 | ⟨t, h1, h2⟩)
        · exact .inl h1
        · rcases Nat.lt_or_ge t k with h3 | h3
          · exact .inr ⟨t, h3, h2⟩
          · exact absurd h2.symm (by rw [show t = k by omega]; exact e)
  · rcases Nat.lt_or_ge t k with h3 | h3
    · exact h.new t h3
    · rw [show t = k by omega]; exact hD
  · rcases Nat.lt_or_ge t k with h3 | h3
    · exact h.diff s t hs h3
    · rw [show t = k by omega]; exact fun e => hno (.inr ⟨s, by omega, e⟩)
  · have hE := h.len
    rw [cntN]
    by_cases hp : P (itr a k i)
    · rw [if_pos hp, ← Nat.add_assoc, ← h.cntA P]
      refine cntN_one _ (itr a k i) hlt (fun e => by rw [hx] at e; cases e.1) fun j _ => ?_
      rw [at_set (by rw [hE]; exact hlt)]
      by_cases e : j = itr a k i
      · subst e; simp [hp]
      · simp [e]
    · rw [if_neg hp, Nat.add_zero, ← h.cntA P]
      refine cntN_congr _ fun j _ => ?_
      rw [at_set (by rw [hE]; exact hlt)]
      by_cases e : j = itr a k i
      · subst e; simp [hp]
      · simp [e]
theorem Cyc.itr_back {a : List Int} {D : List Bool} {L : List Nat} (ha : IsPerm a) (h : Cyc a D L) {i : Nat} (hi : i < a.length) (k : Nat) (hk : at? D (itr a k i) = true) : at? D i = true := by
  induction k with
  | zero => exact hk
  | succ k ih => exact ih (h.back _ (itr_lt ha k hi) hk)
/-- The end of a cycle. -/
theorem Cyc1.done {a : List Int} {D E : List Bool} {L : List Nat} {i k : Nat} (ha : IsPerm a) (hi : i < a.length) (hc : Cyc a D L) (h : Cyc1 a D i k E) (hx : at? E (itr a k i) = true) (hall : ∀ j, j < i → at? D j = true) :
    (k = 0 ∧ Cyc a E L ∧ at? E i = true ∧ ∀ j, at? D j = true → at? E j = true) ∨ (0 < k ∧ Cyc a E (L ++ [k]) ∧ at? E i = true ∧ ∀ j, at? D j = true → at? E j = true) := by
  have hmono : ∀ j, at? D j = true → at? E j = true := fun j hj => (h.mark j).2 (.inl hj)
  rcases h.free with hf | ⟨h1, h2⟩
  · have hk : 0 < k := by
      rcases Nat.eq_zero_or_pos k with h0 | h0
      · subst h0
        rcases (h.mark _).1 hx with h1 | ⟨t, ht, _⟩
        · have h1 : at? D i = true := h1
          rw [hf] at h1; cases h1
        · omega
      · exact h0
    have hper : Period a i k := by
      have hne : ∀ j, 0 < j → j < k → itr a j i ≠ i := fun j h1 h2 e => h.diff 0 j h1 h2 e.symm
      refine ⟨hk, ?_, hne⟩
      rcases (h.mark _).1 hx with h1 | ⟨t, ht, he⟩
      · have := hc.itr_back ha hi k h1
        rw [hf] at this; cases this
      · rcases Nat.eq_zero_or_pos t with h0 | h0
        · subst h0; exact he.symm
        · exfalso
          have e1 : itr a t (itr a (k - t) i) = itr a t i := by rw [← itr_add, show t + (k - t) = k by omega]; exact he.symm
          exact hne (k - t) (by omega) (by omega) (itr_inj ha t (itr_lt ha _ hi) hi e1)
    refine .inr ⟨hk, ⟨h.len, fun j hj hjm => ?_, fun j hj hjm => ?_, fun m => ?_, ?_, ?_, fun l => ?_, ?_⟩, (h.mark i).2 (.inr ⟨0, hk, rfl⟩), hmono⟩
    · rcases (h.mark _).1 hjm with h1 | ⟨t, ht, he⟩
      · exact hmono _ (hc.back j hj h1)
      · refine (h.mark j).2 (.inr ?_)
        rcases Nat.eq_zero_or_pos t with h0 | h0
        · subst h0
          refine ⟨k - 1, by omega, ?_⟩
          have e1 : itr a (k - 1 + 1) i = i := by rw [show k - 1 + 1 = k by omega]; exact hper.2.1
          exact step_inj ha (itr_lt ha _ hi) hj (e1.trans he)
        · refine ⟨t - 1, by omega, ?_⟩
          have e1 : itr a (t - 1 + 1) i = itr a t i := by rw [show t - 1 + 1 = t by omega]
          exact step_inj ha (itr_lt ha _ hi) hj (e1.trans he)
    · rcases (h.mark _).1 hjm with h1 | ⟨t, ht, he⟩
      · exact hmono _ (hc.forth j hj h1)
      · refine (h.mark _).2 (.inr ?_)
        subst he
        rcases Nat.lt_or_ge (t + 1) k with h3 | h3
        · exact ⟨t + 1, h3, rfl⟩
        · refine ⟨0, hk, ?_⟩
          have e1 : itr a (t + 1) i = i := by rw [show t + 1 = k by omega]; exact hper.2.1
          exact e1.symm
    · constructor
      · intro hm j hj hjm
        rcases (h.mark j).1 hjm with h1 | ⟨t, ht, he⟩
        · exact (hc.iff m).1 (fun l hl => hm l (by simp [hl])) j hj h1
        · subst he
          have := (hper.iff m).1 (hm k (by simp))
          rw [← itr_add, Nat.add_comm, itr_add, this]
      · intro hm l hl
        rcases List.mem_append.1 hl with h1 | h1
        · exact (hc.iff m).2 (fun j hj hjm => hm j hj (hmono j hjm)) l h1
        · rw [List.mem_singleton.1 h1]
          exact (hper.iff m).2 (hm i hi ((h.mark i).2 (.inr ⟨0, hk, rfl⟩)))
    · intro l hl
      rcases List.mem_append.1 hl with h1 | h1
      · exact hc.pos l h1
      · rw [List.mem_singleton.1 h1]; exact hk
    · rw [List.sum_append, hc.sum, h.cnt]; simp
    · rw [h.cntA, ← hc.cntP, List.count_append, Nat.mul_add]
      congr 1
      by_cases e : l = k
      · subst e
        rw [cntN_all _ fun t _ => hper.along ha hi t]; simp
      · rw [cntN_none _ fun t _ hq => e (hq.uniq (hper.along ha hi t)), List.count_eq_zero_of_not_mem (by simpa using e)]; simp
    · rw [h.cntA, ← hc.reps, List.length_append]
      congr 1
      have hmin : ∀ t, i ≤ itr a t i := fun t => by
        rcases Nat.lt_or_ge (itr a t i) i with h3 | h3
        · have := hc.itr_back ha hi t (hall _ h3)
          rw [hf] at this; cases this
        · exact h3
      have h0 : cntN (fun t => ∀ k', itr a t i ≤ itr a k' (itr a t i)) k = cntN (fun _ => False) k + 1 := by
        refine cntN_one k 0 hk (fun e => e) fun t ht => ⟨fun hq => ?_, fun e => ?_⟩
        · right
          rcases Nat.eq_zero_or_pos t with h3 | h3
          · exact h3
          · exfalso
            have h4 := hq (k - t)
            rw [← itr_add, show k - t + t = k by omega, hper.2.1] at h4
            exact h.diff 0 t h3 ht (Nat.le_antisymm (hmin t) h4)
        · rcases e with e | e
          · exact e.elim
          · subst e; exact hmin
      rw [h0, cntN_none _ fun _ _ e => e]; rfl
  · subst h1
    refine .inl ⟨rfl, ⟨h.len, fun j hj hjm => ?_, fun j hj hjm => ?_, fun m => ?_, hc.pos, by rw [hc.sum, h.cnt]; rfl, fun l => by rw [h.cntA, hc.cntP]; rfl, by rw [h.cntA, hc.reps]; rfl⟩, hmono i h2, hmono⟩
    · rcases (h.mark _).1 hjm with h3 | ⟨t, ht, _⟩
      · exact hmono _ (hc.back j hj h3)
      · omega
    · rcases (h.mark _).1 hjm with h3 | ⟨t, ht, _⟩
      · exact hmono _ (hc.forth j hj h3)
      · omega
    · rw [hc.iff m]
      constructor
      · intro hm j hj hjm
        rcases (h.mark _).1 hjm with h3 | ⟨t, ht, _⟩
        · exact hm j hj h3
        · omega
      · intro hm j hj hjm
        exact hm j hj (hmono j hjm)

/-- The lengths of all cycles. -/
structure CycOK (a : List Int) (L : List Nat) : Prop where
  iff : ∀ m, (∀ l, l ∈ L → l ∣ m) ↔ ∀ i, i < a.length → itr a m i = i
  pos : ∀ l, l ∈ L → 0 < l
  sum : L.sum = a.length
  cntP : ∀ l, l * L.count l = cntN (fun j => Period a j l) a.length
  reps : L.length = cntN (fun j => ∀ k, j ≤ itr a k j) a.length
theorem Cyc.ok {a : List Int} {D : List Bool} {L : List Nat} (h : Cyc a D L) (hd : ∀ i, i < a.length → at? D i = true) : CycOK a L :=
  ⟨fun m => by
    rw [h.iff m]
    exact ⟨fun hm i hi => hm i hi (hd i hi), fun hm i hi _ => hm i hi⟩, h.pos, by rw [h.sum, cntT_all (by rw [h.len]; exact hd), h.len],
    fun l => (h.cntP l).trans (cntN_congr _ fun j hj => ⟨fun e => e.2, fun e => ⟨hd j hj, e⟩⟩), h.reps.trans (cntN_congr _ fun j hj => ⟨fun e => e.2, fun e => ⟨hd j hj, e⟩⟩)⟩

def lcmL (L : List Nat) : Nat := L.foldl Nat.lcm 1
theorem lcmL_snoc (L : List Nat) (l : Nat) : lcmL (L ++ [l]) = Nat.lcm (lcmL L) l := by simp [lcmL]
theorem lcmL_dvd (L : List Nat) (m : Nat) : lcmL L ∣ m ↔ ∀ l, l ∈ L → l ∣ m := by
  obtain ⟨M, hM⟩ : ∃ M, M = L.reverse := ⟨_, rfl⟩
  obtain rfl : L = M.reverse := by rw [hM, List.reverse_reverse]
  clear hM
  induction M with
  | nil => simp [lcmL]
  | cons x M ih =>
    rw [List.reverse_cons, lcmL_snoc]
    constructor
    · intro h l hl
      rcases List.mem_append.1 hl with h1 | h1
      · exact ih.1 (Nat.dvd_trans (Nat.dvd_lcm_left _ _) h) l h1
      · rw [List.mem_singleton.1 h1]; exact Nat.dvd_trans (Nat.dvd_lcm_right _ _) h
    · intro h
      exact Nat.lcm_dvd (ih.2 fun l hl => h l (List.mem_append.2 (.inl hl))) (h x (by simp))
theorem lcmL_bound (L : List Nat) (h : ∀ l, l ∈ L → 0 < l) : 0 < lcmL L ∧ lcmL L ≤ 2 ^ L.sum := by
  obtain ⟨M, hM⟩ : ∃ M, M = L.reverse := ⟨_, rfl⟩
  obtain rfl : L = M.reverse := by rw [hM, List.reverse_reverse]
  clear hM
  induction M with
  | nil => simp [lcmL]
  | cons x M ih =>
    rw [List.reverse_cons, lcmL_snoc, List.sum_append]
    obtain ⟨h1, h2⟩ := ih fun l hl => h l (by rw [List.reverse_cons]; exact List.mem_append.2 (.inl hl))
    have hx : 0 < x := h x (by simp)
    refine ⟨Nat.lcm_pos h1 hx, ?_⟩
    have h3 : Nat.lcm (lcmL M.reverse) x ≤ lcmL M.reverse * x := by
      unfold Nat.lcm; exact Nat.div_le_self _ _
    have h4 : x ≤ 2 ^ x := Nat.le_of_lt Nat.lt_two_pow_self
    have h5 := Nat.mul_le_mul h2 h4
    rw [← Nat.pow_add] at h5
    simp only [List.sum_cons, List.sum_nil, Nat.add_zero]
    omega
/-- The order. -/
structure IsOrder (a : List Int) (m : Nat) : Prop where
  pos : 0 < m
  small : m ≤ 512
  pow : m ≤ 2 ^ a.length
  iff : ∀ k, powL a k = iota a.length ↔ m ∣ k
theorem CycOK.order {a : List Int} {L : List Nat} (ha : IsPerm a) (h : CycOK a L) (hs : a.length ≤ 9) : IsOrder a (lcmL L) := by
  obtain ⟨h1, h2⟩ := lcmL_bound L h.pos
  have h3 : 2 ^ L.sum ≤ 2 ^ 9 := Nat.pow_le_pow_right (by omega) (by rw [h.sum]; exact hs)
  exact ⟨h1, by omega, by rw [← h.sum]; exact h2, fun k => by rw [lcmL_dvd, h.iff, powL_one ha]⟩
theorem IsOrder.mod {a : List Int} {m : Nat} (ha : IsPerm a) (h : IsOrder a m) (k q : Nat) : powL a (k + m * q) = powL a k := by
  have e : powL a (m * q) = iota a.length := (h.iff _).2 ⟨q, rfl⟩
  rw [← powL_add ha, e]
  have := iota_thenL (a := powL a k) (powL_perm ha k).range
  rwa [powL_length] at this
theorem IsOrder.sum {a : List Int} {m : Nat} (ha : IsPerm a) (h : IsOrder a m) (i k : Int) : thenL (powL a (i % m).toNat) (powL a (k % m).toNat) = powL a ((i + k) % m).toNat := by
  rw [powL_add ha]
  have hm : (0 : Int) < m := by have := h.pos; omega
  have h1 := Int.emod_nonneg i (b := (m : Int)) (by omega)
  have h2 := Int.emod_nonneg k (b := (m : Int)) (by omega)
  have h3 := Int.emod_nonneg (i + k) (b := (m : Int)) (by omega)
  have h4 := Int.emod_lt_of_pos (i + k) hm
  have e : (i + k) % (m : Int) = (i % m + k % m) % m := by rw [Int.add_emod]
  have h5 := Int.emod_add_mul_ediv (i % m + k % m) m
  rw [← e] at h5
  have h6 : 0 ≤ (i % m + k % m) / (m : Int) := Int.ediv_nonneg (by omega) (by omega)
  obtain ⟨q, hq⟩ := Int.eq_ofNat_of_zero_le h6
  rw [hq] at h5
  have h7 : (i % m).toNat + (k % m).toNat = ((i + k) % m).toNat + m * q := by
    have : ((m * q : Nat) : Int) = (m : Int) * (q : Int) := by simp
    omega
  rw [h7, h.mod ha]
theorem IsOrder.loop {a : List Int} {m : Nat} (h : IsOrder a m) {j : Nat} (h1 : 1 ≤ j) (h2 : j ≤ m) : powL a (((j : Int) % m).toNat) = iota a.length ↔ j = m := by
  rw [h.iff]
  have e : ((j : Int) % m).toNat = j % m := by omega
  rw [e]
  constructor
  · intro hd
    rcases Nat.lt_or_ge j m with h3 | h3
    · rw [Nat.mod_eq_of_lt h3] at hd
      have := Nat.le_of_dvd (by omega) hd
      omega
    · omega
  · rintro rfl; rw [Nat.mod_self]; exact Nat.dvd_zero _

end Go.Proofs.Ytplekfgadbjgdaa

namespace Go.Proofs.Ytplekfgadbjgdaa
open Go.RowKit Go.Sl

/-- No two neighbouring exchanges. -/
def Apart (c : Nat) : Prop := ∀ j, c.testBit j = true → c.testBit (j + 1) = false
end Go.Proofs.Ytplekfgadbjgdaa

namespace Go.Proofs.Ytplekfgadbjgdaa
open Go.RowKit Go.Sl

def SortedL (xs : List Int) : Prop := ∀ p q, p < q → q < xs.length → nth xs p ≤ nth xs q

end Go.Proofs.Ytplekfgadbjgdaa

