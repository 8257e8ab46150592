/- Slices of slices of ints: what is read of them, and how they are built. -/
import Derived.Test.YtmcecmnbdcbehaaQPermSigns0
import Derived.Test.YtmcecmnbdcbehaaQPermSigns1
import Derived.Test.YtmcecmnbdcbehaaQPermSigns2

namespace Go.Proofs.Ytmcecmnbdcbehaa
open Go.RowKit Go.Sl

def iota (n : Nat) : List Int := (List.range n).map Int.ofNat
theorem iota_length (n : Nat) : (iota n).length = n := by simp [iota]
theorem nth_iota (n k : Nat) (h : k < n) : nth (iota n) k = k := by rw [nth_lt (by rw [iota_length]; exact h)]; simp [iota]
theorem mem_iota {n : Nat} {x : Int} : x ∈ iota n ↔ 0 ≤ x ∧ x < n := by
  simp only [iota, List.mem_map, List.mem_range]
  constructor
  · rintro ⟨a, h, rfl⟩; simp; omega
  · rintro ⟨h1, h2⟩; exact ⟨x.toNat, by omega, by simp; omega⟩
theorem iota_nodup (n : Nat) : (iota n).Nodup := by
  unfold iota
  rw [List.nodup_iff_pairwise_ne] at *
  rw [List.pairwise_map]
  refine List.Pairwise.imp ?_ List.nodup_range
  intro a b h e
  exact h (Int.ofNat.inj e)
theorem ext_nth {xs ys : List Int} (hl : xs.length = ys.length) (h : ∀ k, k < xs.length → nth xs k = nth ys k) : xs = ys := by
  apply List.ext_getElem hl
  intro j h1 h2
  have := h j h1
  rwa [nth_lt h1, nth_lt h2] at this

def thenL (a b : List Int) : List Int := a.map fun x => nth b x.toNat
theorem thenL_length (a b : List Int) : (thenL a b).length = a.length := by simp [thenL]
theorem nth_thenL (a b : List Int) (k : Nat) (h : k < a.length) : nth (thenL a b) k = nth b (nth a k).toNat := by
  rw [nth_lt (by rw [thenL_length]; exact h)]; simp [thenL, nth_lt h]

/-- A permutation of small degree, as a list. -/
structure IsPerm (xs : List Int) : Prop where
  perm : xs.Perm (iota xs.length)
  small : xs.length ≤ 1000
theorem IsPerm.range {xs : List Int} (h : IsPerm xs) : ∀ x ∈ xs, 0 ≤ x ∧ x < xs.length := fun _ hx => mem_iota.1 (h.perm.mem_iff.1 hx)
theorem IsPerm.nodup {xs : List Int} (h : IsPerm xs) : xs.Nodup := h.perm.nodup_iff.2 (iota_nodup _)
theorem isPerm_iota {n : Nat} (h : n ≤ 1000) : IsPerm (iota n) := ⟨by rw [iota_length], by rw [iota_length]; exact h⟩

theorem thenL_iota (b : List Int) : thenL (iota b.length) b = b := by
  apply ext_nth (by rw [thenL_length, iota_length])
  intro k hk
  rw [thenL_length, iota_length] at hk
  rw [nth_thenL _ _ _ (by rw [iota_length]; exact hk), nth_iota _ _ hk]; simp
theorem iota_thenL {a : List Int} (h : ∀ x ∈ a, 0 ≤ x ∧ x < a.length) : thenL a (iota a.length) = a := by
  apply ext_nth (by rw [thenL_length])
  intro k hk
  rw [thenL_length] at hk
  have := h _ (nth_mem hk)
  rw [nth_thenL _ _ _ hk, nth_iota _ _ (by omega)]; omega
theorem IsPerm.then {a b : List Int} (ha : IsPerm a) (hb : IsPerm b) (hl : a.length = b.length) : IsPerm (thenL a b) := by
  refine ⟨?_, by rw [thenL_length]; exact ha.small⟩
  rw [thenL_length, hl]
  have h1 : (thenL a b).Perm (thenL (iota a.length) b) := ha.perm.map _
  rw [hl, thenL_iota] at h1
  exact h1.trans hb.perm

/-- The first k numbers of a permutation written at their places. -/
def backTo (xs : List Int) (k : Nat) : List Int := (List.range k).foldl (fun acc i => acc.set (nth xs i).toNat i) (List.replicate xs.length 0)
def backL (xs : List Int) : List Int := backTo xs xs.length
theorem backTo_zero (xs : List Int) : backTo xs 0 = List.replicate xs.length 0 := rfl
theorem backTo_succ (xs : List Int) (k : Nat) : backTo xs (k + 1) = (backTo xs k).set (nth xs k).toNat k := by
  simp [backTo, List.range_succ]
theorem backTo_length (xs : List Int) (k : Nat) : (backTo xs k).length = xs.length := by
  induction k with
  | zero => simp [backTo]
  | succ k ih => rw [backTo_succ]; simp [ih]
theorem backL_length (xs : List Int) : (backL xs).length = xs.length := backTo_length _ _
theorem nth_set_same {xs : List Int} {k : Nat} (x : Int) (h : k < xs.length) : nth (xs.set k x) k = x := by
  rw [nth_lt (by simpa using h)]; simp
theorem nth_set_other {xs : List Int} {k j : Nat} (x : Int) (h : k ≠ j) : nth (xs.set k x) j = nth xs j := by
  simp [nth, List.getElem?_set_ne h]
theorem IsPerm.inj {xs : List Int} (h : IsPerm xs) {i j : Nat} (hi : i < xs.length) (hj : j < xs.length) (e : nth xs i = nth xs j) : i = j := by
  rw [nth_lt hi, nth_lt hj] at e
  exact (List.getElem_inj h.nodup).1 e
theorem backTo_hit {xs : List Int} (h : IsPerm xs) (k : Nat) (hk : k ≤ xs.length) : ∀ j, j < k → nth (backTo xs k) (nth xs j).toNat = j := by
  induction k with
  | zero => intro j hj; omega
  | succ k ih =>
    intro j hj
    have hrk := h.range _ (nth_mem (xs := xs) (k := k) (by omega))
    rw [backTo_succ]
    rcases Nat.lt_or_ge j k with h1 | h1
    · have hrj := h.range _ (nth_mem (xs := xs) (k := j) (by omega))
      rw [nth_set_other _ (fun e => by
        have := h.inj (i := k) (j := j) (by omega) (by omega) (by omega)
        omega)]
      exact ih (by omega) j h1
    · have e : j = k := by omega
      subst e
      rw [nth_set_same _ (by rw [backTo_length]; omega)]
theorem then_back {xs : List Int} (h : IsPerm xs) : thenL xs (backL xs) = iota xs.length := by
  apply ext_nth (by rw [thenL_length, iota_length])
  intro k hk
  rw [thenL_length] at hk
  rw [nth_thenL _ _ _ hk, nth_iota _ _ hk]
  exact backTo_hit h _ (Nat.le_refl _) k hk
theorem IsPerm.back {xs : List Int} (h : IsPerm xs) : IsPerm (backL xs) := by
  refine ⟨?_, by rw [backL_length]; exact h.small⟩
  have h1 : (thenL xs (backL xs)).Perm (thenL (iota xs.length) (backL xs)) := h.perm.map _
  rw [then_back h] at h1
  have h2 := thenL_iota (backL xs)
  rw [backL_length] at h2 ⊢
  rw [h2] at h1
  exact h1.symm

/-! ### The maker of permutations -/
def pick (raw rest : List Int) : Nat := match raw with
  | [] => 0
  | x :: _ => (x % rest.length).toNat
def permGo : Nat → List Int → List Int → List Int
  | 0, _, _ => []
  | f + 1, raw, rest => nth rest (pick raw rest) :: permGo f raw.tail (rest.eraseIdx (pick raw rest))
def permL (n : Nat) (raw : List Int) : List Int := permGo n raw (iota n)
theorem pick_lt (raw rest : List Int) (h : 0 < rest.length) : pick raw rest < rest.length := by
  unfold pick
  split
  · exact h
  · rename_i x _
    have h1 := Int.emod_nonneg x (b := (rest.length : Int)) (by omega)
    have h2 := Int.emod_lt_of_pos x (b := (rest.length : Int)) (by omega)
    omega
theorem erase_perm (l : List Int) (i : Nat) (h : i < l.length) : (l[i] :: l.eraseIdx i).Perm l := by
  rw [List.eraseIdx_eq_take_drop_succ]
  have e : l = l.take i ++ l[i] :: l.drop (i + 1) := by rw [← List.drop_eq_getElem_cons h, List.take_append_drop]
  conv => rhs; rw [e]
  exact List.perm_middle.symm
theorem permGo_perm (f : Nat) : ∀ raw rest, rest.length = f → (permGo f raw rest).Perm rest := by
  induction f with
  | zero => intro raw rest h; rw [List.length_eq_zero_iff.1 h]; exact List.Perm.refl _
  | succ f ih =>
    intro raw rest h
    have hp := pick_lt raw rest (by omega)
    have h1 := ih raw.tail (rest.eraseIdx (pick raw rest)) (by rw [List.length_eraseIdx]; split <;> omega)
    rw [permGo, nth_lt hp]
    exact (h1.cons _).trans (erase_perm _ _ hp)
theorem permL_length (n : Nat) (raw : List Int) : (permL n raw).length = n := by
  have := (permGo_perm n raw (iota n) (iota_length n)).length_eq
  rw [iota_length] at this; exact this
theorem permL_isPerm {n : Nat} (raw : List Int) (h : n ≤ 1000) : IsPerm (permL n raw) :=
  ⟨by rw [permL_length]; exact permGo_perm n raw (iota n) (iota_length n), by rw [permL_length]; exact h⟩
def smallerTo (xs : List Int) (x : Int) (j : Nat) : Nat := ((xs.take j).filter fun y => decide (y < x)).length
theorem smallerTo_succ (xs : List Int) (x : Int) (j : Nat) (h : j < xs.length) : smallerTo xs x (j + 1) = smallerTo xs x j + if nth xs j < x then 1 else 0 := by
  unfold smallerTo
  rw [List.take_succ_eq_append_getElem h, List.filter_append, nth_lt h]
  by_cases hlt : xs[j] < x <;> simp [hlt]
theorem smallerTo_le (xs : List Int) (x : Int) (j : Nat) : smallerTo xs x j ≤ j := Nat.le_trans (List.length_filter_le _ _) (List.length_take_le _ _)
def rankTo (xs : List Int) : Nat → Nat
  | 0 => 0
  | k + 1 => rankTo xs k * (xs.length - k) + smallerTo (xs.drop (k + 1)) (nth xs k) (xs.length - (k + 1))
def rankL (xs : List Int) : Nat := rankTo xs xs.length
theorem rankTo_lt (xs : List Int) (hl : xs.length ≤ 9) (k : Nat) (hk : k ≤ xs.length) : rankTo xs k < 10 ^ k := by
  induction k with
  | zero => simp [rankTo]
  | succ k ih =>
    have h1 := ih (by omega)
    have h2 := smallerTo_le (xs.drop (k + 1)) (nth xs k) (xs.length - (k + 1))
    have h3 : rankTo xs k * (xs.length - k) ≤ rankTo xs k * 9 := Nat.mul_le_mul_left _ (by omega)
    rw [rankTo, Nat.pow_succ]
    omega
theorem rankTo_small (xs : List Int) (hl : xs.length ≤ 9) (k : Nat) (hk : k ≤ xs.length) : rankTo xs k ≤ 1000000000 := by
  have h := rankTo_lt xs hl k hk
  have : 10 ^ k ≤ 10 ^ 9 := Nat.pow_le_pow_right (by omega) (by omega)
  omega

end Go.Proofs.Ytmcecmnbdcbehaa

namespace Go.Proofs.Ytmcecmnbdcbehaa
open Go.RowKit Go.Sl

/-- Where a point is after k applications. -/
def itr (a : List Int) : Nat → Nat → Nat
  | 0, i => i
  | k + 1, i => (nth a (itr a k i)).toNat
def powL (a : List Int) : Nat → List Int
  | 0 => iota a.length
  | k + 1 => thenL (powL a k) a

theorem step_lt {a : List Int} (h : IsPerm a) {i : Nat} (hi : i < a.length) : (nth a i).toNat < a.length := by
  have := h.range _ (nth_mem hi); omega
theorem step_inj {a : List Int} (h : IsPerm a) {i j : Nat} (hi : i < a.length) (hj : j < a.length) (e : (nth a i).toNat = (nth a j).toNat) : i = j := by
  have h1 := h.range _ (nth_mem hi); have h2 := h.range _ (nth_mem hj)
  exact h.inj hi hj (by omega)
theorem itr_lt {a : List Int} (h : IsPerm a) (k : Nat) {i : Nat} (hi : i < a.length) : itr a k i < a.length := by
  induction k with
  | zero => exact hi
  | succ k ih => exact step_lt h ih
theorem itr_add (a : List Int) (j k i : Nat) : itr a (j + k) i = itr a j (itr a k i) := by
  induction j with
  | zero => rw [Nat.zero_add]; rfl
  | succ j ih => rw [show j + 1 + k = (j + k) + 1 by omega, itr, itr, ih]
theorem itr_inj {a : List Int} (h : IsPerm a) (k : Nat) {i j : Nat} (hi : i < a.length) (hj : j < a.length) (e : itr a k i = itr a k j) : i = j := by
  induction k with
  | zero => exact e
  | succ k ih => exact ih (step_inj h (itr_lt h k hi) (itr_lt h k hj) e)
theorem powL_length (a : List Int) (k : Nat) : (powL a k).length = a.length := by
  induction k with
  | zero => rw [powL, iota_length]
  | succ k ih => rw [powL, thenL_length, ih]
theorem nth_powL {a : List Int} (h : IsPerm a) (k : Nat) {i : Nat} (hi : i < a.length) : nth (powL a k) i = (itr a k i : Nat) := by
  induction k with
  | zero => exact nth_iota _ _ hi
  | succ k ih =>
    rw [powL, nth_thenL _ _ _ (by rw [powL_length]; exact hi), ih, itr]
    have := h.range _ (nth_mem (itr_lt h k hi))
    simp; omega
theorem powL_perm {a : List Int} (h : IsPerm a) (k : Nat) : IsPerm (powL a k) := by
  induction k with
  | zero => exact isPerm_iota h.small
  | succ k ih => exact ih.then h (powL_length a k)
theorem powL_add {a : List Int} (h : IsPerm a) (j k : Nat) : thenL (powL a j) (powL a k) = powL a (j + k) := by
  refine ext_nth (by rw [thenL_length, powL_length, powL_length]) fun i hi => ?_
  rw [thenL_length, powL_length] at hi
  rw [nth_thenL _ _ _ (by rw [powL_length]; exact hi), nth_powL h j hi, nth_powL h _ hi, Nat.add_comm, itr_add]
  exact nth_powL h k (itr_lt h j hi)
theorem powL_one {a : List Int} (h : IsPerm a) (k : Nat) : powL a k = iota a.length ↔ ∀ i, i < a.length → itr a k i = i := by
  constructor
  · intro e i hi
    have := nth_powL h k hi
    rw [e, nth_iota _ _ hi] at this
    omega
  · intro e
    refine ext_nth (by rw [powL_length, iota_length]) fun i hi => ?_
    rw [powL_length] at hi
    rw [nth_powL h k hi, nth_iota _ _ hi, e i hi]

/-- l is the first number of applications that lead from i back to i. -/
def Period (a : List Int) (i l : Nat) : Prop := 0 < l ∧ itr a l i = i ∧ ∀ j, 0 < j → j < l → itr a j i ≠ i
theorem Period.mul {a : List Int} {i l : Nat} (h : Period a i l) (q : Nat) : itr a (l * q) i = i := by
  induction q with
  | zero => rfl
  | succ q ih => rw [Nat.mul_succ, itr_add, h.2.1, ih]
theorem Period.iff {a : List Int} {i l : Nat} (h : Period a i l) (m : Nat) : l ∣ m ↔ itr a m i = i := by
  constructor
  · rintro ⟨q, rfl⟩; exact h.mul q
  · intro e
    have e1 : m % l + l * (m / l) = m := Nat.mod_add_div m l
    rw [← e1, itr_add, h.mul] at e
    have hlt := Nat.mod_lt m h.1
    rcases Nat.eq_zero_or_pos (m % l) with h0 | h0
    · exact Nat.dvd_of_mod_eq_zero h0
    · exact absurd e (h.2.2 _ h0 hlt)

open Classical in
/-- How many numbers below n have the property. -/
noncomputable def cntN (P : Nat → Prop) : Nat → Nat
  | 0 => 0
  | n + 1 => cntN P n + if P n then 1 else 0
theorem cntN_congr {P Q : Nat → Prop} (n : Nat) (h : ∀ j, j < n → (P j ↔ Q j)) : cntN P n = cntN Q n := by
  induction n with
  | zero => rfl
  | succ n ih =>
    rw [cntN, cntN, ih fun j hj => h j (by omega)]
    by_cases e : P n
    · rw [if_pos e, if_pos ((h n (by omega)).1 e)]
    · rw [if_neg e, if_neg (fun q => e ((h n (by omega)).2 q))]
theorem cntN_none {P : Nat → Prop} (n : Nat) (h : ∀ j, j < n → ¬ P j) : cntN P n = 0 := by
  induction n with
  | zero => rfl
  | succ n ih => rw [cntN, ih fun j hj => h j (by omega), if_neg (h n (by omega))]
theorem cntN_all {P : Nat → Prop} (n : Nat) (h : ∀ j, j < n → P j) : cntN P n = n := by
  induction n with
  | zero => rfl
  | succ n ih => rw [cntN, ih fun j hj => h j (by omega), if_pos (h n (by omega))]
theorem cntN_one {P Q : Nat → Prop} (n x : Nat) (hx : x < n) (h : ¬ P x) (hq : ∀ j, j < n → (Q j ↔ P j ∨ j = x)) : cntN Q n = cntN P n + 1 := by
  induction n with
  | zero => omega
  | succ n ih =>
    rw [cntN, cntN]
    by_cases e : x = n
    · subst e
      rw [if_pos ((hq x (by omega)).2 (.inr rfl)), if_neg h, cntN_congr (P := Q) (Q := P) x fun j hj => by rw [hq j (by omega)]; exact ⟨fun h => h.elim id (fun e => by omega), .inl⟩]
    · rw [ih (by omega) fun j hj => hq j (by omega)]
      by_cases e2 : P n
      · rw [if_pos ((hq n (by omega)).2 (.inl e2)), if_pos e2]
      · rw [if_neg (fun q => ((hq n (by omega)).1 q).elim e2 (fun e3 => e e3.symm)), if_neg e2]
theorem Period.uniq {a : List Int} {i l m : Nat} (h : Period a i l) (k : Period a i m) : l = m := by
  rcases Nat.lt_trichotomy l m with h1 | h1 | h1
  · exact absurd h.2.1 (k.2.2 l h.1 h1)
  · exact h1
  · exact absurd k.2.1 (h.2.2 m k.1 h1)
theorem Period.along {a : List Int} (ha : IsPerm a) {i l : Nat} (hi : i < a.length) (h : Period a i l) (t : Nat) : Period a (itr a t i) l := by
  refine ⟨h.1, ?_, fun j h1 h2 e => ?_⟩
  · rw [← itr_add, Nat.add_comm, itr_add, h.2.1]
  · rw [← itr_add, Nat.add_comm, itr_add] at e
    exact h.2.2 j h1 h2 (itr_inj ha t (itr_lt ha _ hi) hi e)

/-- What is marked. -/
def at? (D : List Bool) (i : Nat) : Bool := D.getD i false
def cntT : List Bool → Nat
  | [] => 0
  | true :: D => cntT D + 1
  | false :: D => cntT D
theorem cntT_le (D : List Bool) : cntT D ≤ D.length := by
  induction D with
  | nil => exact Nat.le_refl _
  | cons b D ih => cases b <;> simp [cntT] <;> omega
theorem cntT_all {D : List Bool} (h : ∀ i, i < D.length → at? D i = true) : cntT D = D.length := by
  induction D with
  | nil => rfl
  | cons b D ih =>
    have h0 := h 0 (by simp)
    simp [at?] at h0
    subst h0
    rw [cntT, List.length_cons, ih fun i hi => by simpa [at?] using h (i + 1) (by simpa using hi)]
theorem cntT_set {D : List Bool} {i : Nat} (hi : i < D.length) (h : at? D i = false) : cntT (D.set i true) = cntT D + 1 := by
  induction D generalizing i with
  | nil => simp at hi
  | cons b D ih =>
    cases i with
    | zero => simp [at?] at h; subst h; simp [cntT]
    | succ i =>
      have := ih (i := i) (by simpa using hi) (by simpa [at?] using h)
      cases b <;> simp [cntT, this]
theorem cntT_lt {D : List Bool} {i : Nat} (hi : i < D.length) (h : at? D i = false) : cntT D < D.length := by
  have h1 := cntT_set hi h
  have h2 := cntT_le (D.set i true)
  rw [List.length_set] at h2
  omega
theorem at_set {D : List Bool} {i : Nat} (hi : i < D.length) (j : Nat) : at? (D.set i true) j = if j = i then true else at? D j := by
  unfold at?
  by_cases h : j = i
  · subst h; simp [hi]
  · rw [if_neg h]; simp [List.getD_eq_getElem?_getD, List.getElem?_set, Ne.symm h]
theorem cntT_replicate (n : Nat) : cntT (List.replicate n false) = 0 := by
  induction n with
  | zero => rfl
  | succ n ih => rw [List.replicate_succ, cntT, ih]
theorem at_replicate (n i : Nat) : at? (List.replicate n false) i = false := by
  unfold at?
  by_cases h : i < n
  · simp [List.getD_eq_getElem?_getD, List.getElem?_replicate, h]
  · simp [List.getD_eq_getElem?_getD, List.getElem?_replicate, h]

/-- The cycles so far: what is marked is a union of cycles whose lengths are L. -/
structure Cyc (a : List Int) (D : List Bool) (L : List Nat) : Prop where
  len : D.length = a.length
  back : ∀ i, i < a.length → at? D (nth a i).toNat = true → at? D i = true
  forth : ∀ i, i < a.length → at? D i = true → at? D (nth a i).toNat = true
  iff : ∀ m, (∀ l, l ∈ L → l ∣ m) ↔ ∀ i, i < a.length → at? D i = true → itr a m i = i
  pos : ∀ l, l ∈ L → 0 < l
  sum : L.sum = cntT D
  cntP : ∀ l, l * L.count l = cntN (fun j => at? D j = true ∧ Period a j l) a.length
  reps : L.length = cntN (fun j => at? D j = true ∧ ∀ k, j ≤ itr a k j) a.length
theorem cyc_nil (a : List Int) : Cyc a (List.replicate a.length false) [] :=
  ⟨by simp, fun i _ h => (by rw [at_replicate] at h; cases h), fun i _ h => (by rw [at_replicate] at h; cases h),
    fun m => ⟨fun _ i _ h => (by rw [at_replicate] at h; cases h), fun _ l h => (by cases h)⟩, fun l h => (by cases h), by simp [cntT_replicate],
    fun l => by rw [cntN_none _ (fun j _ h => by have := h.1; rw [at_replicate] at this; cases this)]; rfl, by rw [cntN_none _ (fun j _ h => by have := h.1; rw [at_replicate] at this; cases this)]; rfl⟩
/-- Inside a cycle: k points of it are marked. -/
structure Cyc1 (a : List Int) (D : List Bool) (i k : Nat) (E : List Bool) : Prop where
  len : E.length = a.length
  free : at? D i = false ∨ k = 0 ∧ at? D i = true
  mark : ∀ j, at? E j = true ↔ at? D j = true ∨ ∃ t, t < k ∧ itr a t i = j
  new : ∀ t, t < k → at? D (itr a t i) = false
  diff : ∀ s t, s < t → t < k → itr a s i ≠ itr a t i
  cnt : cntT E = cntT D + k
  cntA : ∀ P : Nat → Prop, cntN (fun j => at? E j = true ∧ P j) a.length = cntN (fun j => at? D j = true ∧ P j) a.length + cntN (fun t => P (itr a t i)) k
theorem cyc1_start {a : List Int} {D : List Bool} (hl : D.length = a.length) (i : Nat) : Cyc1 a D i 0 D :=
  ⟨hl, by cases h : at? D i <;> simp, fun j => by simp, fun t h => by omega, fun s t _ h => by omega, rfl, fun _ => rfl⟩
theorem Cyc1.step {a : List Int} {D E : List Bool} {i k : Nat} (ha : IsPerm a) (hi : i < a.length) (h : Cyc1 a D i k E) (hx : at? E (itr a k i) = false) : Cyc1 a D i (k + 1) (E.set (itr a k i) true) := by
  have hlt := itr_lt ha k hi
  have hno : ¬ (at? D (itr a k i) = true ∨ ∃ t, t < k ∧ itr a t i = itr a k i) := fun hh => by
    rw [(h.mark _).2 hh] at hx; cases hx
  have hD : at? D (itr a k i) = false := by
    cases e : at? D (itr a k i) with
    | false => rfl
    | true => exact absurd (.inl e) hno
  refine ⟨by rw [List.length_set, h.len], .inl ?_, fun j => ?_, fun t ht => ?_, fun s t hs ht => ?_, by rw [cntT_set (by rw [h.len]; exact hlt) hx, h.cnt]; omega, fun P => ?_⟩
  · rcases h.free with h1 | ⟨h1, h2⟩
    · exact h1
    · subst h1; exact hD
  · rw [at_set (by rw [h.len]; exact hlt)]
    by_cases e : j = itr a k i
    · subst e; simp only [if_true, true_iff]; exact .inr ⟨k, by omega, rfl⟩
    · rw [if_neg e, h.mark]
      constructor
      · rintro (h1 | ⟨t, h1, h2⟩)
        · exact .inl h1
        · exact .inr ⟨t, by omega, h2⟩
      · rintro (h1 | ⟨t, h1, h2⟩)
        · exact .inl h1
        · rcases Nat.lt_or_ge t k with h3 | h3
          · exact .inr ⟨t, h3, h2⟩
          · exact absurd h2.symm (by rw [show t = k by omega]; exact e)
  · rcases Nat.lt_or_ge t k with h3 | h3
    · exact h.new t h3
    · rw [show t = k by omega]; exact hD
  · rcases Nat.lt_or_ge t k with h3 | h3
    · exact h.diff s t hs h3
    · rw [show t = k by omega]; exact fun e => hno (.inr ⟨s, by omega, e⟩)
  · have hE := h.len
    rw [cntN]
    by_cases hp : P (itr a k i)
    · rw [if_pos hp, ← Nat.add_assoc, ← h.cntA P]
      refine cntN_one _ (itr a k i) hlt (fun e => by rw [hx] at e; cases e.1) fun j _ => ?_
      rw [at_set (by rw [hE]; exact hlt)]
      by_cases e : j = itr a k i
      · subst e; simp [hp]
      · simp [e]
    · rw [if_neg hp, Nat.add_zero, ← h.cntA P]
      refine cntN_congr _ fun j _ => ?_
      rw [at_set (by rw [hE]; exact hlt)]
      by_cases e : j = itr a k i
      · subst e; simp [hp]
      · simp [e]
theorem Cyc.itr_back {a : List Int} {D : List Bool} {L : List Nat} (ha : IsPerm a) (h : Cyc a D L) {i : Nat} (hi : i < a.length) (k : Nat) (hk : at? D (itr a k i) = true) : at? D i = true := by
  induction k with
  | zero => exact hk
  | succ k ih => exact ih (h.back _ (itr_lt ha k hi) hk)
/-- The end of a cycle. -/
theorem Cyc1.done {a : List Int} {D E : List Bool} {L : List Nat} {i k : Nat} (ha : IsPerm a) (hi : i < a.length) (hc : Cyc a D L) (h : Cyc1 a D i k E) (hx : at? E (itr a k i) = true) (hall : ∀ j, j < i → at? D j = true) :
    (k = 0 ∧ Cyc a E L ∧ at? E i = true ∧ ∀ j, at? D j = true → at? E j = true) ∨ (0 < k ∧ Cyc a E (L ++ [k]) ∧ at? E i = true ∧ ∀ j, at? D j = true → at? E j = true) := by
  have hmono : ∀ j, at? D j = true → at? E j = true := fun j hj => (h.mark j).2 (.inl hj)
  rcases h.free with hf | ⟨h1, h2⟩
  · have hk : 0 < k := by
      rcases Nat.eq_zero_or_pos k with h0 | h0
      · subst h0
        rcases (h.mark _).1 hx with h1 | ⟨t, ht, _⟩
        · have h1 : at? D i = true := h1
          rw [hf] at h1; cases h1
        · omega
      · exact h0
    have hper : Period a i k := by
      have hne : ∀ j, 0 < j → j < k → itr a j i ≠ i := fun j h1 h2 e => h.diff 0 j h1 h2 e.symm
      refine ⟨hk, ?_, hne⟩
      rcases (h.mark _).1 hx with h1 | ⟨t, ht, he⟩
      · have := hc.itr_back ha hi k h1
        rw [hf] at this; cases this
      · rcases Nat.eq_zero_or_pos t with h0 | h0
        · subst h0; exact he.symm
        · exfalso
          have e1 : itr a t (itr a (k - t) i) = itr a t i := by rw [← itr_add, show t + (k - t) = k by omega]; exact he.symm
          exact hne (k - t) (by omega) (by omega) (itr_inj ha t (itr_lt ha _ hi) hi e1)
    refine .inr ⟨hk, ⟨h.len, fun j hj hjm => ?_, fun j hj hjm => ?_, fun m => ?_, ?_, ?_, fun l => ?_, ?_⟩, (h.mark i).2 (.inr ⟨0, hk, rfl⟩), hmono⟩
    · rcases (h.mark _).1 hjm with h1 | ⟨t, ht, he⟩
      · exact hmono _ (hc.back j hj h1)
      · refine (h.mark j).2 (.inr ?_)
        rcases Nat.eq_zero_or_pos t with h0 | h0
        · subst h0
          refine ⟨k - 1, by omega, ?_⟩
          have e1 : itr a (k - 1 + 1) i = i := by rw [show k - 1 + 1 = k by omega]; exact hper.2.1
          exact step_inj ha (itr_lt ha _ hi) hj (e1.trans he)
        · refine ⟨t - 1, by omega, ?_⟩
          have e1 : itr a (t - 1 + 1) i = itr a t i := by rw [show t - 1 + 1 = t by omega]
          exact step_inj ha (itr_lt ha _ hi) hj (e1.trans he)
    · rcases (h.mark _).1 hjm with h1 | ⟨t, ht, he⟩
      · exact hmono _ (hc.forth j hj h1)
      · refine (h.mark _).2 (.inr ?_)
        subst he
        rcases Nat.lt_or_ge (t + 1) k with h3 | h3
        · exact ⟨t + 1, h3, rfl⟩
        · refine ⟨0, hk, ?_⟩
          have e1 : itr a (t + 1) i = i := by rw [show t + 1 = k by omega]; exact hper.2.1
          exact e1.symm
    · constructor
      · intro hm j hj hjm
        rcases (h.mark j).1 hjm with h1 | ⟨t, ht, he⟩
        · exact (hc.iff m).1 (fun l hl => hm l (by simp [hl])) j hj h1
        · subst he
          have := (hper.iff m).1 (hm k (by simp))
          rw [← itr_add, Nat.add_comm, itr_add, this]
      · intro hm l hl
        rcases List.mem_append.1 hl with h1 | h1
        · exact (hc.iff m).2 (fun j hj hjm => hm j hj (hmono j hjm)) l h1
        · rw [List.mem_singleton.1 h1]
          exact (hper.iff m).2 (hm i hi ((h.mark i).2 (.inr ⟨0, hk, rfl⟩)))
    · intro l hl
      rcases List.mem_append.1 hl with h1 | h1
      · exact hc.pos l h1
      · rw [List.mem_singleton.1 h1]; exact hk
    · rw [List.sum_append, hc.sum, h.cnt]; simp
    · rw [h.cntA, ← hc.cntP, List.count_append, Nat.mul_add]
      congr 1
      by_cases e : l = k
      · subst e
        rw [cntN_all _ fun t _ => hper.along ha hi t]; simp
      · rw [cntN_none _ fun t _ hq => e (hq.uniq (hper.along ha hi t)), List.count_eq_zero_of_not_mem (by simpa using e)]; simp
    · rw [h.cntA, ← hc.reps, List.length_append]
      congr 1
      have hmin : ∀ t, i ≤ itr a t i := fun t => by
        rcases Nat.lt_or_ge (itr a t i) i with h3 | h3
        · have := hc.itr_back ha hi t (hall _ h3)
          rw [hf] at this; cases this
        · exact h3
      have h0 : cntN (fun t => ∀ k', itr a t i ≤ itr a k' (itr a t i)) k = cntN (fun _ => False) k + 1 := by
        refine cntN_one k 0 hk (fun e => e) fun t ht => ⟨fun hq => ?_, fun e => ?_⟩
        · right
          rcases Nat.eq_zero_or_pos t with h3 | h3
          · exact h3
          · exfalso
            have h4 := hq (k - t)
            rw [← itr_add, show k - t + t = k by omega, hper.2.1] at h4
            exact h.diff 0 t h3 ht (Nat.le_antisymm (hmin t) h4)
        · rcases e with e | e
          · exact e.elim
          · subst e; exact hmin
      rw [h0, cntN_none _ fun _ _ e => e]; rfl
  · subst h1
    refine .inl ⟨rfl, ⟨h.len, fun j hj hjm => ?_, fun j hj hjm => ?_, fun m => ?_, hc.pos, by rw [hc.sum, h.cnt]; rfl, fun l => by rw [h.cntA, hc.cntP]; rfl, by rw [h.cntA, hc.reps]; rfl⟩, hmono i h2, hmono⟩
    · rcases (h.mark _).1 hjm with h3 | ⟨t, ht, _⟩
      · exact hmono _ (hc.back j hj h3)
      · omega
    · rcases (h.mark _).1 hjm with h3 | ⟨t, ht, _⟩
      · exact hmono _ (hc.forth j hj h3)
      · omega
    · rw [hc.iff m]
      constructor
      · intro hm j hj hjm
        rcases (h.mark _).1 hjm with h3 | ⟨t, ht, _⟩
        · exact hm j hj h3
        · omega
      · intro hm j hj hjm
        exact hm j hj (hmono j hjm)

/-- The lengths of all cycles. -/
structure CycOK (a : List Int) (L : List Nat) : Prop where
  iff : ∀ m, (∀ l, l ∈ L → l ∣ m) ↔ ∀ i, i < a.length → itr a m i = i
  pos : ∀ l, l ∈ L → 0 < l
  sum : L.sum = a.length
  cntP : ∀ l, l * L.count l = cntN (fun j => Period a j l) a.length
  reps : L.length = cntN (fun j => ∀ k, j ≤ itr a k j) a.length
theorem Cyc.ok {a : List Int} {D : List Bool} {L : List Nat} (h : Cyc a D L) (hd : ∀ i, i < a.length → at? D i = true) : CycOK a L :=
  ⟨fun m => by
    rw [h.iff m]
    exact ⟨fun hm i hi => hm i hi (hd i hi), fun hm i hi _ => hm i hi⟩, h.pos, by rw [h.sum, cntT_all (by rw [h.len]; exact hd), h.len],
    fun l => (h.cntP l).trans (cntN_congr _ fun j hj => ⟨fun e => e.2, fun e => ⟨hd j hj, e⟩⟩), h.reps.trans (cntN_congr _ fun j hj => ⟨fun e => e.2, fun e => ⟨hd j hj, e⟩⟩)⟩

def lcmL (L : List Nat) : Nat := L.foldl Nat.lcm 1
theorem lcmL_snoc (L : List Nat) (l : Nat) : lcmL (L ++ [l]) = Nat.lcm (lcmL L) l := by simp [lcmL]
theorem lcmL_dvd (L : List Nat) (m : Nat) : lcmL L ∣ m ↔ ∀ l, l ∈ L → l ∣ m := by
  obtain ⟨M, hM⟩ : ∃ M, M = L.reverse := ⟨_, rfl⟩
  obtain rfl : L = M.reverse := by rw [hM, List.reverse_reverse]
  clear hM
  induction M with
  | nil => simp [lcmL]
  | cons x M ih =>
    rw [List.reverse_cons, lcmL_snoc]
    constructor
    · intro h l hl
      rcases List.mem_append.1 hl with h1 | h1
      · exact ih.1 (Nat.dvd_trans (Nat.dvd_lcm_left _ _) h) l h1
      · rw [List.mem_singleton.1 h1]; exact Nat.dvd_trans (Nat.dvd_lcm_right _ _) h
    · intro h
      exact Nat.lcm_dvd (ih.2 fun l hl => h l (List.mem_append.2 (.inl hl))) (h x (by simp))
theorem lcmL_bound (L : List Nat) (h : ∀ l, l ∈ L → 0 < l) : 0 < lcmL L ∧ lcmL L ≤ 2 ^ L.sum := by
  obtain ⟨M, hM⟩ : ∃ M, M = L.reverse := ⟨_, rfl⟩
  obtain rfl : L = M.reverse := by rw [hM, List.reverse_reverse]
  clear hM
  induction M with
  | nil => simp [lcmL]
  | cons x M ih =>
    rw [List.reverse_cons, lcmL_snoc, List.sum_append]
    obtain ⟨h1, h2⟩ := ih fun l hl => h l (by rw [List.reverse_cons]; exact List.mem_append.2 (.inl hl))
    have hx : 0 < x := h x (by simp)
    refine ⟨Nat.lcm_pos h1 hx, ?_⟩
    have h3 : Nat.lcm (lcmL M.reverse) x ≤ lcmL M.reverse * x := by
      unfold Nat.lcm; exact Nat.div_le_self _ _
    have h4 : x ≤ 2 ^ x := Nat.le_of_lt Nat.lt_two_pow_self
    have h5 := Nat.mul_le_mul h2 h4
    rw [← Nat.pow_add] at h5
    simp only [List.sum_cons, List.sum_nil, Nat.add_zero]
    omega
/-- The order. -/
structure IsOrder (a : List Int) (m : Nat) : Prop where
  pos : 0 < m
  small : m ≤ 512
  pow : m ≤ 2 ^ a.length
  iff : ∀ k, powL a k = iota a.length ↔ m ∣ k
theorem CycOK.order {a : List Int} {L : List Nat} (ha : IsPerm a) (h : CycOK a L) (hs : a.length ≤ 9) : IsOrder a (lcmL L) := by
  obtain ⟨h1, h2⟩ := lcmL_bound L h.pos
  have h3 : 2 ^ L.sum ≤ 2 ^ 9 := Nat.pow_le_pow_right (by omega) (by rw [h.sum]; exact hs)
  exact ⟨h1, by omega, by rw [← h.sum]; exact h2, fun k => by rw [lcmL_dvd, h.iff, powL_one ha]⟩
theorem IsOrder.mod {a : List Int} {m : Nat} (ha : IsPerm a) (h : IsOrder a m) (k q : Nat) : powL a (k + m * q) = powL a k := by
  have e : powL a (m * q) = iota a.length := (h.iff _).2 ⟨q, rfl⟩
  rw [← powL_add ha, e]
  have := iota_thenL (a := powL a k) (powL_perm ha k).range
  rwa [powL_length] at this
theorem IsOrder.sum {a : List Int} {m : Nat} (ha : IsPerm a) (h : IsOrder a m) (i k : Int) : thenL (powL a (i % m).toNat) (powL a (k % m).toNat) = powL a ((i + k) % m).toNat := by
  rw [powL_add ha]
  have hm : (0 : Int) < m := by have := h.pos; omega
  have h1 := Int.emod_nonneg i (b := (m : Int)) (by omega)
  have h2 := Int.emod_nonneg k (b := (m : Int)) (by omega)
  have h3 := Int.emod_nonneg (i + k) (b := (m : Int)) (by omega)
  have h4 := Int.emod_lt_of_pos (i + k) hm
  have e : (i + k) % (m : Int) = (i % m + k % m) % m := by rw [Int.add_emod]
  have h5 := Int.emod_add_mul_ediv (i % m + k % m) m
  rw [← e] at h5
  have h6 : 0 ≤ (i % m + k % m) / (m : Int) := Int.ediv_nonneg (by omega) (by omega)
  obtain ⟨q, hq⟩ := Int.eq_ofNat_of_zero_le h6
  rw [hq] at h5
  have h7 : (i % m).toNat + (k % m).toNat = ((i + k) % m).toNat + m * q := by
    have : ((m * q : Nat) : Int) = (m : Int) * (q : Int) := by simp
    omega
  rw [h7, h.mod ha]
end Go.Proofs.Ytmcecmnbdcbehaa

namespace Go.Proofs.Ytmcecmnbdcbehaa
open Go.RowKit Go.Sl

/-- Strictly ascending. -/
def Asc (l : List Int) : Prop := l.Pairwise (· < ·)
theorem Asc.lt {l : List Int} (h : Asc l) {i j : Nat} (hij : i < j) (hj : j < l.length) : nth l i < nth l j := by
  rw [nth_lt hj, nth_lt (by omega)]
  exact List.pairwise_iff_getElem.1 h i j (by omega) hj hij
end Go.Proofs.Ytmcecmnbdcbehaa

namespace Go.Proofs.Ytmcecmnbdcbehaa
open Go.RowKit Go.Sl

def nthv (vs : List Value) (i : Nat) : Value := vs.getD i undef
def nthr (xss : List (List Int)) (i : Nat) : List Int := xss.getD i []
theorem nthv_lt {vs : List Value} {i : Nat} (h : i < vs.length) : nthv vs i = vs[i] := by simp [nthv, h]
/-- The slice v of slices holds the values vs, which read as the lists xss. -/
def RowsV (w : World) (v : Value) (vs : List Value) (xss : List (List Int)) : Prop := Sl w v 1 vs ∧ vs.length = xss.length ∧ ∀ i, i < xss.length → Ints w (nthv vs i) (nthr xss i)
def Rows2 (w : World) (v : Value) (xss : List (List Int)) : Prop := ∃ vs, RowsV w v vs xss

section
variable {w w' : World} {v : Value} {vs : List Value} {xss : List (List Int)} {B : Nat}
theorem RowsV.isSl (h : RowsV w v vs xss) : IsSl v := h.1.1
theorem RowsV.len (h : RowsV w v vs xss) : vlen v = xss.length := by have := h.1.2.1; rw [h.2.1] at this; omega
theorem RowsV.cell (h : RowsV w v vs xss) {i : Nat} (hi : i < xss.length) : w.cell? (vat v i) = some (nthv vs i) := by
  have := Sl.cell h.1 (j := i) (by rw [h.2.1]; exact hi)
  rw [this, nthv_lt (by rw [h.2.1]; exact hi)]
theorem RowsV.row (h : RowsV w v vs xss) {i : Nat} (hi : i < xss.length) : Ints w (nthv vs i) (nthr xss i) := h.2.2 i hi
theorem RowsV.below (h : RowsV w v vs xss) (hb : Below w.heap.size w w') : RowsV w' v vs xss := ⟨h.1.below hb, h.2.1, fun i hi => (h.2.2 i hi).below hb⟩
theorem RowsV.alloc (h : RowsV w v vs xss) (o : Obj) : RowsV (w.alloc o) v vs xss := h.below ((Below.refl _ _).alloc (Nat.le_refl _) o)
theorem Rows2.isSl (h : Rows2 w v xss) : IsSl v := h.choose_spec.isSl
theorem Rows2.len (h : Rows2 w v xss) : vlen v = xss.length := h.choose_spec.len
theorem Rows2.below (h : Rows2 w v xss) (hb : Below w.heap.size w w') : Rows2 w' v xss := let ⟨vs, h⟩ := h; ⟨vs, h.below hb⟩
/-- The call's own slice of slices: its rows are read, it may be appended to. -/
def OwnR (w : World) (B : Nat) (v : Value) (xss : List (List Int)) : Prop := ∃ vs, Own w B 25 1 v vs ∧ vs.length = xss.length ∧ ∀ i, i < xss.length → Ints w (nthv vs i) (nthr xss i)
theorem OwnR.rows (h : OwnR w B v xss) : Rows2 w v xss := let ⟨vs, a, b, c⟩ := h; ⟨vs, a.sl, b, c⟩
theorem OwnR.isSl (h : OwnR w B v xss) : IsSl v := h.rows.isSl
theorem OwnR.len (h : OwnR w B v xss) : vlen v = xss.length := h.rows.len
theorem OwnR.lt (h : OwnR w B v xss) : ∀ k, row v = some k → B ≤ k ∧ k < w.heap.size := let ⟨_, a, _, _⟩ := h; a.lt
theorem OwnR.below (h : OwnR w B v xss) (hb : Below w.heap.size w w') : OwnR w' B v xss := let ⟨vs, a, b, c⟩ := h; ⟨vs, a.below hb, b, fun i hi => (c i hi).below hb⟩
theorem OwnR.low (h : OwnR w B v xss) {B' : Nat} (hB : B' ≤ B) : OwnR w B' v xss := let ⟨vs, a, b, c⟩ := h; ⟨vs, a.low hB, b, c⟩
/-- No row lies in the slice's own block. -/
def OwnR.apart (w : World) (B : Nat) (v : Value) (xss : List (List Int)) : Prop := ∃ vs, Own w B 25 1 v vs ∧ vs.length = xss.length ∧ (∀ i, i < xss.length → Ints w (nthv vs i) (nthr xss i)) ∧ ∀ i, i < xss.length → 0 < (nthr xss i).length → row v ≠ some (vblk (nthv vs i))
theorem OwnR.apart.own (h : OwnR.apart w B v xss) : OwnR w B v xss := let ⟨vs, a, b, c, _⟩ := h; ⟨vs, a, b, c⟩
theorem OwnR.apart.below (h : OwnR.apart w B v xss) (hb : Below w.heap.size w w') : OwnR.apart w' B v xss := let ⟨vs, a, b, c, d⟩ := h; ⟨vs, a.below hb, b, fun i hi => (c i hi).below hb, d⟩
end

end Go.Proofs.Ytmcecmnbdcbehaa

