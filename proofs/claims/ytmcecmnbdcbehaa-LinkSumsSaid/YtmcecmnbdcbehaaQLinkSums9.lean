/- Colors of positions along a braid word: plain law. -/
import Derived.Test.YtmcecmnbdcbehaaQLinkSums0
import Derived.Test.YtmcecmnbdcbehaaQLinkSums1
import Derived.Test.YtmcecmnbdcbehaaQLinkSums2

namespace Go.Proofs.Ytmcecmnbdcbehaa
open Go.RowKit Go.Sl

def iota (n : Nat) : List Int := (List.range n).map Int.ofNat
theorem iota_length (n : Nat) : (iota n).length = n := by simp [iota]
theorem nth_iota (n k : Nat) (h : k < n) : nth (iota n) k = k := by rw [nth_lt (by rw [iota_length]; exact h)]; simp [iota]
theorem mem_iota {n : Nat} {x : Int} : x ∈ iota n ↔ 0 ≤ x ∧ x < n := by
  simp only [iota, List.mem_map, List.mem_range]
  constructor
  · rintro ⟨a, h, rfl⟩; simp; omega
  · rintro ⟨h1, h2⟩; exact ⟨x.toNat, by omega, by simp; omega⟩
theorem iota_nodup (n : Nat) : (iota n).Nodup := by
  unfold iota
  rw [List.nodup_iff_pairwise_ne] at *
  rw [List.pairwise_map]
  refine List.Pairwise.imp ?_ List.nodup_range
  intro a b h e
  exact h (Int.ofNat.inj e)
theorem ext_nth {xs ys : List Int} (hl : xs.length = ys.length) (h : ∀ k, k < xs.length → nth xs k = nth ys k) : xs = ys := by
  apply List.ext_getElem hl
  intro j h1 h2
  have := h j h1
  rwa [nth_lt h1, nth_lt h2] at this

def thenL (a b : List Int) : List Int := a.map fun x => nth b x.toNat
theorem thenL_length (a b : List Int) : (thenL a b).length = a.length := by simp [thenL]
theorem nth_thenL (a b : List Int) (k : Nat) (h : k < a.length) : nth (thenL a b) k = nth b (nth a k).toNat := by
  rw [nth_lt (by rw [thenL_length]; exact h)]; simp [thenL, nth_lt h]

/-- A permutation of small degree, as a list. -/
structure IsPerm (xs : List Int) : Prop where
  perm : xs.Perm (iota xs.length)
  small : xs.length ≤ 1000
theorem IsPerm.range {xs : List Int} (h : IsPerm xs) : ∀ x ∈ xs, 0 ≤ x ∧ x < xs.length := fun _ hx => mem_iota.1 (h.perm.mem_iff.1 hx)
theorem IsPerm.nodup {xs : List Int} (h : IsPerm xs) : xs.Nodup := h.perm.nodup_iff.2 (iota_nodup _)
theorem IsPerm.hit {xs : List Int} (h : IsPerm xs) {k : Nat} (hk : k < xs.length) : ∃ j, j < xs.length ∧ nth xs j = k := by
  have : (k : Int) ∈ xs := h.perm.mem_iff.2 (mem_iota.2 ⟨by omega, by omega⟩)
  obtain ⟨j, hj, he⟩ := List.getElem_of_mem this
  exact ⟨j, hj, by rw [nth_lt hj]; exact he⟩
theorem isPerm_iota {n : Nat} (h : n ≤ 1000) : IsPerm (iota n) := ⟨by rw [iota_length], by rw [iota_length]; exact h⟩

theorem thenL_iota (b : List Int) : thenL (iota b.length) b = b := by
  apply ext_nth (by rw [thenL_length, iota_length])
  intro k hk
  rw [thenL_length, iota_length] at hk
  rw [nth_thenL _ _ _ (by rw [iota_length]; exact hk), nth_iota _ _ hk]; simp
theorem iota_thenL {a : List Int} (h : ∀ x ∈ a, 0 ≤ x ∧ x < a.length) : thenL a (iota a.length) = a := by
  apply ext_nth (by rw [thenL_length])
  intro k hk
  rw [thenL_length] at hk
  have := h _ (nth_mem hk)
  rw [nth_thenL _ _ _ hk, nth_iota _ _ (by omega)]; omega
theorem IsPerm.then {a b : List Int} (ha : IsPerm a) (hb : IsPerm b) (hl : a.length = b.length) : IsPerm (thenL a b) := by
  refine ⟨?_, by rw [thenL_length]; exact ha.small⟩
  rw [thenL_length, hl]
  have h1 : (thenL a b).Perm (thenL (iota a.length) b) := ha.perm.map _
  rw [hl, thenL_iota] at h1
  exact h1.trans hb.perm

/-- The first k numbers of a permutation written at their places. -/
def backTo (xs : List Int) (k : Nat) : List Int := (List.range k).foldl (fun acc i => acc.set (nth xs i).toNat i) (List.replicate xs.length 0)
def backL (xs : List Int) : List Int := backTo xs xs.length
theorem backTo_zero (xs : List Int) : backTo xs 0 = List.replicate xs.length 0 := rfl
theorem backTo_succ (xs : List Int) (k : Nat) : backTo xs (k + 1) = (backTo xs k).set (nth xs k).toNat k := by
  simp [backTo, List.range_succ]
theorem backTo_length (xs : List Int) (k : Nat) : (backTo xs k).length = xs.length := by
  induction k with
  | zero => simp [backTo]
  | succ k ih => rw [backTo_succ]; simp [ih]
theorem backL_length (xs : List Int) : (backL xs).length = xs.length := backTo_length _ _
theorem nth_set_same {xs : List Int} {k : Nat} (x : Int) (h : k < xs.length) : nth (xs.set k x) k = x := by
  rw [nth_lt (by simpa using h)]; simp
theorem nth_set_other {xs : List Int} {k j : Nat} (x : Int) (h : k ≠ j) : nth (xs.set k x) j = nth xs j := by
  simp [nth, List.getElem?_set_ne h]
theorem IsPerm.inj {xs : List Int} (h : IsPerm xs) {i j : Nat} (hi : i < xs.length) (hj : j < xs.length) (e : nth xs i = nth xs j) : i = j := by
  rw [nth_lt hi, nth_lt hj] at e
  exact (List.getElem_inj h.nodup).1 e
theorem backTo_hit {xs : List Int} (h : IsPerm xs) (k : Nat) (hk : k ≤ xs.length) : ∀ j, j < k → nth (backTo xs k) (nth xs j).toNat = j := by
  induction k with
  | zero => intro j hj; omega
  | succ k ih =>
    intro j hj
    have hrk := h.range _ (nth_mem (xs := xs) (k := k) (by omega))
    rw [backTo_succ]
    rcases Nat.lt_or_ge j k with h1 | h1
    · have hrj := h.range _ (nth_mem (xs := xs) (k := j) (by omega))
      rw [nth_set_other _ (fun e => by
        have := h.inj (i := k) (j := j) (by omega) (by omega) (by omega)
        omega)]
      exact ih (by omega) j h1
    · have e : j = k := by omega
      subst e
      rw [nth_set_same _ (by rw [backTo_length]; omega)]
theorem then_back {xs : List Int} (h : IsPerm xs) : thenL xs (backL xs) = iota xs.length := by
  apply ext_nth (by rw [thenL_length, iota_length])
  intro k hk
  rw [thenL_length] at hk
  rw [nth_thenL _ _ _ hk, nth_iota _ _ hk]
  exact backTo_hit h _ (Nat.le_refl _) k hk
theorem IsPerm.back {xs : List Int} (h : IsPerm xs) : IsPerm (backL xs) := by
  refine ⟨?_, by rw [backL_length]; exact h.small⟩
  have h1 : (thenL xs (backL xs)).Perm (thenL (iota xs.length) (backL xs)) := h.perm.map _
  rw [then_back h] at h1
  have h2 := thenL_iota (backL xs)
  rw [backL_length] at h2 ⊢
  rw [h2] at h1
  exact h1.symm

/-! ### The maker of permutations -/
end Go.Proofs.Ytmcecmnbdcbehaa

namespace Go.Proofs.Ytmcecmnbdcbehaa
open Go.RowKit Go.Sl

/-- Where a point is after k applications. -/
def itr (a : List Int) : Nat → Nat → Nat
  | 0, i => i
  | k + 1, i => (nth a (itr a k i)).toNat
def powL (a : List Int) : Nat → List Int
  | 0 => iota a.length
  | k + 1 => thenL (powL a k) a

theorem step_lt {a : List Int} (h : IsPerm a) {i : Nat} (hi : i < a.length) : (nth a i).toNat < a.length := by
  have := h.range _ (nth_mem hi); omega
theorem step_inj {a : List Int} (h : IsPerm a) {i j : Nat} (hi : i < a.length) (hj : j < a.length) (e : (nth a i).toNat = (nth a j).toNat) : i = j := by
  have h1 := h.range _ (nth_mem hi); have h2 := h.range _ (nth_mem hj)
  exact h.inj hi hj (by omega)
theorem itr_lt {a : List Int} (h : IsPerm a) (k : Nat) {i : Nat} (hi : i < a.length) : itr a k i < a.length := by
  induction k with
  | zero => exact hi
  | succ k ih => exact step_lt h ih
theorem itr_add (a : List Int) (j k i : Nat) : itr a (j + k) i = itr a j (itr a k i) := by
  induction j with
  | zero => rw [Nat.zero_add]; rfl
  | succ j ih => rw [show j + 1 + k = (j + k) + 1 by omega, itr, itr, ih]
theorem itr_inj {a : List Int} (h : IsPerm a) (k : Nat) {i j : Nat} (hi : i < a.length) (hj : j < a.length) (e : itr a k i = itr a k j) : i = j := by
  induction k with
  | zero => exact e
  | succ k ih => exact ih (step_inj h (itr_lt h k hi) (itr_lt h k hj) e)
theorem powL_length (a : List Int) (k : Nat) : (powL a k).length = a.length := by
  induction k with
  | zero => rw [powL, iota_length]
  | succ k ih => rw [powL, thenL_length, ih]
theorem nth_powL {a : List Int} (h : IsPerm a) (k : Nat) {i : Nat} (hi : i < a.length) : nth (powL a k) i = (itr a k i : Nat) := by
  induction k with
  | zero => exact nth_iota _ _ hi
  | succ k ih =>
    rw [powL, nth_thenL _ _ _ (by rw [powL_length]; exact hi), ih, itr]
    have := h.range _ (nth_mem (itr_lt h k hi))
    simp; omega
theorem powL_perm {a : List Int} (h : IsPerm a) (k : Nat) : IsPerm (powL a k) := by
  induction k with
  | zero => exact isPerm_iota h.small
  | succ k ih => exact ih.then h (powL_length a k)
theorem powL_add {a : List Int} (h : IsPerm a) (j k : Nat) : thenL (powL a j) (powL a k) = powL a (j + k) := by
  refine ext_nth (by rw [thenL_length, powL_length, powL_length]) fun i hi => ?_
  rw [thenL_length, powL_length] at hi
  rw [nth_thenL _ _ _ (by rw [powL_length]; exact hi), nth_powL h j hi, nth_powL h _ hi, Nat.add_comm, itr_add]
  exact nth_powL h k (itr_lt h j hi)
theorem powL_one {a : List Int} (h : IsPerm a) (k : Nat) : powL a k = iota a.length ↔ ∀ i, i < a.length → itr a k i = i := by
  constructor
  · intro e i hi
    have := nth_powL h k hi
    rw [e, nth_iota _ _ hi] at this
    omega
  · intro e
    refine ext_nth (by rw [powL_length, iota_length]) fun i hi => ?_
    rw [powL_length] at hi
    rw [nth_powL h k hi, nth_iota _ _ hi, e i hi]

/-- l is the first number of applications that lead from i back to i. -/
def Period (a : List Int) (i l : Nat) : Prop := 0 < l ∧ itr a l i = i ∧ ∀ j, 0 < j → j < l → itr a j i ≠ i
theorem Period.mul {a : List Int} {i l : Nat} (h : Period a i l) (q : Nat) : itr a (l * q) i = i := by
  induction q with
  | zero => rfl
  | succ q ih => rw [Nat.mul_succ, itr_add, h.2.1, ih]
theorem Period.iff {a : List Int} {i l : Nat} (h : Period a i l) (m : Nat) : l ∣ m ↔ itr a m i = i := by
  constructor
  · rintro ⟨q, rfl⟩; exact h.mul q
  · intro e
    have e1 : m % l + l * (m / l) = m := Nat.mod_add_div m l
    rw [← e1, itr_add, h.mul] at e
    have hlt := Nat.mod_lt m h.1
    rcases Nat.eq_zero_or_pos (m % l) with h0 | h0
    · exact Nat.dvd_of_mod_eq_zero h0
    · exact absurd e (h.2.2 _ h0 hlt)

open Classical in
/-- How many numbers below n have the property. -/
noncomputable def cntN (P : Nat → Prop) : Nat → Nat
  | 0 => 0
  | n + 1 => cntN P n + if P n then 1 else 0
theorem cntN_congr {P Q : Nat → Prop} (n : Nat) (h : ∀ j, j < n → (P j ↔ Q j)) : cntN P n = cntN Q n := by
  induction n with
  | zero => rfl
  | succ n ih =>
    rw [cntN, cntN, ih fun j hj => h j (by omega)]
    by_cases e : P n
    · rw [if_pos e, if_pos ((h n (by omega)).1 e)]
    · rw [if_neg e, if_neg (fun q => e ((h n (by omega)).2 q))]
theorem cntN_none {P : Nat → Prop} (n : Nat) (h : ∀ j, j < n → ¬ P j) : cntN P n = 0 := by
  induction n with
  | zero => rfl
  | succ n ih => rw [cntN, ih fun j hj => h j (by omega), if_neg (h n (by omega))]
theorem cntN_all {P : Nat → Prop} (n : Nat) (h : ∀ j, j < n → P j) : cntN P n = n := by
  induction n with
  | zero => rfl
  | succ n ih => rw [cntN, ih fun j hj => h j (by omega), if_pos (h n (by omega))]
theorem cntN_one {P Q : Nat → Prop} (n x : Nat) (hx : x < n) (h : ¬ P x) (hq : ∀ j, j < n → (Q j ↔ P j ∨ j = x)) : cntN Q n = cntN P n + 1 := by
  induction n with
  | zero => omega
  | succ n ih =>
    rw [cntN, cntN]
    by_cases e : x = n
    · subst e
      rw [if_pos ((hq x (by omega)).2 (.inr rfl)), if_neg h, cntN_congr (P := Q) (Q := P) x fun j hj => by rw [hq j (by omega)]; exact ⟨fun h => h.elim id (fun e => by omega), .inl⟩]
    · rw [ih (by omega) fun j hj => hq j (by omega)]
      by_cases e2 : P n
      · rw [if_pos ((hq n (by omega)).2 (.inl e2)), if_pos e2]
      · rw [if_neg (fun q => ((hq n (by omega)).1 q).elim e2 (fun e3 => e e3.symm)), if_neg e2]
theorem Period.uniq {a : List Int} {i l m : Nat} (h : Period a i l) (k : Period a i m) : l = m := by
  rcases Nat.lt_trichotomy l m with h1 | h1 | h1
  · exact absurd h.2.1 (k.2.2 l h.1 h1)
  · exact h1
  · exact absurd k.2.1 (h.2.2 m k.1 h1)
theorem Period.along {a : List Int} (ha : IsPerm a) {i l : Nat} (hi : i < a.length) (h : Period a i l) (t : Nat) : Period a (itr a t i) l := by
  refine ⟨h.1, ?_, fun j h1 h2 e => ?_⟩
  · rw [← itr_add, Nat.add_comm, itr_add, h.2.1]
  · rw [← itr_add, Nat.add_comm, itr_add] at e
    exact h.2.2 j h1 h2 (itr_inj ha t (itr_lt ha _ hi) hi e)

/-- What is marked. -/
def at? (D : List Bool) (i : Nat) : Bool := D.getD i false
def cntT : List Bool → Nat
  | [] => 0
  | true :: D => cntT D + 1
  | false :: D => cntT D
theorem cntT_le (D : List Bool) : cntT D ≤ D.length := by
  induction D with
  | nil => exact Nat.le_refl _
  | cons b D ih => cases b <;> simp [cntT] <;> omega
theorem cntT_all {D : List Bool} (h : ∀ i, i < D.length → at? D i = true) : cntT D = D.length := by
  induction D with
  | nil => rfl
  | cons b D ih =>
    have h0 := h 0 (by simp)
    simp [at?] at h0
    subst h0
    rw [cntT, List.length_cons, ih fun i hi => by simpa [at?] using h (i + 1) (by simpa using hi)]
theorem cntT_set {D : List Bool} {i : Nat} (hi : i < D.length) (h : at? D i = false) : cntT (D.set i true) = cntT D + 1 := by
  induction D generalizing i with
  | nil => simp at hi
  | cons b D ih =>
    cases i with
    | zero => simp [at?] at h; subst h; simp [cntT]
    | succ i =>
      have := ih (i := i) (by simpa using hi) (by simpa [at?] using h)
      cases b <;> simp [cntT, this]
theorem cntT_lt {D : List Bool} {i : Nat} (hi : i < D.length) (h : at? D i = false) : cntT D < D.length := by
  have h1 := cntT_set hi h
  have h2 := cntT_le (D.set i true)
  rw [List.length_set] at h2
  omega
theorem at_set {D : List Bool} {i : Nat} (hi : i < D.length) (j : Nat) : at? (D.set i true) j = if j = i then true else at? D j := by
  unfold at?
  by_cases h : j = i
  · subst h; simp [hi]
  · rw [if_neg h]; simp [List.getD_eq_getElem?_getD, List.getElem?_set, Ne.symm h]
theorem cntT_replicate (n : Nat) : cntT (List.replicate n false) = 0 := by
  induction n with
  | zero => rfl
  | succ n ih => rw [List.replicate_succ, cntT, ih]
theorem at_replicate (n i : Nat) : at? (List.replicate n false) i = false := by
  unfold at?
  by_cases h : i < n
  · simp [List.getD_eq_getElem?_getD, List.getElem?_replicate, h]
  · simp [List.getD_eq_getElem?_getD, List.getElem?_replicate, h]

/-- The cycles so far: what is marked is a union of cycles whose lengths are L. -/
structure Cyc (a : List Int) (D : List Bool) (L : List Nat) : Prop where
  len : D.length = a.length
  back : ∀ i, i < a.length → at? D (nth a i).toNat = true → at? D i = true
  forth : ∀ i, i < a.length → at? D i = true → at? D (nth a i).toNat = true
  iff : ∀ m, (∀ l, l ∈ L → l ∣ m) ↔ ∀ i, i < a.length → at? D i = true → itr a m i = i
  pos : ∀ l, l ∈ L → 0 < l
  sum : L.sum = cntT D
  cntP : ∀ l, l * L.count l = cntN (fun j => at? D j = true ∧ Period a j l) a.length
  reps : L.length = cntN (fun j => at? D j = true ∧ ∀ k, j ≤ itr a k j) a.length
theorem cyc_nil (a : List Int) : Cyc a (List.replicate a.length false) [] :=
  ⟨by simp, fun i _ h => (by rw [at_replicate] at h; cases h), fun i _ h => (by rw [at_replicate] at h; cases h),
    fun m => ⟨fun _ i _ h => (by rw [at_replicate] at h; cases h), fun _ l h => (by cases h)⟩, fun l h => (by cases h), by simp [cntT_replicate],
    fun l => by rw [cntN_none _ (fun j _ h => by have := h.1; rw [at_replicate] at this; cases this)]; rfl, by rw [cntN_none _ (fun j _ h => by have := h.1; rw [at_replicate] at this; cases this)]; rfl⟩
/-- Inside a cycle: k points of it are marked. -/
structure Cyc1 (a : List Int) (D : List Bool) (i k : Nat) (E : List Bool) : Prop where
  len : E.length = a.length
  free : at? D i = false ∨ k = 0 ∧ at? D i = true
  mark : ∀ j, at? E j = true ↔ at? D j = true ∨ ∃ t, t < k ∧ itr a t i = j
  new : ∀ t, t < k → at? D (itr a t i) = false
  diff : ∀ s t, s < t → t < k → itr a s i ≠ itr a t i
  cnt : cntT E = cntT D + k
  cntA : ∀ P : Nat → Prop, cntN (fun j => at? E j = true ∧ P j) a.length = cntN (fun j => at? D j = true ∧ P j) a.length + cntN (fun t => P (itr a t i)) k
theorem cyc1_start {a : List Int} {D : List Bool} (hl : D.length = a.length) (i : Nat) : Cyc1 a D i 0 D :=
  ⟨hl, by cases h : at? D i <;> simp, fun j => by simp, fun t h => by omega, fun s t _ h => by omega, rfl, fun _ => rfl⟩
theorem Cyc1.step {a : List Int} {D E : List Bool} {i k : Nat} (ha : IsPerm a) (hi : i < a.length) (h : Cyc1 a D i k E) (hx : at? E (itr a k i) = false) : Cyc1 a D i (k + 1) (E.set (itr a k i) true) := by
  have hlt := itr_lt ha k hi
  have hno : ¬ (at? D (itr a k i) = true ∨ ∃ t, t < k ∧ itr a t i = itr a k i) := fun hh => by
    rw [(h.mark _).2 hh] at hx; cases hx
  have hD : at? D (itr a k i) = false := by
    cases e : at? D (itr a k i) with
    | false => rfl
    | true => exact absurd (.inl e) hno
  refine ⟨by rw [List.length_set, h.len], .inl ?_, fun j => ?_, fun t ht => ?_, fun s t hs ht => ?_, by rw [cntT_set (by rw [h.len]; exact hlt) hx, h.cnt]; omega, fun P => ?_⟩
  · rcases h.free with h1 | ⟨h1, h2⟩
    · exact h1
    · subst h1; exact hD
  · rw [at_set (by rw [h.len]; exact hlt)]
    by_cases e : j = itr a k i
    · subst e; simp only [if_true, true_iff]; exact .inr ⟨k, by omega, rfl⟩
    · rw [if_neg e, h.mark]
      constructor
      · rintro (h1 | ⟨t, h1, h2⟩)
        · exact .inl h1
        · exact .inr ⟨t, by omega, h2⟩
      · rintro (h1 | ⟨t, h1, h2⟩)
        · exact .inl h1
        · rcases Nat.lt_or_ge t k with h3 | h3
          · exact .inr ⟨t, h3, h2⟩
          · exact absurd h2.symm (by rw [show t = k by omega]; exact e)
  · rcases Nat.lt_or_ge t k with h3 | h3
    · exact h.new t h3
    · rw [show t = k by omega]; exact hD
  · rcases Nat.lt_or_ge t k with h3 | h3
    · exact h.diff s t hs h3
    · rw [show t = k by omega]; exact fun e => hno (.inr ⟨s, by omega, e⟩)
  · have hE := h.len
    rw [cntN]
    by_cases hp : P (itr a k i)
    · rw [if_pos hp, ← Nat.add_assoc, ← h.cntA P]
      refine cntN_one _ (itr a k i) hlt (fun e => by rw [hx] at e; cases e.1) fun j _ => ?_
      rw [at_set (by rw [hE]; exact hlt)]
      by_cases e : j = itr a k i
      · subst e; simp [hp]
      · simp [e]
    · rw [if_neg hp, Nat.add_zero, ← h.cntA P]
      refine cntN_congr _ fun j _ => ?_
      rw [at_set (by rw [hE]; exact hlt)]
      by_cases e : j = itr a k i
      · subst e; simp [hp]
      · simp [e]
theorem Cyc.itr_back {a : List Int} {D : List Bool} {L : List Nat} (ha : IsPerm a) (h : Cyc a D L) {i : Nat} (hi : i < a.length) (k : Nat) (hk : at? D (itr a k i) = true) : at? D i = true := by
  induction k with
  | zero => exact hk
  | succ k ih => exact ih (h.back _ (itr_lt ha k hi) hk)
/-- The end of a cycle. -/
theorem Cyc1.done {a : List Int} {D E : List Bool} {L : List Nat} {i k : Nat} (ha : IsPerm a) (hi : i < a.length) (hc : Cyc a D L) (h : Cyc1 a D i k E) (hx : at? E (itr a k i) = true) (hall : ∀ j, j < i → at? D j = true) :
    (k = 0 ∧ Cyc a E L ∧ at? E i = true ∧ ∀ j, at? D j = true → at? E j = true) ∨ (0 < k ∧ Cyc a E (L ++ [k]) ∧ at? E i = true ∧ ∀ j, at? D j = true → at? E j = true) := by
  have hmono : ∀ j, at? D j = true → at? E j = true := fun j hj => (h.mark j).2 (.inl hj)
  rcases h.free with hf | ⟨h1, h2⟩
  · have hk : 0 < k := by
      rcases Nat.eq_zero_or_pos k with h0 | h0
      · subst h0
        rcases (h.mark _).1 hx with h1 | ⟨t, ht, _⟩
        · have h1 : at? D i = true := h1
          rw [hf] at h1; cases h1
        · omega
      · exact h0
    have hper : Period a i k := by
      have hne : ∀ j, 0 < j → j < k → itr a j i ≠ i := fun j h1 h2 e => h.diff 0 j h1 h2 e.symm
      refine ⟨hk, ?_, hne⟩
      rcases (h.mark _).1 hx with h1 | ⟨t, ht, he⟩
      · have := hc.itr_back ha hi k h1
        rw [hf] at this; cases this
      · rcases Nat.eq_zero_or_pos t with h0 | h0
        · subst h0; exact he.symm
        · exfalso
          have e1 : itr a t (itr a (k - t) i) = itr a t i := by rw [← itr_add, show t + (k - t) = k by omega]; exact he.symm
          exact hne (k - t) (by omega) (by omega) (itr_inj ha t (itr_lt ha _ hi) hi e1)
    refine .inr ⟨hk, ⟨h.len, fun j hj hjm => ?_, fun j hj hjm => ?_, fun m => ?_, ?_, ?_, fun l => ?_, ?_⟩, (h.mark i).2 (.inr ⟨0, hk, rfl⟩), hmono⟩
    · rcases (h.mark _).1 hjm with h1 | ⟨t, ht, he⟩
      · exact hmono _ (hc.back j hj h1)
      · refine (h.mark j).2 (.inr ?_)
        rcases Nat.eq_zero_or_pos t with h0 | h0
        · subst h0
          refine ⟨k - 1, by omega, ?_⟩
          have e1 : itr a (k - 1 + 1) i = i := by rw [show k - 1 + 1 = k by omega]; exact hper.2.1
          exact step_inj ha (itr_lt ha _ hi) hj (e1.trans he)
        · refine ⟨t - 1, by omega, ?_⟩
          have e1 : itr a (t - 1 + 1) i = itr a t i := by rw [show t - 1 + 1 = t by omega]
          exact step_inj ha (itr_lt ha _ hi) hj (e1.trans he)
    · rcases (h.mark _).1 hjm with h1 | ⟨t, ht, he⟩
      · exact hmono _ (hc.forth j hj h1)
      · refine (h.mark _).2 (.inr ?_)
        subst he
        rcases Nat.lt_or_ge (t + 1) k with h3 | h3
        · exact ⟨t + 1, h3, rfl⟩
        · refine ⟨0, hk, ?_⟩
          have e1 : itr a (t + 1) i = i := by rw [show t + 1 = k by omega]; exact hper.2.1
          exact e1.symm
    · constructor
      · intro hm j hj hjm
        rcases (h.mark j).1 hjm with h1 | ⟨t, ht, he⟩
        · exact (hc.iff m).1 (fun l hl => hm l (by simp [hl])) j hj h1
        · subst he
          have := (hper.iff m).1 (hm k (by simp))
          rw [← itr_add, Nat.add_comm, itr_add, this]
      · intro hm l hl
        rcases List.mem_append.1 hl with h1 | h1
        · exact (hc.iff m).2 (fun j hj hjm => hm j hj (hmono j hjm)) l h1
        · rw [List.mem_singleton.1 h1]
          exact (hper.iff m).2 (hm i hi ((h.mark i).2 (.inr ⟨0, hk, rfl⟩)))
    · intro l hl
      rcases List.mem_append.1 hl with h1 | h1
      · exact hc.pos l h1
      · rw [List.mem_singleton.1 h1]; exact hk
    · rw [List.sum_append, hc.sum, h.cnt]; simp
    · rw [h.cntA, ← hc.cntP, List.count_append, Nat.mul_add]
      congr 1
      by_cases e : l = k
      · subst e
        rw [cntN_all _ fun t _ => hper.along ha hi t]; simp
      · rw [cntN_none _ fun t _ hq => e (hq.uniq (hper.along ha hi t)), List.count_eq_zero_of_not_mem (by simpa using e)]; simp
    · rw [h.cntA, ← hc.reps, List.length_append]
      congr 1
      have hmin : ∀ t, i ≤ itr a t i := fun t => by
        rcases Nat.lt_or_ge (itr a t i) i with h3 | h3
        · have := hc.itr_back ha hi t (hall _ h3)
          rw [hf] at this; cases this
        · exact h3
      have h0 : cntN (fun t => ∀ k', itr a t i ≤ itr a k' (itr a t i)) k = cntN (fun _ => False) k + 1 := by
        refine cntN_one k 0 hk (fun e => e) fun t ht => ⟨fun hq => ?_, fun e => ?_⟩
        · right
          rcases Nat.eq_zero_or_pos t with h3 | h3
          · exact h3
          · exfalso
            have h4 := hq (k - t)
            rw [← itr_add, show k - t + t = k by omega, hper.2.1] at h4
            exact h.diff 0 t h3 ht (Nat.le_antisymm (hmin t) h4)
        · rcases e with e | e
          · exact e.elim
          · subst e; exact hmin
      rw [h0, cntN_none _ fun _ _ e => e]; rfl
  · subst h1
    refine .inl ⟨rfl, ⟨h.len, fun j hj hjm => ?_, fun j hj hjm => ?_, fun m => ?_, hc.pos, by rw [hc.sum, h.cnt]; rfl, fun l => by rw [h.cntA, hc.cntP]; rfl, by rw [h.cntA, hc.reps]; rfl⟩, hmono i h2, hmono⟩
    · rcases (h.mark _).1 hjm with h3 | ⟨t, ht, _⟩
      · exact hmono _ (hc.back j hj h3)
      · omega
    · rcases (h.mark _).1 hjm with h3 | ⟨t, ht, _⟩
      · exact hmono _ (hc.forth j hj h3)
      · omega
    · rw [hc.iff m]
      constructor
      · intro hm j hj hjm
        rcases (h.mark _).1 hjm with h3 | ⟨t, ht, _⟩
        · exact hm j hj h3
        · omega
      · intro hm j hj hjm
        exact hm j hj (hmono j hjm)

/-- The lengths of all cycles. -/
structure CycOK (a : List Int) (L : List Nat) : Prop where
  iff : ∀ m, (∀ l, l ∈ L → l ∣ m) ↔ ∀ i, i < a.length → itr a m i = i
  pos : ∀ l, l ∈ L → 0 < l
  sum : L.sum = a.length
  cntP : ∀ l, l * L.count l = cntN (fun j => Period a j l) a.length
  reps : L.length = cntN (fun j => ∀ k, j ≤ itr a k j) a.length
theorem Cyc.ok {a : List Int} {D : List Bool} {L : List Nat} (h : Cyc a D L) (hd : ∀ i, i < a.length → at? D i = true) : CycOK a L :=
  ⟨fun m => by
    rw [h.iff m]
    exact ⟨fun hm i hi => hm i hi (hd i hi), fun hm i hi _ => hm i hi⟩, h.pos, by rw [h.sum, cntT_all (by rw [h.len]; exact hd), h.len],
    fun l => (h.cntP l).trans (cntN_congr _ fun j hj => ⟨fun e => e.2, fun e => ⟨hd j hj, e⟩⟩), h.reps.trans (cntN_congr _ fun j hj => ⟨fun e => e.2, fun e => ⟨hd j hj, e⟩⟩)⟩

def lcmL (L : List Nat) : Nat := L.foldl Nat.lcm 1
theorem lcmL_snoc (L : List Nat) (l : Nat) : lcmL (L ++ [l]) = Nat.lcm (lcmL L) l := by simp [lcmL]
theorem lcmL_dvd (L : List Nat) (m : Nat) : lcmL L ∣ m ↔ ∀ l, l ∈ L → l ∣ m := by
  obtain ⟨M, hM⟩ : ∃ M, M = L.reverse := ⟨_, rfl⟩
  obtain rfl : L = M.reverse := by rw [hM, List.reverse_reverse]
  clear hM
  induction M with
  | nil => simp [lcmL]
  | cons x M ih =>
    rw [List.reverse_cons, lcmL_snoc]
    constructor
    · intro h l hl
      rcases List.mem_append.1 hl with h1 | h1
      · exact ih.1 (Nat.dvd_trans (Nat.dvd_lcm_left _ _) h) l h1
      · rw [List.mem_singleton.1 h1]; exact Nat.dvd_trans (Nat.dvd_lcm_right _ _) h
    · intro h
      exact Nat.lcm_dvd (ih.2 fun l hl => h l (List.mem_append.2 (.inl hl))) (h x (by simp))
theorem lcmL_bound (L : List Nat) (h : ∀ l, l ∈ L → 0 < l) : 0 < lcmL L ∧ lcmL L ≤ 2 ^ L.sum := by
  obtain ⟨M, hM⟩ : ∃ M, M = L.reverse := ⟨_, rfl⟩
  obtain rfl : L = M.reverse := by rw [hM, List.reverse_reverse]
  clear hM
  induction M with
  | nil => simp [lcmL]
  | cons x M ih =>
    rw [List.reverse_cons, lcmL_snoc, List.sum_append]
    obtain ⟨h1, h2⟩ := ih fun l hl => h l (by rw [List.reverse_cons]; exact List.mem_append.2 (.inl hl))
    have hx : 0 < x := h x (by simp)
    refine ⟨Nat.lcm_pos h1 hx, ?_⟩
    have h3 : Nat.lcm (lcmL M.reverse) x ≤ lcmL M.reverse * x := by
      unfold Nat.lcm; exact Nat.div_le_self _ _
    have h4 : x ≤ 2 ^ x := Nat.le_of_lt Nat.lt_two_pow_self
    have h5 := Nat.mul_le_mul h2 h4
    rw [← Nat.pow_add] at h5
    simp only [List.sum_cons, List.sum_nil, Nat.add_zero]
    omega
theorem sum_take_le (L : List Nat) (k : Nat) : (L.take k).sum ≤ L.sum := by
  conv => rhs; rw [← List.take_append_drop k L]
  rw [List.sum_append]; omega

/-- The order. -/
structure IsOrder (a : List Int) (m : Nat) : Prop where
  pos : 0 < m
  small : m ≤ 512
  pow : m ≤ 2 ^ a.length
  iff : ∀ k, powL a k = iota a.length ↔ m ∣ k
theorem CycOK.order {a : List Int} {L : List Nat} (ha : IsPerm a) (h : CycOK a L) (hs : a.length ≤ 9) : IsOrder a (lcmL L) := by
  obtain ⟨h1, h2⟩ := lcmL_bound L h.pos
  have h3 : 2 ^ L.sum ≤ 2 ^ 9 := Nat.pow_le_pow_right (by omega) (by rw [h.sum]; exact hs)
  exact ⟨h1, by omega, by rw [← h.sum]; exact h2, fun k => by rw [lcmL_dvd, h.iff, powL_one ha]⟩
theorem IsOrder.mod {a : List Int} {m : Nat} (ha : IsPerm a) (h : IsOrder a m) (k q : Nat) : powL a (k + m * q) = powL a k := by
  have e : powL a (m * q) = iota a.length := (h.iff _).2 ⟨q, rfl⟩
  rw [← powL_add ha, e]
  have := iota_thenL (a := powL a k) (powL_perm ha k).range
  rwa [powL_length] at this
theorem IsOrder.sum {a : List Int} {m : Nat} (ha : IsPerm a) (h : IsOrder a m) (i k : Int) : thenL (powL a (i % m).toNat) (powL a (k % m).toNat) = powL a ((i + k) % m).toNat := by
  rw [powL_add ha]
  have hm : (0 : Int) < m := by have := h.pos; omega
  have h1 := Int.emod_nonneg i (b := (m : Int)) (by omega)
  have h2 := Int.emod_nonneg k (b := (m : Int)) (by omega)
  have h3 := Int.emod_nonneg (i + k) (b := (m : Int)) (by omega)
  have h4 := Int.emod_lt_of_pos (i + k) hm
  have e : (i + k) % (m : Int) = (i % m + k % m) % m := by rw [Int.add_emod]
  have h5 := Int.emod_add_mul_ediv (i % m + k % m) m
  rw [← e] at h5
  have h6 : 0 ≤ (i % m + k % m) / (m : Int) := Int.ediv_nonneg (by omega) (by omega)
  obtain ⟨q, hq⟩ := Int.eq_ofNat_of_zero_le h6
  rw [hq] at h5
  have h7 : (i % m).toNat + (k % m).toNat = ((i + k) % m).toNat + m * q := by
    have : ((m * q : Nat) : Int) = (m : Int) * (q : Int) := by simp
    omega
  rw [h7, h.mod ha]
end Go.Proofs.Ytmcecmnbdcbehaa

namespace Go.Proofs.Ytmcecmnbdcbehaa
open Go.RowKit Go.Sl

def nthv (vs : List Value) (i : Nat) : Value := vs.getD i undef
def nthr (xss : List (List Int)) (i : Nat) : List Int := xss.getD i []
theorem nthv_lt {vs : List Value} {i : Nat} (h : i < vs.length) : nthv vs i = vs[i] := by simp [nthv, h]
theorem nthr_lt {xss : List (List Int)} {i : Nat} (h : i < xss.length) : nthr xss i = xss[i] := by simp [nthr, h]
theorem nthr_mem {xss : List (List Int)} {i : Nat} (h : i < xss.length) : nthr xss i ∈ xss := by rw [nthr_lt h]; exact List.getElem_mem h

/-- The slice v of slices holds the values vs, which read as the lists xss. -/
def RowsV (w : World) (v : Value) (vs : List Value) (xss : List (List Int)) : Prop := Sl w v 1 vs ∧ vs.length = xss.length ∧ ∀ i, i < xss.length → Ints w (nthv vs i) (nthr xss i)
def Rows2 (w : World) (v : Value) (xss : List (List Int)) : Prop := ∃ vs, RowsV w v vs xss

section
variable {w w' : World} {v : Value} {vs : List Value} {xss : List (List Int)} {B : Nat}
theorem RowsV.isSl (h : RowsV w v vs xss) : IsSl v := h.1.1
theorem RowsV.len (h : RowsV w v vs xss) : vlen v = xss.length := by have := h.1.2.1; rw [h.2.1] at this; omega
theorem RowsV.cell (h : RowsV w v vs xss) {i : Nat} (hi : i < xss.length) : w.cell? (vat v i) = some (nthv vs i) := by
  have := Sl.cell h.1 (j := i) (by rw [h.2.1]; exact hi)
  rw [this, nthv_lt (by rw [h.2.1]; exact hi)]
theorem RowsV.row (h : RowsV w v vs xss) {i : Nat} (hi : i < xss.length) : Ints w (nthv vs i) (nthr xss i) := h.2.2 i hi
theorem RowsV.below (h : RowsV w v vs xss) (hb : Below w.heap.size w w') : RowsV w' v vs xss := ⟨h.1.below hb, h.2.1, fun i hi => (h.2.2 i hi).below hb⟩
theorem RowsV.alloc (h : RowsV w v vs xss) (o : Obj) : RowsV (w.alloc o) v vs xss := h.below ((Below.refl _ _).alloc (Nat.le_refl _) o)
theorem Rows2.isSl (h : Rows2 w v xss) : IsSl v := h.choose_spec.isSl
theorem Rows2.len (h : Rows2 w v xss) : vlen v = xss.length := h.choose_spec.len
theorem Rows2.below (h : Rows2 w v xss) (hb : Below w.heap.size w w') : Rows2 w' v xss := let ⟨vs, h⟩ := h; ⟨vs, h.below hb⟩
/-- The call's own slice of slices: its rows are read, it may be appended to. -/
def OwnR (w : World) (B : Nat) (v : Value) (xss : List (List Int)) : Prop := ∃ vs, Own w B 25 1 v vs ∧ vs.length = xss.length ∧ ∀ i, i < xss.length → Ints w (nthv vs i) (nthr xss i)
theorem OwnR.rows (h : OwnR w B v xss) : Rows2 w v xss := let ⟨vs, a, b, c⟩ := h; ⟨vs, a.sl, b, c⟩
theorem OwnR.isSl (h : OwnR w B v xss) : IsSl v := h.rows.isSl
theorem OwnR.len (h : OwnR w B v xss) : vlen v = xss.length := h.rows.len
theorem OwnR.lt (h : OwnR w B v xss) : ∀ k, row v = some k → B ≤ k ∧ k < w.heap.size := let ⟨_, a, _, _⟩ := h; a.lt
theorem OwnR.below (h : OwnR w B v xss) (hb : Below w.heap.size w w') : OwnR w' B v xss := let ⟨vs, a, b, c⟩ := h; ⟨vs, a.below hb, b, fun i hi => (c i hi).below hb⟩
theorem OwnR.low (h : OwnR w B v xss) {B' : Nat} (hB : B' ≤ B) : OwnR w B' v xss := let ⟨vs, a, b, c⟩ := h; ⟨vs, a.low hB, b, c⟩
/-- No row lies in the slice's own block. -/
def OwnR.apart (w : World) (B : Nat) (v : Value) (xss : List (List Int)) : Prop := ∃ vs, Own w B 25 1 v vs ∧ vs.length = xss.length ∧ (∀ i, i < xss.length → Ints w (nthv vs i) (nthr xss i)) ∧ ∀ i, i < xss.length → 0 < (nthr xss i).length → row v ≠ some (vblk (nthv vs i))
theorem OwnR.apart.own (h : OwnR.apart w B v xss) : OwnR w B v xss := let ⟨vs, a, b, c, _⟩ := h; ⟨vs, a, b, c⟩
theorem OwnR.apart.below (h : OwnR.apart w B v xss) (hb : Below w.heap.size w w') : OwnR.apart w' B v xss := let ⟨vs, a, b, c, d⟩ := h; ⟨vs, a.below hb, b, fun i hi => (c i hi).below hb, d⟩
end

theorem Ints.keep {w w' : World} {v : Value} {xs : List Int} (h : Ints w v xs) {r : Option Nat} (hg : w.grownBy w' r) (hr : 0 < xs.length → r ≠ some (vblk v)) : Ints w' v xs := by
  rcases Nat.eq_zero_or_pos xs.length with h0 | h0
  · obtain rfl := List.eq_nil_of_length_eq_zero h0
    exact ⟨h.1, h.2.1, by simp⟩
  · exact h.grown hg fun k hk e => hr h0 (by rw [hk, e])
end Go.Proofs.Ytmcecmnbdcbehaa

namespace Go.Proofs.Ytmcecmnbdcbehaa
open Go.RowKit Go.Sl

def fact : Nat → Nat
  | 0 => 1
  | n + 1 => (n + 1) * fact n
/-- How many of the numbers are smaller. -/
def less (xs : List Int) (x : Int) : Nat := (xs.filter fun y => decide (y < x)).length
/-- The rank, from the first element on. -/
def rk : List Int → Nat
  | [] => 0
  | x :: xs => less xs x * fact xs.length + rk xs
/-- Strictly ascending. -/
def Asc (l : List Int) : Prop := l.Pairwise (· < ·)
theorem Asc.lt {l : List Int} (h : Asc l) {i j : Nat} (hij : i < j) (hj : j < l.length) : nth l i < nth l j := by
  rw [nth_lt hj, nth_lt (by omega)]
  exact List.pairwise_iff_getElem.1 h i j (by omega) hj hij
end Go.Proofs.Ytmcecmnbdcbehaa

namespace Go.Proofs.Ytmcecmnbdcbehaa
open Go.RowKit Go.Sl

/-- One letter onto the stack (its top is the list's head). -/
def psh (s : List Int) (x : Int) : List Int :=
  match s with
  | [] => [x]
  | y :: t => if y = -x then t else x :: y :: t
def act (s xs : List Int) : List Int := xs.foldl psh s
def redL (xs : List Int) : List Int := (act [] xs).reverse
def invL (xs : List Int) : List Int := (xs.map (- ·)).reverse
/-- No letter beside its inverse. -/
def Rd : List Int → Prop
  | [] => True
  | [_] => True
  | y :: z :: t => z ≠ -y ∧ Rd (z :: t)

theorem Rd.tail {y : Int} {t : List Int} (h : Rd (y :: t)) : Rd t := by
  cases t with
  | nil => trivial
  | cons z t => exact h.2
theorem rd_nil : Rd [] := trivial
theorem psh_rd {s : List Int} (h : Rd s) (x : Int) : Rd (psh s x) := by
  cases s with
  | nil => trivial
  | cons y t =>
    rw [psh]
    split
    · exact h.tail
    · rename_i hn; exact ⟨hn, h⟩
theorem psh_psh {s : List Int} (h : Rd s) (x : Int) : psh (psh s x) (-x) = s := by
  cases s with
  | nil => simp [psh]
  | cons y t =>
    by_cases hy : y = -x
    · subst hy
      rw [psh, if_pos rfl]
      cases t with
      | nil => rfl
      | cons z t => rw [psh, if_neg h.1]
    · rw [psh, if_neg hy, psh, if_pos (by omega)]
theorem act_append (s xs ys : List Int) : act s (xs ++ ys) = act (act s xs) ys := List.foldl_append
theorem act_snoc (s xs : List Int) (x : Int) : act s (xs ++ [x]) = psh (act s xs) x := by rw [act_append]; rfl
theorem act_rd {s : List Int} (h : Rd s) (xs : List Int) : Rd (act s xs) := by
  induction xs generalizing s with
  | nil => exact h
  | cons x xs ih => exact ih (psh_rd h x)
theorem act_invL {s : List Int} (h : Rd s) (xs : List Int) : act (act s xs) (invL xs) = s := by
  induction xs generalizing s with
  | nil => rfl
  | cons x xs ih =>
    have e : invL (x :: xs) = invL xs ++ [-x] := by simp [invL]
    rw [e, act_snoc]
    have := ih (psh_rd h x)
    rw [show act s (x :: xs) = act (psh s x) xs from rfl, this, psh_psh h]
theorem invL_invL (xs : List Int) : invL (invL xs) = xs := by
  simp [invL, List.map_reverse, Function.comp_def]
theorem psh_mem {s : List Int} {x y : Int} (h : y ∈ psh s x) : y ∈ s ∨ y = x := by
  cases s with
  | nil => simp [psh] at h; exact .inr h
  | cons z t =>
    rw [psh] at h
    split at h
    · exact .inl (List.mem_cons_of_mem _ h)
    · rcases List.mem_cons.1 h with h | h
      · exact .inr h
      · exact .inl h
theorem act_mem {s xs : List Int} {y : Int} (h : y ∈ act s xs) : y ∈ s ∨ y ∈ xs := by
  induction xs generalizing s with
  | nil => exact .inl h
  | cons x xs ih =>
    rcases ih (s := psh s x) h with h' | h'
    · rcases psh_mem h' with h'' | h''
      · exact .inl h''
      · exact .inr (by simp [h''])
    · exact .inr (List.mem_cons_of_mem _ h')
theorem redL_mem {xs : List Int} {y : Int} (h : y ∈ redL xs) : y ∈ xs := by
  rw [redL, List.mem_reverse] at h
  rcases act_mem h with h' | h'
  · cases h'
  · exact h'

end Go.Proofs.Ytmcecmnbdcbehaa

namespace Go.Proofs.Ytmcecmnbdcbehaa
open Go.RowKit Go.Sl

theorem rd_iff (l : List Int) : Rd l ↔ ∀ i, i + 1 < l.length → nth l (i + 1) ≠ -(nth l i) := by
  induction l with
  | nil => exact ⟨fun _ i h => by simp at h, fun _ => trivial⟩
  | cons x t ih =>
    cases t with
    | nil => exact ⟨fun _ i h => by simp at h, fun _ => trivial⟩
    | cons y t =>
      constructor
      · rintro ⟨h1, h2⟩ i hi
        cases i with
        | zero => simpa [nth] using h1
        | succ i =>
          have := ih.1 h2 i (by simpa using hi)
          simpa [nth] using this
      · intro h
        refine ⟨by simpa [nth] using h 0 (by simp), ih.2 fun i hi => ?_⟩
        have := h (i + 1) (by simpa using hi)
        simpa [nth] using this
theorem rd_mid {a b : List Int} {y x : Int} (h : Rd (a ++ y :: x :: b)) : x ≠ -y := by
  induction a with
  | nil => exact h.1
  | cons z a ih => exact ih (Rd.tail h)
theorem act_rd_append (l : List Int) : ∀ s, Rd (s.reverse ++ l) → act s l = l.reverse ++ s := by
  induction l with
  | nil => intro s _; rfl
  | cons x l ih =>
    intro s h
    have hp : psh s x = x :: s := by
      cases s with
      | nil => rfl
      | cons y t =>
        rw [psh, if_neg]
        intro e
        rw [List.reverse_cons, List.append_assoc] at h
        exact rd_mid h (by omega)
    show act (psh s x) l = _
    rw [hp, ih (x :: s) (by rw [List.reverse_cons, List.append_assoc]; exact h)]
    simp
theorem redL_of_rd {l : List Int} (h : Rd l) : redL l = l := by
  rw [redL, act_rd_append l [] (by simpa using h)]; simp
theorem nth_append (a b : List Int) (i : Nat) : nth (a ++ b) i = if i < a.length then nth a i else nth b (i - a.length) := by
  unfold nth
  split
  · rename_i h; simp [List.getElem?_append, h]
  · rename_i h; simp [List.getElem?_append, h]
theorem rd_append {a b : List Int} (ha : a ≠ []) (hb : b ≠ []) : Rd (a ++ b) ↔ Rd a ∧ Rd b ∧ nth b 0 ≠ -(nth a (a.length - 1)) := by
  have la := List.length_pos_iff.2 ha
  have lb := List.length_pos_iff.2 hb
  rw [rd_iff, rd_iff, rd_iff]
  constructor
  · intro h
    refine ⟨fun i hi => ?_, fun i hi => ?_, ?_⟩
    · have := h i (by rw [List.length_append]; omega)
      rwa [nth_append, if_pos hi, nth_append, if_pos (by omega)] at this
    · have := h (a.length + i) (by rw [List.length_append]; omega)
      rwa [nth_append, if_neg (by omega), nth_append, if_neg (by omega), show a.length + i + 1 - a.length = i + 1 by omega, show a.length + i - a.length = i by omega] at this
    · have := h (a.length - 1) (by rw [List.length_append]; omega)
      rwa [nth_append, if_neg (by omega), nth_append, if_pos (by omega), show a.length - 1 + 1 - a.length = 0 by omega] at this
  · rintro ⟨h1, h2, h3⟩ i hi
    rw [List.length_append] at hi
    rw [nth_append, nth_append]
    rcases Nat.lt_trichotomy (i + 1) a.length with h | h | h
    · rw [if_pos h, if_pos (by omega)]; exact h1 i h
    · rw [if_neg (by omega), if_pos (by omega), show i + 1 - a.length = 0 by omega, show i = a.length - 1 by omega]; exact h3
    · rw [if_neg (by omega), if_neg (by omega), show i + 1 - a.length = (i - a.length) + 1 by omega]; exact h2 _ (by omega)

theorem act_cancel {s : List Int} (h : Rd s) (u : List Int) : act (act s (invL u)) u = s := by
  have := act_invL h (invL u)
  rwa [invL_invL] at this
theorem redL_cancel (a u b : List Int) : redL (a ++ invL u ++ (u ++ b)) = redL (a ++ b) := by
  have : act [] (a ++ invL u ++ (u ++ b)) = act [] (a ++ b) := by
    rw [act_append, act_append, act_append, act_cancel (act_rd rd_nil _), act_append]
  exact congrArg List.reverse this
/-- The element at a place around the word. -/
def cat (e : List Int) (i : Nat) : Int := nth e (i % e.length)
def Turns (e : List Int) (k : Nat) : Prop := ∀ i, cat e (i + k) = cat e i
theorem Turns.mul {e : List Int} {k : Nat} (h : Turns e k) (q : Nat) : Turns e (k * q) := by
  induction q with
  | zero => intro i; rfl
  | succ q ih => intro i; rw [Nat.mul_succ, ← Nat.add_assoc, h, ih]
theorem Turns.mod {e : List Int} {a b : Nat} (h : Turns e a) (k : Turns e b) : Turns e (a % b) := fun i => by
  rw [← k.mul (a / b) (i + a % b), Nat.add_assoc, Nat.mod_add_div, h]
theorem Turns.gcd {e : List Int} (a b : Nat) : Turns e a → Turns e b → Turns e (Nat.gcd a b) := by
  induction a, b using Nat.gcd.induction with
  | H0 n => intro _ h; rwa [Nat.gcd_zero_left]
  | H1 m n hm ih =>
    intro h k
    rw [Nat.gcd_rec]
    exact ih (k.mod h) h
end Go.Proofs.Ytmcecmnbdcbehaa

namespace Go.Proofs.Ytmcecmnbdcbehaa
open Go.RowKit Go.Sl

/-- One word is the other with its first letters at its end. -/
def Rt (c d : List Int) : Prop := ∃ p q, c = p ++ q ∧ d = q ++ p
theorem Rt.refl (c : List Int) : Rt c c := ⟨[], c, by simp, by simp⟩
theorem Rt.symm {c d : List Int} (h : Rt c d) : Rt d c := let ⟨p, q, h1, h2⟩ := h; ⟨q, p, h2, h1⟩
theorem Rt.trans {c d e : List Int} (h : Rt c d) (k : Rt d e) : Rt c e := by
  obtain ⟨p, q, rfl, rfl⟩ := h
  obtain ⟨r, s, h1, rfl⟩ := k
  rcases List.append_eq_append_iff.1 h1 with ⟨t, rfl, rfl⟩ | ⟨t, rfl, rfl⟩
  · exact ⟨t, s ++ q, by simp, by simp⟩
  · exact ⟨p ++ r, t, by simp, by simp⟩
theorem Rt.length {c d : List Int} (h : Rt c d) : c.length = d.length := by
  obtain ⟨p, q, rfl, rfl⟩ := h
  simp only [List.length_append]; omega
theorem back {m : List Int} {r : Int} (h : Rd (m ++ [r])) (a : Int) : redL (m ++ [r] ++ [a]) = if r = -a then m else m ++ [r] ++ [a] := by
  split
  · rename_i e
    subst e
    have := redL_cancel m [a] []
    have e2 : redL (m ++ [-a] ++ [a]) = redL m := by simpa [invL] using this
    rw [e2, redL_of_rd]
    by_cases hm : m = []
    · subst hm; trivial
    · exact ((rd_append hm (by simp)).1 h).1
  · rename_i e
    refine redL_of_rd ((rd_append (by simp) (by simp)).2 ⟨h, trivial, ?_⟩)
    rw [nth_append, List.length_append, if_neg (by simp)]
    simp [nth]; omega
end Go.Proofs.Ytmcecmnbdcbehaa

namespace Go.Proofs.Ytmcecmnbdcbehaa
open Go.RowKit Go.Sl

/-- No two neighbouring exchanges. -/
def Apart (c : Nat) : Prop := ∀ j, c.testBit j = true → c.testBit (j + 1) = false
end Go.Proofs.Ytmcecmnbdcbehaa

namespace Go.Proofs.Ytmcecmnbdcbehaa
open Go.RowKit Go.Sl

def Colors (m : Int) (c : List Int) : Prop := ∀ x ∈ c, 0 ≤ x ∧ x < m

theorem nth_set (c : List Int) (i k : Nat) (a : Int) (hi : i < c.length) : nth (c.set i a) k = if k = i then a else nth c k := by
  unfold nth
  by_cases h : k = i
  · subst h; simp [hi]
  · rw [if_neg h]; simp [List.getElem?_set, Ne.symm h, List.getD_eq_getElem?_getD]
end Go.Proofs.Ytmcecmnbdcbehaa

