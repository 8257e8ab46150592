/- Cycles, order and powers of permutations: plain law. -/
import Derived.Test.YtpnbkoihglppnaaPermLaw
namespace Go.Proofs.Ytpnbkoihglppnaa
open Go.RowKit Go.Sl

/-- Where a point is after k applications. -/
def itr (a : List Int) : Nat → Nat → Nat
  | 0, i => i
  | k + 1, i => (nth a (itr a k i)).toNat
def powL (a : List Int) : Nat → List Int
  | 0 => iota a.length
  | k + 1 => thenL (powL a k) a

theorem step_lt {a : List Int} (h : IsPerm a) {i : Nat} (hi : i < a.length) : (nth a i).toNat < a.length := by
  have := h.range _ (nth_mem hi); omega
theorem step_inj {a : List Int} (h : IsPerm a) {i j : Nat} (hi : i < a.length) (hj : j < a.length) (e : (nth a i).toNat = (nth a j).toNat) : i = j := by
  have h1 := h.range _ (nth_mem hi); have h2 := h.range _ (nth_mem hj)
  exact h.inj hi hj (by omega)
theorem itr_lt {a : List Int} (h : IsPerm a) (k : Nat) {i : Nat} (hi : i < a.length) : itr a k i < a.length := by
  induction k with
  | zero => exact hi
  | succ k ih => exact step_lt h ih
theorem itr_add (a : List Int) (j k i : Nat) : itr a (j + k) i = itr a j (itr a k i) := by
  induction j with
  | zero => rw [Nat.zero_add]; rfl
  | succ j ih => rw [show j + 1 + k = (j + k) + 1 by omega, itr, itr, ih]
theorem itr_inj {a : List Int} (h : IsPerm a) (k : Nat) {i j : Nat} (hi : i < a.length) (hj : j < a.length) (e : itr a k i = itr a k j) : i = j := by
  induction k with
  | zero => exact e
  | succ k ih => exact ih (step_inj h (itr_lt h k hi) (itr_lt h k hj) e)
theorem powL_length (a : List Int) (k : Nat) : (powL a k).length = a.length := by
  induction k with
  | zero => rw [powL, iota_length]
  | succ k ih => rw [powL, thenL_length, ih]
theorem nth_powL {a : List Int} (h : IsPerm a) (k : Nat) {i : Nat} (hi : i < a.length) : nth (powL a k) i = (itr a k i : Nat) := by
  induction k with
  | zero => exact nth_iota _ _ hi
  | succ k ih =>
    rw [powL, nth_thenL _ _ _ (by rw [powL_length]; exact hi), ih, itr]
    have := h.range _ (nth_mem (itr_lt h k hi))
    simp; omega
theorem powL_perm {a : List Int} (h : IsPerm a) (k : Nat) : IsPerm (powL a k) := by
  induction k with
  | zero => exact isPerm_iota h.small
  | succ k ih => exact ih.then h (powL_length a k)
theorem powL_add {a : List Int} (h : IsPerm a) (j k : Nat) : thenL (powL a j) (powL a k) = powL a (j + k) := by
  refine ext_nth (by rw [thenL_length, powL_length, powL_length]) fun i hi => ?_
  rw [thenL_length, powL_length] at hi
  rw [nth_thenL _ _ _ (by rw [powL_length]; exact hi), nth_powL h j hi, nth_powL h _ hi, Nat.add_comm, itr_add]
  exact nth_powL h k (itr_lt h j hi)
theorem powL_one {a : List Int} (h : IsPerm a) (k : Nat) : powL a k = iota a.length ↔ ∀ i, i < a.length → itr a k i = i := by
  constructor
  · intro e i hi
    have := nth_powL h k hi
    rw [e, nth_iota _ _ hi] at this
    omega
  · intro e
    refine ext_nth (by rw [powL_length, iota_length]) fun i hi => ?_
    rw [powL_length] at hi
    rw [nth_powL h k hi, nth_iota _ _ hi, e i hi]

/-- l is the first number of applications that lead from i back to i. -/
def Period (a : List Int) (i l : Nat) : Prop := 0 < l ∧ itr a l i = i ∧ ∀ j, 0 < j → j < l → itr a j i ≠ i
theorem Period.mul {a : List Int} {i l : Nat} (h : Period a i l) (q : Nat) : itr a (l * q) i = i := by
  induction q with
  | zero => rfl
  | succ q ih => rw [Nat.mul_succ, itr_add, h.2.1, ih]
theorem Period.iff {a : List Int} {i l : Nat} (h : Period a i l) (m : Nat) : l ∣ m ↔ itr a m i = i := by
  constructor
  · rintro ⟨q, rfl⟩; exact h.mul q
  · intro e
    have e1 : m % l + l * (m / l) = m := Nat.mod_add_div m l
    rw [← e1, itr_add, h.mul] at e
    have hlt := Nat.mod_lt m h.1
    rcases Nat.eq_zero_or_pos (m % l) with h0 | h0
    · exact Nat.dvd_of_mod_eq_zero h0
    · exact absurd e (h.2.2 _ h0 hlt)

/-- What is marked. -/
def at? (D : List Bool) (i : Nat) : Bool := D.getD i false
def cntT : List Bool → Nat
  | [] => 0
  | true :: D => cntT D + 1
  | false :: D => cntT D
theorem cntT_le (D : List Bool) : cntT D ≤ D.length := by
  induction D with
  | nil => exact Nat.le_refl _
  | cons b D ih => cases b <;> simp [cntT] <;> omega
theorem cntT_all {D : List Bool} (h : ∀ i, i < D.length → at? D i = true) : cntT D = D.length := by
  induction D with
  | nil => rfl
  | cons b D ih =>
    have h0 := h 0 (by simp)
    simp [at?] at h0
    subst h0
    rw [cntT, List.length_cons, ih fun i hi => by simpa [at?] using h (i + 1) (by simpa using hi)]
theorem cntT_set {D : List Bool} {i : Nat} (hi : i < D.length) (h : at? D i = false) : cntT (D.set i true) = cntT D + 1 := by
  induction D generalizing i with
  | nil => simp at hi
  | cons b D ih =>
    cases i with
    | zero => simp [at?] at h; subst h; simp [cntT]
    | succ i =>
      have := ih (i := i) (by simpa using hi) (by simpa [at?] using h)
      cases b <;> simp [cntT, this]
theorem cntT_lt {D : List Bool} {i : Nat} (hi : i < D.length) (h : at? D i = false) : cntT D < D.length := by
  have h1 := cntT_set hi h
  have h2 := cntT_le (D.set i true)
  rw [List.length_set] at h2
  omega
theorem at_set {D : List Bool} {i : Nat} (hi : i < D.length) (j : Nat) : at? (D.set i true) j = if j = i then true else at? D j := by
  unfold at?
  by_cases h : j = i
  · subst h; simp [hi]
  · rw [if_neg h]; simp [List.getD_eq_getElem?_getD, List.getElem?_set, Ne.symm h]
theorem cntT_replicate (n : Nat) : cntT (List.replicate n false) = 0 := by
  induction n with
  | zero => rfl
  | succ n ih => rw [List.replicate_succ, cntT, ih]
theorem at_replicate (n i : Nat) : at? (List.replicate n false) i = false := by
  unfold at?
  by_cases h : i < n
  · simp [List.getD_eq_getElem?_getD, List.getElem?_replicate, h]
  · simp [List.getD_eq_getElem?_getD, List.getElem?_replicate, h]

/-- The cycles so far: what is marked is a union of cycles whose lengths are L. -/
structure Cyc (a : List Int) (D : List Bool) (L : List Nat) : Prop where
  len : D.length = a.length
  back : ∀ i, i < a.length → at? D (nth a i).toNat = true → at? D i = true
  forth : ∀ i, i < a.length → at? D i = true → at? D (nth a i).toNat = true
  iff : ∀ m, (∀ l, l ∈ L → l ∣ m) ↔ ∀ i, i < a.length → at? D i = true → itr a m i = i
  pos : ∀ l, l ∈ L → 0 < l
  sum : L.sum = cntT D
theorem cyc_nil (a : List Int) : Cyc a (List.replicate a.length false) [] :=
  ⟨by simp, fun i _ h => (by rw [at_replicate] at h; cases h), fun i _ h => (by rw [at_replicate] at h; cases h),
    fun m => ⟨fun _ i _ h => (by rw [at_replicate] at h; cases h), fun _ l h => (by cases h)⟩, fun l h => (by cases h), by simp [cntT_replicate]⟩
/-- Inside a cycle: k points of it are marked. -/
structure Cyc1 (a : List Int) (D : List Bool) (i k : Nat) (E : List Bool) : Prop where
  len : E.length = a.length
  free : at? D i = false ∨ k = 0 ∧ at? D i = true
  mark : ∀ j, at? E j = true ↔ at? D j = true ∨ ∃ t, t < k ∧ itr a t i = j
  new : ∀ t, t < k → at? D (itr a t i) = false
  diff : ∀ s t, s < t → t < k → itr a s i ≠ itr a t i
  cnt : cntT E = cntT D + k
theorem cyc1_start {a : List Int} {D : List Bool} (hl : D.length = a.length) (i : Nat) : Cyc1 a D i 0 D :=
  ⟨hl, by cases h : at? D i <;> simp, fun j => by simp, fun t h => by omega, fun s t _ h => by omega, rfl⟩
theorem Cyc1.step {a : List Int} {D E : List Bool} {i k : Nat} (ha : IsPerm a) (hi : i < a.length) (h : Cyc1 a D i k E) (hx : at? E (itr a k i) = false) : Cyc1 a D i (k + 1) (E.set (itr a k i) true) := by
  have hlt := itr_lt ha k hi
  have hno : ¬ (at? D (itr a k i) = true ∨ ∃ t, t < k ∧ itr a t i = itr a k i) := fun hh => by
    rw [(h.mark _).2 hh] at hx; cases hx
  have hD : at? D (itr a k i) = false := by
    cases e : at? D (itr a k i) with
    | false => rfl
    | true => exact absurd (.inl e) hno
  refine ⟨by rw [List.length_set, h.len], .inl ?_, fun j => ?_, fun t ht => ?_, fun s t hs ht => ?_, by rw [cntT_set (by rw [h.len]; exact hlt) hx, h.cnt]; omega⟩
  · rcases h.free with h1 | ⟨h1, h2⟩
    · exact h1
    · subst h1; exact hD
  · rw [at_set (by rw [h.len]; exact hlt)]
    by_cases e : j = itr a k i
    · subst e; simp only [if_true, true_iff]; exact .inr ⟨k, by omega, rfl⟩
    · rw [if_neg e, h.mark]
      constructor
      · rintro (h1 | ⟨t, h1, h2⟩)
        · exact .inl h1
        · exact .inr ⟨t, by omega, h2⟩
      · rintro (h1 | ⟨t, h1, h2⟩)
        · exact .inl h1
        · rcases Nat.lt_or_ge t k with h3 | h3
          · exact .inr ⟨t, h3, h2⟩
          · exact absurd h2.symm (by rw [show t = k by omega]; exact e)
  · rcases Nat.lt_or_ge t k with h3 | h3
    · exact h.new t h3
    · rw [show t = k by omega]; exact hD
  · rcases Nat.lt_or_ge t k with h3 | h3
    · exact h.diff s t hs h3
    · rw [show t = k by omega]; exact fun e => hno (.inr ⟨s, by omega, e⟩)
theorem Cyc.itr_back {a : List Int} {D : List Bool} {L : List Nat} (ha : IsPerm a) (h : Cyc a D L) {i : Nat} (hi : i < a.length) (k : Nat) (hk : at? D (itr a k i) = true) : at? D i = true := by
  induction k with
  | zero => exact hk
  | succ k ih => exact ih (h.back _ (itr_lt ha k hi) hk)
/-- The end of a cycle. -/
theorem Cyc1.done {a : List Int} {D E : List Bool} {L : List Nat} {i k : Nat} (ha : IsPerm a) (hi : i < a.length) (hc : Cyc a D L) (h : Cyc1 a D i k E) (hx : at? E (itr a k i) = true) :
    (k = 0 ∧ Cyc a E L ∧ at? E i = true ∧ ∀ j, at? D j = true → at? E j = true) ∨ (0 < k ∧ Cyc a E (L ++ [k]) ∧ at? E i = true ∧ ∀ j, at? D j = true → at? E j = true) := by
  have hmono : ∀ j, at? D j = true → at? E j = true := fun j hj => (h.mark j).2 (.inl hj)
  rcases h.free with hf | ⟨h1, h2⟩
  · have hk : 0 < k := by
      rcases Nat.eq_zero_or_pos k with h0 | h0
      · subst h0
        rcases (h.mark _).1 hx with h1 | ⟨t, ht, _⟩
        · have h1 : at? D i = true := h1
          rw [hf] at h1; cases h1
        · omega
      · exact h0
    have hper : Period a i k := by
      have hne : ∀ j, 0 < j → j < k → itr a j i ≠ i := fun j h1 h2 e => h.diff 0 j h1 h2 e.symm
      refine ⟨hk, ?_, hne⟩
      rcases (h.mark _).1 hx with h1 | ⟨t, ht, he⟩
      · have := hc.itr_back ha hi k h1
        rw [hf] at this; cases this
      · rcases Nat.eq_zero_or_pos t with h0 | h0
        · subst h0; exact he.symm
        · exfalso
          have e1 : itr a t (itr a (k - t) i) = itr a t i := by rw [← itr_add, show t + (k - t) = k by omega]; exact he.symm
          exact hne (k - t) (by omega) (by omega) (itr_inj ha t (itr_lt ha _ hi) hi e1)
    refine .inr ⟨hk, ⟨h.len, fun j hj hjm => ?_, fun j hj hjm => ?_, fun m => ?_, ?_, ?_⟩, (h.mark i).2 (.inr ⟨0, hk, rfl⟩), hmono⟩
    · rcases (h.mark _).1 hjm with h1 | ⟨t, ht, he⟩
      · exact hmono _ (hc.back j hj h1)
      · refine (h.mark j).2 (.inr ?_)
        rcases Nat.eq_zero_or_pos t with h0 | h0
        · subst h0
          refine ⟨k - 1, by omega, ?_⟩
          have e1 : itr a (k - 1 + 1) i = i := by rw [show k - 1 + 1 = k by omega]; exact hper.2.1
          exact step_inj ha (itr_lt ha _ hi) hj (e1.trans he)
        · refine ⟨t - 1, by omega, ?_⟩
          have e1 : itr a (t - 1 + 1) i = itr a t i := by rw [show t - 1 + 1 = t by omega]
          exact step_inj ha (itr_lt ha _ hi) hj (e1.trans he)
    · rcases (h.mark _).1 hjm with h1 | ⟨t, ht, he⟩
      · exact hmono _ (hc.forth j hj h1)
      · refine (h.mark _).2 (.inr ?_)
        subst he
        rcases Nat.lt_or_ge (t + 1) k with h3 | h3
        · exact ⟨t + 1, h3, rfl⟩
        · refine ⟨0, hk, ?_⟩
          have e1 : itr a (t + 1) i = i := by rw [show t + 1 = k by omega]; exact hper.2.1
          exact e1.symm
    · constructor
      · intro hm j hj hjm
        rcases (h.mark j).1 hjm with h1 | ⟨t, ht, he⟩
        · exact (hc.iff m).1 (fun l hl => hm l (by simp [hl])) j hj h1
        · subst he
          have := (hper.iff m).1 (hm k (by simp))
          rw [← itr_add, Nat.add_comm, itr_add, this]
      · intro hm l hl
        rcases List.mem_append.1 hl with h1 | h1
        · exact (hc.iff m).2 (fun j hj hjm => hm j hj (hmono j hjm)) l h1
        · rw [List.mem_singleton.1 h1]
          exact (hper.iff m).2 (hm i hi ((h.mark i).2 (.inr ⟨0, hk, rfl⟩)))
    · intro l hl
      rcases List.mem_append.1 hl with h1 | h1
      · exact hc.pos l h1
      · rw [List.mem_singleton.1 h1]; exact hk
    · rw [List.sum_append, hc.sum, h.cnt]; simp
  · subst h1
    refine .inl ⟨rfl, ⟨h.len, fun j hj hjm => ?_, fun j hj hjm => ?_, fun m => ?_, hc.pos, by rw [hc.sum, h.cnt]; rfl⟩, hmono i h2, hmono⟩
    · rcases (h.mark _).1 hjm with h3 | ⟨t, ht, _⟩
      · exact hmono _ (hc.back j hj h3)
      · omega
    · rcases (h.mark _).1 hjm with h3 | ⟨t, ht, _⟩
      · exact hmono _ (hc.forth j hj h3)
      · omega
    · rw [hc.iff m]
      constructor
      · intro hm j hj hjm
        rcases (h.mark _).1 hjm with h3 | ⟨t, ht, _⟩
        · exact hm j hj h3
        · omega
      · intro hm j hj hjm
        exact hm j hj (hmono j hjm)

/-- The lengths of all cycles. -/
structure CycOK (a : List Int) (L : List Nat) : Prop where
  iff : ∀ m, (∀ l, l ∈ L → l ∣ m) ↔ ∀ i, i < a.length → itr a m i = i
  pos : ∀ l, l ∈ L → 0 < l
  sum : L.sum = a.length
theorem Cyc.ok {a : List Int} {D : List Bool} {L : List Nat} (h : Cyc a D L) (hd : ∀ i, i < a.length → at? D i = true) : CycOK a L :=
  ⟨fun m => by
    rw [h.iff m]
    exact ⟨fun hm i hi => hm i hi (hd i hi), fun hm i hi _ => hm i hi⟩, h.pos, by rw [h.sum, cntT_all (by rw [h.len]; exact hd), h.len]⟩

def lcmL (L : List Nat) : Nat := L.foldl Nat.lcm 1
theorem lcmL_snoc (L : List Nat) (l : Nat) : lcmL (L ++ [l]) = Nat.lcm (lcmL L) l := by simp [lcmL]
theorem lcmL_dvd (L : List Nat) (m : Nat) : lcmL L ∣ m ↔ ∀ l, l ∈ L → l ∣ m := by
  obtain ⟨M, hM⟩ : ∃ M, M = L.reverse := ⟨_, rfl⟩
  obtain rfl : L = M.reverse := by rw [hM, List.reverse_reverse]
  clear hM
  induction M with
  | nil => simp [lcmL]
  | cons x M ih =>
    rw [List.reverse_cons, lcmL_snoc]
    constructor
    · intro h l hl
      rcases List.mem_append.1 hl with h1 | h1
      · exact ih.1 (Nat.dvd_trans (Nat.dvd_lcm_left _ _) h) l h1
      · rw [List.mem_singleton.1 h1]; exact Nat.dvd_trans (Nat.dvd_lcm_right _ _) h
    · intro h
      exact Nat.lcm_dvd (ih.2 fun l hl => h l (List.mem_append.2 (.inl hl))) (h x (by simp))
theorem lcm_step (m n : Nat) : m / Nat.gcd m n * n = Nat.lcm m n := by
  unfold Nat.lcm
  rw [Nat.mul_comm m n, Nat.mul_div_assoc n (Nat.gcd_dvd_left m n), Nat.mul_comm]
theorem lcmL_bound (L : List Nat) (h : ∀ l, l ∈ L → 0 < l) : 0 < lcmL L ∧ lcmL L ≤ 2 ^ L.sum := by
  obtain ⟨M, hM⟩ : ∃ M, M = L.reverse := ⟨_, rfl⟩
  obtain rfl : L = M.reverse := by rw [hM, List.reverse_reverse]
  clear hM
  induction M with
  | nil => simp [lcmL]
  | cons x M ih =>
    rw [List.reverse_cons, lcmL_snoc, List.sum_append]
    obtain ⟨h1, h2⟩ := ih fun l hl => h l (by rw [List.reverse_cons]; exact List.mem_append.2 (.inl hl))
    have hx : 0 < x := h x (by simp)
    refine ⟨Nat.lcm_pos h1 hx, ?_⟩
    have h3 : Nat.lcm (lcmL M.reverse) x ≤ lcmL M.reverse * x := by
      unfold Nat.lcm; exact Nat.div_le_self _ _
    have h4 : x ≤ 2 ^ x := Nat.le_of_lt Nat.lt_two_pow_self
    have h5 := Nat.mul_le_mul h2 h4
    rw [← Nat.pow_add] at h5
    simp only [List.sum_cons, List.sum_nil, Nat.add_zero]
    omega
theorem sum_take_le (L : List Nat) (k : Nat) : (L.take k).sum ≤ L.sum := by
  conv => rhs; rw [← List.take_append_drop k L]
  rw [List.sum_append]; omega

/-- The order. -/
structure IsOrder (a : List Int) (m : Nat) : Prop where
  pos : 0 < m
  small : m ≤ 512
  pow : m ≤ 2 ^ a.length
  iff : ∀ k, powL a k = iota a.length ↔ m ∣ k
theorem CycOK.order {a : List Int} {L : List Nat} (ha : IsPerm a) (h : CycOK a L) (hs : a.length ≤ 9) : IsOrder a (lcmL L) := by
  obtain ⟨h1, h2⟩ := lcmL_bound L h.pos
  have h3 : 2 ^ L.sum ≤ 2 ^ 9 := Nat.pow_le_pow_right (by omega) (by rw [h.sum]; exact hs)
  exact ⟨h1, by omega, by rw [← h.sum]; exact h2, fun k => by rw [lcmL_dvd, h.iff, powL_one ha]⟩
theorem IsOrder.mod {a : List Int} {m : Nat} (ha : IsPerm a) (h : IsOrder a m) (k q : Nat) : powL a (k + m * q) = powL a k := by
  have e : powL a (m * q) = iota a.length := (h.iff _).2 ⟨q, rfl⟩
  rw [← powL_add ha, e]
  have := iota_thenL (a := powL a k) (powL_perm ha k).range
  rwa [powL_length] at this
theorem IsOrder.sum {a : List Int} {m : Nat} (ha : IsPerm a) (h : IsOrder a m) (i k : Int) : thenL (powL a (i % m).toNat) (powL a (k % m).toNat) = powL a ((i + k) % m).toNat := by
  rw [powL_add ha]
  have hm : (0 : Int) < m := by have := h.pos; omega
  have h1 := Int.emod_nonneg i (b := (m : Int)) (by omega)
  have h2 := Int.emod_nonneg k (b := (m : Int)) (by omega)
  have h3 := Int.emod_nonneg (i + k) (b := (m : Int)) (by omega)
  have h4 := Int.emod_lt_of_pos (i + k) hm
  have e : (i + k) % (m : Int) = (i % m + k % m) % m := by rw [Int.add_emod]
  have h5 := Int.emod_add_mul_ediv (i % m + k % m) m
  rw [← e] at h5
  have h6 : 0 ≤ (i % m + k % m) / (m : Int) := Int.ediv_nonneg (by omega) (by omega)
  obtain ⟨q, hq⟩ := Int.eq_ofNat_of_zero_le h6
  rw [hq] at h5
  have h7 : (i % m).toNat + (k % m).toNat = ((i + k) % m).toNat + m * q := by
    have : ((m * q : Nat) : Int) = (m : Int) * (q : Int) := by simp
    omega
  rw [h7, h.mod ha]
theorem IsOrder.loop {a : List Int} {m : Nat} (h : IsOrder a m) {j : Nat} (h1 : 1 ≤ j) (h2 : j ≤ m) : powL a (((j : Int) % m).toNat) = iota a.length ↔ j = m := by
  rw [h.iff]
  have e : ((j : Int) % m).toNat = j % m := by omega
  rw [e]
  constructor
  · intro hd
    rcases Nat.lt_or_ge j m with h3 | h3
    · rw [Nat.mod_eq_of_lt h3] at hd
      have := Nat.le_of_dvd (by omega) hd
      omega
    · omega
  · rintro rfl; rw [Nat.mod_self]; exact Nat.dvd_zero _

end Go.Proofs.Ytpnbkoihglppnaa
