/- The sign of a permutation is multiplicative; conjugate permutations have cycles of the same lengths: plain law. -/
import Derived.Test.YtmcecmnbdcbehaaQPermSigns0
import Derived.Test.YtmcecmnbdcbehaaQPermSigns1
import Derived.Test.YtmcecmnbdcbehaaQPermSigns2
import Derived.Test.YtmcecmnbdcbehaaQPermSigns7
import Derived.Test.YtmcecmnbdcbehaaQPermSigns14

namespace Go.Proofs.Ytmcecmnbdcbehaa
open Go.RowKit Go.Sl Go.Det

/-- A map of the numbers below n into themselves, one to one. -/
structure Inj (n : Nat) (a : Nat → Nat) : Prop where
  lt : ∀ i, i < n → a i < n
  inj : ∀ i j, i < n → j < n → a i = a j → i = j
def iter (a : Nat → Nat) : Nat → Nat → Nat
  | 0, i => i
  | k + 1, i => a (iter a k i)
/-- The permutation without the last point. -/
def byp (n : Nat) (a : Nat → Nat) (i : Nat) : Nat := if a i = n then a n else a i
theorem byp_at (n : Nat) (a : Nat → Nat) (i : Nat) : byp n a i = if a i = n then a n else a i := rfl
theorem inj_fixed {n : Nat} {a : Nat → Nat} (h : Inj (n + 1) a) (hf : a n = n) : Inj n a :=
  ⟨fun i hi => by
    have h1 := h.lt i (by omega)
    rcases Nat.lt_or_ge (a i) n with h2 | h2
    · exact h2
    · have := h.inj i n (by omega) (by omega) (by omega); omega, fun i j hi hj e => h.inj i j (by omega) (by omega) e⟩
theorem inj_byp {n : Nat} {a : Nat → Nat} (h : Inj (n + 1) a) (hf : a n ≠ n) : Inj n (byp n a) := by
  have hn := h.lt n (by omega)
  refine ⟨fun i hi => ?_, fun i j hi hj e => ?_⟩
  · unfold byp
    split
    · omega
    · have := h.lt i (by omega); omega
  · unfold byp at e
    split at e <;> split at e
    · exact h.inj i j (by omega) (by omega) (by omega)
    · have := h.inj n j (by omega) (by omega) e; omega
    · have := h.inj i n (by omega) (by omega) e; omega
    · exact h.inj i j (by omega) (by omega) e
/-- The smallest of its cycle. -/
def Least (a : Nat → Nat) (i : Nat) : Prop := ∀ k, i ≤ iter a k i
theorem iter_lt {n : Nat} {a : Nat → Nat} (h : Inj n a) {i : Nat} (hi : i < n) (k : Nat) : iter a k i < n := by
  induction k with
  | zero => exact hi
  | succ k ih => exact h.lt _ ih
theorem byp_sub {n : Nat} {a : Nat → Nat} (i : Nat) (k' : Nat) : ∃ k, iter a k i = iter (byp n a) k' i := by
  induction k' with
  | zero => exact ⟨0, rfl⟩
  | succ k' ih =>
    obtain ⟨k, hk⟩ := ih
    show ∃ k, iter a k i = byp n a (iter (byp n a) k' i)
    unfold byp
    split
    · rename_i e
      refine ⟨k + 2, ?_⟩
      show a (a (iter a k i)) = _
      rw [hk]
      exact congrArg a e
    · exact ⟨k + 1, by show a (iter a k i) = _; rw [hk]; rfl⟩
theorem byp_sup {n : Nat} {a : Nat → Nat} (h : Inj (n + 1) a) (hf : a n ≠ n) {i : Nat} (hi : i < n) (k : Nat) :
    (iter a k i ≠ n → ∃ k', iter (byp n a) k' i = iter a k i) ∧ (iter a k i = n → ∃ k', a (iter (byp n a) k' i) = n) := by
  induction k with
  | zero => exact ⟨fun _ => ⟨0, rfl⟩, fun e => by have e : i = n := e; omega⟩
  | succ k ih =>
    by_cases e : iter a k i = n
    · obtain ⟨k', hk'⟩ := ih.2 e
      refine ⟨fun _ => ⟨k' + 1, ?_⟩, fun e2 => ?_⟩
      · show byp n a (iter (byp n a) k' i) = a (iter a k i)
        rw [byp_at, if_pos hk', e]
      · have e2 : a (iter a k i) = n := e2
        rw [e] at e2; exact absurd e2 hf
    · obtain ⟨k', hk'⟩ := ih.1 e
      refine ⟨fun e2 => ⟨k' + 1, ?_⟩, fun e2 => ⟨k', by rw [hk']; exact e2⟩⟩
      have e2 : a (iter a k i) ≠ n := e2
      show byp n a (iter (byp n a) k' i) = a (iter a k i)
      rw [byp_at, hk', if_neg e2]
theorem least_byp {n : Nat} {a : Nat → Nat} (h : Inj (n + 1) a) (hf : a n ≠ n) {i : Nat} (hi : i < n) : Least a i ↔ Least (byp n a) i := by
  constructor
  · intro hl k'
    obtain ⟨k, hk⟩ := byp_sub (n := n) (a := a) i k'
    rw [← hk]; exact hl k
  · intro hl k
    by_cases e : iter a k i = n
    · omega
    · obtain ⟨k', hk'⟩ := (byp_sup h hf hi k).1 e
      rw [← hk']; exact hl k'
theorem not_least {n : Nat} {a : Nat → Nat} (h : Inj (n + 1) a) (hf : a n ≠ n) : ¬ Least a n := fun hl => by
  have h1 : n ≤ a n := hl 1
  have := h.lt n (by omega)
  omega

/-- The sign by the number of cycles. -/
def sgC (n c : Nat) : Int := if (n - c) % 2 = 1 then -1 else 1
theorem cntN_le (P : Nat → Prop) (n : Nat) : cntN P n ≤ n := by
  induction n with
  | zero => exact Nat.le_refl _
  | succ n ih => rw [cntN]; split <;> omega
def pmat (a : Nat → Nat) : Nat → Nat → Int := fun i j => uni (a i) j
/-- The sign is the determinant. -/
theorem dt_pmat (n : Nat) : ∀ a : Nat → Nat, Inj n a → dt n (pmat a) = sgC n (cntN (Least a) n) := by
  induction n with
  | zero => intro a _; rfl
  | succ n ih =>
    intro a h
    have hc := cntN_le (Least a) n
    by_cases hf : a n = n
    · have hfix : ∀ k, iter a k n = n := fun k => by
        induction k with
        | zero => rfl
        | succ k ihk => show a (iter a k n) = n; rw [ihk, hf]
      rw [dt_corner n (pmat a) (fun i hi => by
        unfold pmat uni
        rw [if_neg]
        intro e
        have := h.inj i n (by omega) (by omega) (by rw [e, hf]); omega), ih a (inj_fixed h hf), cntN, if_pos (show Least a n from fun k => by rw [hfix k]; exact Nat.le_refl n)]
      unfold pmat uni sgC
      rw [if_pos hf, show n + 1 - (cntN (Least a) n + 1) = n - cntN (Least a) n by omega, Int.one_mul]
    · -- the row whose entry is in the last column is exchanged with the last row
      have hsurj : ∃ p, p < n ∧ a p = n := by
        refine Classical.byContradiction fun hno => ?_
        have hall : ∀ i, i < n + 1 → a i < n := fun i hi => by
          have h1 := h.lt i hi
          by_cases e : i = n
          · subst e; omega
          · rcases Nat.lt_or_ge (a i) n with h2 | h2
            · exact h2
            · exact absurd ⟨i, by omega, by omega⟩ hno
        -- n + 1 points below n
        have pig : ∀ m (f : Nat → Nat), (∀ i, i < m + 1 → f i < m) → ∃ i j, i < j ∧ j < m + 1 ∧ f i = f j := by
          intro m
          induction m with
          | zero => intro f hf; have := hf 0 (by omega); omega
          | succ m ihm =>
            intro f hf
            by_cases h1 : ∃ i, i < m + 1 ∧ f i = f (m + 1)
            · obtain ⟨i, hi, e⟩ := h1; exact ⟨i, m + 1, hi, by omega, e⟩
            · obtain ⟨i, j, hij, hj, e⟩ := ihm (fun i => if f i = m then f (m + 1) else f i) (fun i hi => by
                have h2 := hf i (by omega)
                have h3 := hf (m + 1) (by omega)
                have h4 : f i ≠ f (m + 1) := fun e => h1 ⟨i, hi, e⟩
                split <;> omega)
              refine ⟨i, j, hij, by omega, ?_⟩
              split at e <;> split at e
              · omega
              · exact absurd ⟨j, by omega, e.symm⟩ h1
              · exact absurd ⟨i, by omega, e⟩ h1
              · exact e
        obtain ⟨i, j, hij, hj, e⟩ := pig n a hall
        have := h.inj i j (by omega) hj e; omega
      obtain ⟨p, hp, hpn⟩ := hsurj
      have hs := (alt_dt (R := Int) (n + 1)).swap (p := p) (q := n) (by omega) (by omega) (by omega) (pmat a) (uni n) (uni (a n))
      have e1 : upd (upd (pmat a) p (uni n)) n (uni (a n)) = pmat a := by
        funext i j
        unfold upd
        by_cases h1 : i = n
        · rw [if_pos h1, h1]; rfl
        · rw [if_neg h1]
          by_cases h2 : i = p
          · rw [if_pos h2, h2]; unfold pmat; rw [hpn]
          · rw [if_neg h2]
      rw [e1] at hs
      rw [hs, dt_corner n _ (fun i hi => by
        unfold upd
        rw [if_neg (by omega)]
        by_cases h2 : i = p
        · rw [if_pos h2]; unfold uni; rw [if_neg hf]
        · rw [if_neg h2]; unfold pmat uni; rw [if_neg]
          intro e
          have := h.inj i p (by omega) (by omega) (by rw [e, hpn]); omega)]
      have e2 : dt n (upd (upd (pmat a) p (uni (a n))) n (uni n)) = dt n (pmat (byp n a)) := by
        refine dt_congr fun i j hi hj => ?_
        unfold upd
        rw [if_neg (by omega)]
        by_cases h2 : i = p
        · rw [if_pos h2]; unfold pmat byp; rw [h2, if_pos hpn]
        · rw [if_neg h2]; unfold pmat byp; rw [if_neg]
          intro e
          have := h.inj i p (by omega) (by omega) (by rw [e, hpn]); omega
      rw [e2, ih _ (inj_byp h hf), cntN, if_neg (not_least h hf), cntN_congr (P := Least a) (Q := Least (byp n a)) n fun i hi => least_byp h hf hi]
      have e3 : upd (upd (pmat a) p (uni (a n))) n (uni n) n n = 1 := by rw [upd_same]; unfold uni; rw [if_pos rfl]
      rw [e3]
      have hc2 := cntN_le (Least (byp n a)) n
      unfold sgC
      by_cases h1 : (n - cntN (Least (byp n a)) n) % 2 = 1
      · rw [if_pos h1, if_neg (by omega)]; rfl
      · rw [if_neg h1, if_pos (by omega)]; rfl

theorem pmat_mul {n : Nat} {a b : Nat → Nat} (ha : Inj n a) {i j : Nat} (hi : i < n) : mul n (pmat a) (pmat b) i j = pmat (fun i => b (a i)) i j := by
  unfold mul
  rw [sumN_one n (a i) (ha.lt i hi) (fun k _ hk => by unfold pmat uni; rw [if_neg (fun e => hk e.symm)]; exact Int.zero_mul _)]
  unfold pmat
  rw [show uni (R := Int) (a i) (a i) = 1 by unfold uni; rw [if_pos rfl], Int.one_mul]
theorem sg_mul {n : Nat} {a b : Nat → Nat} (ha : Inj n a) (hb : Inj n b) : sgC n (cntN (Least fun i => b (a i)) n) = sgC n (cntN (Least a) n) * sgC n (cntN (Least b) n) := by
  have hab : Inj n fun i => b (a i) := ⟨fun i hi => hb.lt _ (ha.lt i hi), fun i j hi hj e => ha.inj i j hi hj (hb.inj _ _ (ha.lt i hi) (ha.lt j hj) e)⟩
  rw [← dt_pmat n _ hab, ← dt_pmat n a ha, ← dt_pmat n b hb, ← dt_mul]
  exact dt_congr fun i j hi hj => (pmat_mul ha hi).symm

/-! Lists that are permutations. -/
def fn (xs : List Int) (i : Nat) : Nat := (nth xs i).toNat
theorem inj_fn {xs : List Int} (h : IsPerm xs) : Inj xs.length (fn xs) := ⟨fun _ hi => step_lt h hi, fun _ _ hi hj e => step_inj h hi hj e⟩
theorem iter_itr (xs : List Int) (k i : Nat) : iter (fn xs) k i = itr xs k i := by
  induction k with
  | zero => rfl
  | succ k ih => show fn xs (iter (fn xs) k i) = (nth xs (itr xs k i)).toNat; rw [ih]; rfl
theorem iter_congr {n : Nat} {a b : Nat → Nat} (ha : Inj n a) (h : ∀ i, i < n → a i = b i) {i : Nat} (hi : i < n) (k : Nat) : iter a k i = iter b k i := by
  induction k with
  | zero => rfl
  | succ k ih => show a (iter a k i) = b (iter b k i); rw [← ih, h _ (iter_lt ha hi k)]
theorem reps_least {xs : List Int} {L : List Nat} (h : CycOK xs L) : L.length = cntN (Least (fn xs)) xs.length := by
  rw [h.reps]
  refine cntN_congr _ fun j _ => ?_
  unfold Least
  simp only [iter_itr]
theorem fn_then {xs ys : List Int} (hx : IsPerm xs) {i : Nat} (hi : i < xs.length) : fn (thenL xs ys) i = fn ys (fn xs i) := by
  unfold fn
  rw [nth_thenL _ _ _ hi]
theorem sign_law {xs ys : List Int} (hx : IsPerm xs) (hy : IsPerm ys) (hl : xs.length = ys.length) {L M N : List Nat} (h1 : CycOK xs L) (h2 : CycOK ys M) (h3 : CycOK (thenL xs ys) N) :
    sgC xs.length N.length = sgC xs.length L.length * sgC ys.length M.length := by
  rw [reps_least h1, reps_least h2, reps_least h3, thenL_length, ← hl]
  rw [← sg_mul (inj_fn hx) (by rw [hl]; exact inj_fn hy)]
  congr 1
  refine cntN_congr _ fun j hj => ?_
  unfold Least
  have hc : ∀ k, iter (fn (thenL xs ys)) k j = iter (fun i => fn ys (fn xs i)) k j := fun k => by
    refine iter_congr (n := xs.length) ?_ (fun i hi => fn_then hx hi) hj k
    have := inj_fn (hx.then hy hl)
    rwa [thenL_length] at this
  simp only [hc]

/-! Conjugate permutations. -/
theorem cntN_filter (P : Nat → Prop) [DecidablePred P] (n : Nat) : cntN P n = ((List.range n).filter fun i => decide (P i)).length := by
  induction n with
  | zero => rfl
  | succ n ih =>
    rw [cntN, List.range_succ, List.filter_append, List.length_append, ih]
    congr 1
    by_cases h : P n
    · rw [if_pos h]; simp [h]
    · rw [if_neg h]; simp [h]
open Classical in
theorem cntN_perm {xs : List Int} (h : IsPerm xs) (P : Nat → Prop) : cntN (fun i => P (fn xs i)) xs.length = cntN P xs.length := by
  rw [cntN_filter, cntN_filter]
  have h1 : (List.range xs.length).map (fn xs) = xs.map Int.toNat := by
    apply List.ext_getElem
    · simp
    · intro i h1 h2
      simp at h1 h2
      simp [fn, nth_lt h1]
  have h2 : ((List.range xs.length).map (fn xs)).Perm (List.range xs.length) := by
    rw [h1]
    have := h.perm.map Int.toNat
    have e : (iota xs.length).map Int.toNat = List.range xs.length := by
      apply List.ext_getElem
      · simp [iota_length]
      · intro i h3 h4
        have hi : i < xs.length := by simpa using h4
        have := nth_iota xs.length i hi
        rw [nth_lt (by rw [iota_length]; exact hi)] at this
        simp [this]
    rwa [e] at this
  have h3 := (h2.filter fun i => decide (P i)).length_eq
  rw [← h3, List.filter_map, List.length_map]
  rfl
theorem conj_period {xs ys : List Int} (hx : IsPerm xs) (hy : IsPerm ys) (hl : xs.length = ys.length) {j l : Nat} (hj : j < xs.length) :
    Period (thenL (thenL (backL ys) xs) ys) (fn ys j) l ↔ Period xs j l := by
  have hb := hy.back
  have hbl : (backL ys).length = ys.length := backL_length ys
  have h1 : (thenL (backL ys) xs).length = xs.length := by rw [thenL_length, hbl, hl]
  have h2 : IsPerm (thenL (backL ys) xs) := hb.then hx (by rw [hbl, hl])
  have step : ∀ i, i < xs.length → fn (thenL (thenL (backL ys) xs) ys) (fn ys i) = fn ys (fn xs i) := fun i hi => by
    have hyi := (inj_fn hy).lt i (by omega)
    rw [fn_then h2 (by rw [h1]; omega), fn_then hb (by rw [hbl]; exact hyi)]
    have e : fn (backL ys) (fn ys i) = i := by
      have e1 := then_back hy
      have e2 := nth_thenL ys (backL ys) i (by omega)
      rw [e1, nth_iota _ _ (by omega)] at e2
      unfold fn
      omega
    rw [e]
  have it : ∀ k, itr (thenL (thenL (backL ys) xs) ys) k (fn ys j) = fn ys (itr xs k j) := fun k => by
    induction k with
    | zero => rfl
    | succ k ih =>
      show fn (thenL (thenL (backL ys) xs) ys) (itr _ k (fn ys j)) = fn ys (fn xs (itr xs k j))
      rw [ih, step _ (itr_lt hx k hj)]
  have inj : ∀ k, fn ys (itr xs k j) = fn ys j ↔ itr xs k j = j := fun k => ⟨fun e => (inj_fn hy).inj _ _ (by rw [← hl]; exact itr_lt hx k hj) (by omega) e, fun e => by rw [e]⟩
  unfold Period
  simp only [it, inj, ne_eq]
theorem conj_count {xs ys : List Int} (hx : IsPerm xs) (hy : IsPerm ys) (hl : xs.length = ys.length) {L M : List Nat} (h1 : CycOK xs L) (h2 : CycOK (thenL (thenL (backL ys) xs) ys) M) : L.Perm M := by
  rw [List.perm_iff_count]
  intro l
  have e1 := h1.cntP l
  have e2 := h2.cntP l
  have hb : (backL ys).length = ys.length := backL_length ys
  rw [thenL_length, thenL_length, hb] at e2
  have e3 := cntN_perm hy (fun j => Period (thenL (thenL (backL ys) xs) ys) j l)
  rw [cntN_congr (Q := fun j => Period xs j l) ys.length fun j hj => conj_period hx hy hl (by omega), ← hl] at e3
  rw [← hl, ← e3, ← e1] at e2
  rcases Nat.eq_zero_or_pos l with h0 | h0
  · subst h0
    rw [List.count_eq_zero_of_not_mem (fun h => by have := h1.pos _ h; omega), List.count_eq_zero_of_not_mem (fun h => by have := h2.pos _ h; omega)]
  · exact (Nat.eq_of_mul_eq_mul_left h0 e2).symm

/-- Sorted lists of the same numbers are the same. -/
theorem sorted_eq : ∀ (xs ys : List Int), xs.Perm ys → (∀ p q, p < q → q < xs.length → nth xs p ≤ nth xs q) → (∀ p q, p < q → q < ys.length → nth ys p ≤ nth ys q) → xs = ys := by
  intro xs
  induction xs with
  | nil => intro ys h _ _; exact (List.nil_perm.1 h).symm
  | cons x xs ih =>
    intro ys h h1 h2
    cases ys with
    | nil => exact absurd h.length_eq (by simp)
    | cons y ys =>
      have hxy : x = y := by
        have a : x ∈ y :: ys := h.mem_iff.1 (by simp)
        have b : y ∈ x :: xs := h.mem_iff.2 (by simp)
        have c : y ≤ x := by
          obtain ⟨i, hi, e⟩ := List.getElem_of_mem a
          rcases Nat.eq_zero_or_pos i with h0 | h0
          · subst h0; simp at e; omega
          · have := h2 0 i h0 hi
            rw [nth_lt hi, e] at this
            simpa [nth] using this
        have d : x ≤ y := by
          obtain ⟨i, hi, e⟩ := List.getElem_of_mem b
          rcases Nat.eq_zero_or_pos i with h0 | h0
          · subst h0; simp at e; omega
          · have := h1 0 i h0 hi
            rw [nth_lt hi, e] at this
            simpa [nth] using this
        omega
      subst hxy
      rw [ih ys (List.perm_cons x |>.1 h) (fun p q hpq hq => by
        have := h1 (p + 1) (q + 1) (by omega) (by simpa using hq)
        simpa [nth] using this) (fun p q hpq hq => by
        have := h2 (p + 1) (q + 1) (by omega) (by simpa using hq)
        simpa [nth] using this)]

end Go.Proofs.Ytmcecmnbdcbehaa

