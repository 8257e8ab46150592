/- Changes rung on rows: plain law. -/
import Derived.Test.YtnkahkahcajahaaPermLaw
namespace Go.Proofs.Ytnkahkahcajahaa
open Go.RowKit Go.Sl

/-- Two neighbours exchanged. -/
def swapAt (l : List Int) (i : Nat) : List Int := (l.set i (nth l (i + 1))).set (i + 1) (nth l i)
/-- The exchanges of a change at the first k places. -/
def ringTo (row : List Int) (c : Nat) : Nat → List Int
  | 0 => row
  | k + 1 => if c.testBit k then swapAt (ringTo row c k) k else ringTo row c k
def ringL (row : List Int) (c : Nat) : List Int := ringTo row c (row.length - 1)
def runL (row : List Int) (cs : List Int) : List Int := cs.foldl (fun r c => ringL r c.toNat) row

theorem swapAt_length (l : List Int) (i : Nat) : (swapAt l i).length = l.length := by simp [swapAt]
theorem ringTo_length (row : List Int) (c k : Nat) : (ringTo row c k).length = row.length := by
  induction k with
  | zero => rfl
  | succ k ih => rw [ringTo]; split <;> simp [swapAt_length, ih]
theorem ringL_length (row : List Int) (c : Nat) : (ringL row c).length = row.length := ringTo_length _ _ _
theorem runL_length (row cs : List Int) : (runL row cs).length = row.length := by
  unfold runL
  induction cs generalizing row with
  | nil => rfl
  | cons c cs ih => rw [List.foldl_cons, ih, ringL_length]
theorem runL_append (row a b : List Int) : runL row (a ++ b) = runL (runL row a) b := by simp [runL]
theorem runL_snoc (row a : List Int) (c : Int) : runL row (a ++ [c]) = ringL (runL row a) c.toNat := by simp [runL]
theorem nth_map (f : Int → Int) (l : List Int) (i : Nat) (h : i < l.length) : nth (l.map f) i = f (nth l i) := by
  rw [nth_lt (by simpa using h), nth_lt h, List.getElem_map]
theorem swapAt_map (f : Int → Int) (l : List Int) (i : Nat) (h : i + 1 < l.length) : swapAt (l.map f) i = (swapAt l i).map f := by
  unfold swapAt
  rw [nth_map f l (i + 1) h, nth_map f l i (by omega), List.map_set, List.map_set]
theorem ringTo_map (f : Int → Int) (l : List Int) (c k : Nat) (h : k ≤ l.length - 1) : ringTo (l.map f) c k = (ringTo l c k).map f := by
  induction k with
  | zero => rfl
  | succ k ih =>
    rw [ringTo, ringTo, ih (by omega)]
    split
    · exact swapAt_map f _ _ (by rw [ringTo_length]; omega)
    · rfl
theorem ringL_map (f : Int → Int) (l : List Int) (c : Nat) : ringL (l.map f) c = (ringL l c).map f := by
  unfold ringL
  rw [List.length_map]
  exact ringTo_map f l c _ (Nat.le_refl _)
theorem runL_map (f : Int → Int) (l cs : List Int) : runL (l.map f) cs = (runL l cs).map f := by
  unfold runL
  induction cs generalizing l with
  | nil => rfl
  | cons c cs ih => rw [List.foldl_cons, List.foldl_cons, ringL_map, ih]
/-- The last row of changes that are rung from a row on. -/
theorem runL_from (p cs : List Int) : runL p cs = thenL (runL (iota p.length) cs) p := by
  conv => lhs; rw [← thenL_iota p]
  exact runL_map _ _ _

theorem swapAt_cons (a : Int) (l : List Int) (i : Nat) : swapAt (a :: l) (i + 1) = a :: swapAt l i := by simp [swapAt, nth]
theorem swapAt_perm (l : List Int) : ∀ i, i + 1 < l.length → (swapAt l i).Perm l := by
  induction l with
  | nil => intro i h; simp at h
  | cons a l ih =>
    intro i h
    cases i with
    | zero =>
      cases l with
      | nil => simp at h
      | cons b l => simp only [swapAt, nth]; simp; exact List.Perm.swap _ _ _
    | succ i =>
      rw [swapAt_cons]
      exact (ih i (by simpa using h)).cons a
theorem ringTo_perm (l : List Int) (c k : Nat) (h : k ≤ l.length - 1) : (ringTo l c k).Perm l := by
  induction k with
  | zero => exact List.Perm.refl _
  | succ k ih =>
    rw [ringTo]
    split
    · exact (swapAt_perm _ _ (by rw [ringTo_length]; omega)).trans (ih (by omega))
    · exact ih (by omega)
theorem runL_perm (l cs : List Int) : (runL l cs).Perm l := by
  unfold runL
  induction cs generalizing l with
  | nil => exact List.Perm.refl _
  | cons c cs ih => rw [List.foldl_cons]; exact (ih _).trans (ringTo_perm _ _ _ (Nat.le_refl _))
theorem runL_isPerm {n : Nat} (cs : List Int) (h : n ≤ 1000) : IsPerm (runL (iota n) cs) :=
  ⟨by rw [runL_length, iota_length]; exact runL_perm _ _, by rw [runL_length, iota_length]; exact h⟩

/-- No two neighbouring exchanges. -/
def Apart (c : Nat) : Prop := ∀ j, c.testBit j = true → c.testBit (j + 1) = false
theorem nth_swapAt (l : List Int) (i j : Nat) (h : i + 1 < l.length) : nth (swapAt l i) j = if j = i + 1 then nth l i else if j = i then nth l (i + 1) else nth l j := by
  unfold swapAt
  by_cases h1 : j = i + 1
  · subst h1; rw [if_pos rfl, nth_set_same _ (by simpa using h)]
  · rw [if_neg h1, nth_set_other _ (by omega)]
    by_cases h2 : j = i
    · subst h2; rw [if_pos rfl, nth_set_same _ (by omega)]
    · rw [if_neg h2, nth_set_other _ (by omega)]
theorem nth_ringTo (row : List Int) (c : Nat) (hc : Apart c) (k : Nat) (h : k ≤ row.length - 1) : ∀ j,
    nth (ringTo row c k) j = if j < k ∧ c.testBit j = true then nth row (j + 1) else if 1 ≤ j ∧ j - 1 < k ∧ c.testBit (j - 1) = true then nth row (j - 1) else nth row j := by
  induction k with
  | zero => intro j; simp [ringTo]
  | succ k ih =>
    intro j
    have ih := ih (by omega)
    rw [ringTo]
    by_cases hb : c.testBit k = true
    · rw [if_pos hb, nth_swapAt _ _ _ (by rw [ringTo_length]; omega)]
      have hn := hc k hb
      by_cases h1 : j = k + 1
      · subst h1
        rw [if_pos rfl, ih, if_neg (by omega), if_neg, if_neg (by omega), if_pos ⟨by omega, by omega, by simpa using hb⟩]
        · rfl
        · rintro ⟨h1, h2, h3⟩
          have := hc _ h3
          rw [show k - 1 + 1 = k by omega, hb] at this
          cases this
      · rw [if_neg h1]
        by_cases h2 : j = k
        · subst h2
          rw [if_pos rfl, ih, if_neg (by omega), if_neg (by omega), if_pos ⟨by omega, hb⟩]
        · rw [if_neg h2, ih]
          have e1 : (j < k ∧ c.testBit j = true) ↔ (j < k + 1 ∧ c.testBit j = true) := ⟨fun h => ⟨by omega, h.2⟩, fun h => ⟨by omega, h.2⟩⟩
          have e2 : (1 ≤ j ∧ j - 1 < k ∧ c.testBit (j - 1) = true) ↔ (1 ≤ j ∧ j - 1 < k + 1 ∧ c.testBit (j - 1) = true) := ⟨fun h => ⟨h.1, by omega, h.2.2⟩, fun h => ⟨h.1, by omega, h.2.2⟩⟩
          simp only [e1, e2]
    · rw [if_neg hb, ih]
      have e1 : (j < k ∧ c.testBit j = true) ↔ (j < k + 1 ∧ c.testBit j = true) := ⟨fun h => ⟨by omega, h.2⟩, fun h => by
        refine ⟨?_, h.2⟩
        rcases Nat.lt_or_ge j k with h1 | h1
        · exact h1
        · exact absurd h.2 (by rw [show j = k by omega]; exact hb)⟩
      have e2 : (1 ≤ j ∧ j - 1 < k ∧ c.testBit (j - 1) = true) ↔ (1 ≤ j ∧ j - 1 < k + 1 ∧ c.testBit (j - 1) = true) := ⟨fun h => ⟨h.1, by omega, h.2.2⟩, fun h => by
        refine ⟨h.1, ?_, h.2.2⟩
        rcases Nat.lt_or_ge (j - 1) k with h1 | h1
        · exact h1
        · exact absurd h.2.2 (by rw [show j - 1 = k by omega]; exact hb)⟩
      simp only [e1, e2]
/-- A change twice. -/
theorem ringL_twice (row : List Int) (c : Nat) (hc : Apart c) : ringL (ringL row c) c = row := by
  refine ext_nth (by rw [ringL_length, ringL_length]) fun j hj => ?_
  rw [ringL_length, ringL_length] at hj
  unfold ringL
  have hl := ringTo_length row c (row.length - 1)
  rw [hl, nth_ringTo _ c hc _ (by rw [hl]; omega), nth_ringTo _ c hc _ (by omega), nth_ringTo _ c hc _ (by omega), nth_ringTo _ c hc _ (by omega)]
  by_cases h1 : j < row.length - 1 ∧ c.testBit j = true
  · have := hc j h1.2
    rw [if_pos h1, if_neg (by rintro ⟨_, h⟩; rw [this] at h; cases h), if_pos ⟨by omega, by omega, by simpa using h1.2⟩]
    simp
  · rw [if_neg h1]
    by_cases h2 : 1 ≤ j ∧ j - 1 < row.length - 1 ∧ c.testBit (j - 1) = true
    · rw [if_pos h2, if_pos ⟨by omega, h2.2.2⟩, show j - 1 + 1 = j by omega]
    · rw [if_neg h2, if_neg h1, if_neg h2]
theorem runL_twice (n : Nat) (k : Int) (hc : Apart k.toNat) : runL (iota n) [k, k] = iota n := by
  show ringL (ringL (iota n) k.toNat) k.toNat = iota n
  exact ringL_twice _ _ hc

/-- A number of exchanges without neighbours, from another one. -/
def chgFix : Nat → Nat → Nat
  | 0, c => c
  | f + 1, c => if c &&& (c >>> 1) ≠ 0 then chgFix f (c &&& (c - 1)) else c
def chgL (n : Nat) (x : Int) : Int := (chgFix 7 (x % ((2 ^ (n - 1) : Nat) : Int)).toNat : Nat)
def changesL (n : Nat) (raw : List Int) (most : Nat) : List Int := (raw.take most).map (chgL n)

end Go.Proofs.Ytnkahkahcajahaa
