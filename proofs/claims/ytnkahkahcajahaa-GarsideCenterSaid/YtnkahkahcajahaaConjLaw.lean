/- Conjugate words of a free group: plain law. -/
import Derived.Test.YtnkahkahcajahaaRootLaw
namespace Go.Proofs.Ytnkahkahcajahaa
open Go.RowKit Go.Sl

/-- One word is the other with its first letters at its end. -/
def Rt (c d : List Int) : Prop := ∃ p q, c = p ++ q ∧ d = q ++ p
theorem Rt.refl (c : List Int) : Rt c c := ⟨[], c, by simp, by simp⟩
theorem Rt.symm {c d : List Int} (h : Rt c d) : Rt d c := let ⟨p, q, h1, h2⟩ := h; ⟨q, p, h2, h1⟩
theorem Rt.trans {c d e : List Int} (h : Rt c d) (k : Rt d e) : Rt c e := by
  obtain ⟨p, q, rfl, rfl⟩ := h
  obtain ⟨r, s, h1, rfl⟩ := k
  rcases List.append_eq_append_iff.1 h1 with ⟨t, rfl, rfl⟩ | ⟨t, rfl, rfl⟩
  · exact ⟨t, s ++ q, by simp, by simp⟩
  · exact ⟨p ++ r, t, by simp, by simp⟩
theorem Rt.length {c d : List Int} (h : Rt c d) : c.length = d.length := by
  obtain ⟨p, q, rfl, rfl⟩ := h
  simp only [List.length_append]; omega
theorem rt_iff (c d : List Int) : Rt c d ↔ ∃ k, k < max c.length 1 ∧ c.drop k ++ c.take k = d := by
  constructor
  · rintro ⟨p, q, rfl, rfl⟩
    by_cases hq : q = []
    · subst hq; exact ⟨0, by omega, by simp⟩
    · have := List.length_pos_iff.2 hq
      exact ⟨p.length, by rw [List.length_append]; omega, by simp⟩
  · rintro ⟨k, -, rfl⟩
    exact ⟨c.take k, c.drop k, by simp, rfl⟩

theorem core_self {e : List Int} (he : e ≠ []) (hc : CycRed e) : coreL e = e := by
  have := (strip_of [] e he hc).2
  simpa [invL] using this
theorem core_outer {b : Int} {m : List Int} (hm : m ≠ []) (hr : Rd m) (h0 : ∀ x ∈ m, x ≠ 0) : coreL (b :: m ++ [-b]) = coreL m := by
  have h1 := strip_parts m
  have h2 := (strip_of (b :: headL m) (coreL m) (core_ne hr hm) (core_cyc hr hm h0)).2
  have e : (b :: headL m) ++ coreL m ++ invL (b :: headL m) = b :: m ++ [-b] := by
    conv => rhs; rw [← h1]
    simp [invL]
  rwa [e] at h2
/-- A letter in front, after a reduced word. -/
theorem front {R : List Int} (h : Rd R) (a : Int) : redL (a :: R) = match R with | [] => [a] | r :: t => if r = -a then t else a :: r :: t := by
  cases R with
  | nil => rfl
  | cons r t =>
    show redL (a :: r :: t) = if r = -a then t else a :: r :: t
    split
    · rename_i e
      subst e
      have := redL_cancel [] [-a] t
      have e2 : redL (a :: -a :: t) = redL t := by simpa [invL] using this
      rw [e2, redL_of_rd h.tail]
    · rename_i e
      exact redL_of_rd ⟨e, h⟩
theorem back {m : List Int} {r : Int} (h : Rd (m ++ [r])) (a : Int) : redL (m ++ [r] ++ [a]) = if r = -a then m else m ++ [r] ++ [a] := by
  split
  · rename_i e
    subst e
    have := redL_cancel m [a] []
    have e2 : redL (m ++ [-a] ++ [a]) = redL m := by simpa [invL] using this
    rw [e2, redL_of_rd]
    by_cases hm : m = []
    · subst hm; trivial
    · exact ((rd_append hm (by simp)).1 h).1
  · rename_i e
    refine redL_of_rd ((rd_append (by simp) (by simp)).2 ⟨h, trivial, ?_⟩)
    rw [nth_append, List.length_append, if_neg (by simp)]
    simp [nth]; omega
/-- A letter may go from the front to the end. -/
theorem shift_rd (n : Nat) : ∀ (R : List Int) (a : Int), R.length ≤ n → Rd R → (∀ x ∈ R, x ≠ 0) → a ≠ 0 → Rt (coreL (redL (a :: R))) (coreL (redL (R ++ [a]))) := by
  induction n with
  | zero =>
    intro R a hl _ _ _
    have : R = [] := List.length_eq_zero_iff.1 (by omega)
    subst this; exact Rt.refl _
  | succ n ih =>
    intro R a hl hr h0 ha
    rcases List.eq_nil_or_concat R with rfl | ⟨m, r, hm⟩
    · exact Rt.refl _
    · rw [List.concat_eq_append] at hm
      subst hm
      rw [back hr]
      cases m with
      | nil =>
        rw [List.nil_append, front (by trivial)]
        show Rt (coreL (if r = -a then [] else [a, r])) (coreL (if r = -a then [] else [r] ++ [a]))
        split
        · exact Rt.refl _
        · rename_i e
          rw [core_self (by simp) (by unfold CycRed; simp [nth]; omega), core_self (by simp) (by unfold CycRed; simp [nth]; exact e)]
          exact ⟨[a], [r], rfl, rfl⟩
      | cons f t =>
        have hfr := front hr a
        simp only [List.cons_append] at hfr
        rw [show a :: (f :: t ++ [r]) = a :: f :: (t ++ [r]) by rfl, hfr]
        have hft : Rd (t ++ [r]) := Rd.tail (y := f) (by simpa using hr)
        have h0t : ∀ x ∈ t ++ [r], x ≠ 0 := fun x hx => h0 x (by simp at hx ⊢; rcases hx with h | h; exact .inr (.inl h); exact .inr (.inr h))
        have h0m : ∀ x ∈ f :: t, x ≠ 0 := fun x hx => h0 x (by simp at hx ⊢; rcases hx with h | h; exact .inl h; exact .inr (.inl h))
        have hmr : Rd (f :: t) := ((rd_append (a := f :: t) (b := [r]) (by simp) (by simp)).1 hr).1
        by_cases hf : f = -a
        · rw [if_pos hf]
          by_cases hb : r = -a
          · rw [if_pos hb]
            subst hf hb
            have htr : Rd t := hmr.tail
            have := ih t (-a) (by simp at hl; omega) htr (fun x hx => h0m x (by simp [hx])) (by omega)
            rw [redL_of_rd hft, redL_of_rd hmr] at this
            exact this.symm
          · rw [if_neg hb]
            subst hf
            have : -a :: t ++ [r] ++ [a] = -a :: (t ++ [r]) ++ [-(-a)] := by simp
            rw [this, core_outer (by simp) hft h0t]
            exact Rt.refl _
        · rw [if_neg hf]
          by_cases hb : r = -a
          · rw [if_pos hb]
            subst hb
            have : a :: f :: (t ++ [-a]) = a :: (f :: t) ++ [-a] := by simp
            rw [this, core_outer (by simp) hmr h0m]
            exact Rt.refl _
          · rw [if_neg hb]
            have c1 : CycRed (a :: f :: (t ++ [r])) := by
              unfold CycRed
              have : nth (a :: f :: (t ++ [r])) ((a :: f :: (t ++ [r])).length - 1) = r := by simp [nth]
              rw [this]; simp [nth]; omega
            have c2 : CycRed (f :: t ++ [r] ++ [a]) := by
              unfold CycRed
              have : nth (f :: t ++ [r] ++ [a]) ((f :: t ++ [r] ++ [a]).length - 1) = a := by simp [nth]
              rw [this]; simp [nth]; exact hf
            rw [core_self (by simp) c1, core_self (by simp) c2]
            exact ⟨[a], f :: t ++ [r], by simp, by simp⟩
theorem shift_any (w : List Int) (a : Int) (h0 : ∀ x ∈ w, x ≠ 0) (ha : a ≠ 0) : Rt (coreL (redL (a :: w))) (coreL (redL (w ++ [a]))) := by
  have h := shift_rd (redL w).length (redL w) a (Nat.le_refl _) (redL_rd w) (fun x hx => h0 x (redL_mem hx)) ha
  have e1 : redL (a :: redL w) = redL (a :: w) := by
    have e : redL [a] = [a] := rfl
    have h1 := redL_both [a] w
    rw [e] at h1
    exact h1
  have e2 : redL (redL w ++ [a]) = redL (w ++ [a]) := by
    have e : redL [a] = [a] := rfl
    have h1 := redL_both w [a]
    rwa [e] at h1
  rwa [e1, e2] at h
theorem shift_word (y : List Int) : ∀ w, (∀ x ∈ y, x ≠ 0) → (∀ x ∈ w, x ≠ 0) → Rt (coreL (redL (y ++ w))) (coreL (redL (w ++ y))) := by
  induction y with
  | nil => intro w _ _; simpa using Rt.refl _
  | cons a y ih =>
    intro w hy hw
    have h1 := shift_any (y ++ w) a (fun x hx => (List.mem_append.1 hx).elim (fun h => hy x (by simp [h])) (hw x)) (hy a (by simp))
    have h2 := ih (w ++ [a]) (fun x hx => hy x (by simp [hx])) (fun x hx => (List.mem_append.1 hx).elim (hw x) (fun h => by rw [List.mem_singleton.1 h]; exact hy a (by simp)))
    have e : y ++ w ++ [a] = y ++ (w ++ [a]) := by simp
    rw [e] at h1
    have := h1.trans h2
    simpa using this
/-- A conjugate has a core that is turned. -/
theorem conj_core (y x : List Int) (hy : ∀ z ∈ y, z ≠ 0) (hx : ∀ z ∈ x, z ≠ 0) : Rt (coreL (redL x)) (coreL (redL (y ++ x ++ invL y))) := by
  have h := shift_word y (x ++ invL y) hy (fun z hz => (List.mem_append.1 hz).elim (hx z) (fun h => by
    unfold invL at h
    obtain ⟨t, ht, rfl⟩ := List.mem_map.1 (List.mem_reverse.1 h)
    have := hy t ht; omega))
  have e : redL (x ++ invL y ++ y) = redL x := by
    have := redL_cancel x y []
    simpa using this
  rw [e] at h
  rw [List.append_assoc]
  exact h.symm

def sg2 (x : Int) : Int := if 0 < x then 1 else -1
def exp2 : List Int → Int
  | [] => 0
  | x :: w => sg2 x + exp2 w
theorem exp2_append (a b : List Int) : exp2 (a ++ b) = exp2 a + exp2 b := by
  induction a with
  | nil => simp [exp2]
  | cons x a ih => rw [List.cons_append, exp2, exp2, ih]; omega
theorem exp2_snoc (a : List Int) (x : Int) : exp2 (a ++ [x]) = exp2 a + sg2 x := by rw [exp2_append]; simp [exp2]
theorem exp2_le (a : List Int) : -(a.length : Int) ≤ exp2 a ∧ exp2 a ≤ a.length := by
  induction a with
  | nil => simp [exp2]
  | cons x a ih => rw [exp2, List.length_cons]; unfold sg2; split <;> omega
theorem exp2_reverse (a : List Int) : exp2 a.reverse = exp2 a := by
  induction a with
  | nil => rfl
  | cons x a ih => rw [List.reverse_cons, exp2_snoc, ih, exp2]; omega
theorem exp2_act (xs : List Int) : ∀ s, (∀ x ∈ xs, x ≠ 0) → exp2 (act s xs) = exp2 s + exp2 xs := by
  induction xs with
  | nil => intro s _; simp [act, exp2]
  | cons x xs ih =>
    intro s h
    have hx := h x (by simp)
    show exp2 (act (psh s x) xs) = _
    rw [ih _ (fun y hy => h y (by simp [hy])), exp2]
    have : exp2 (psh s x) = exp2 s + sg2 x := by
      cases s with
      | nil => simp [psh, exp2]
      | cons y t =>
        rw [psh]
        split
        · rename_i e
          subst e
          rw [exp2]; unfold sg2; split <;> split <;> omega
        · simp only [exp2]; omega
    rw [this]; omega
theorem exp2_redL (xs : List Int) (h : ∀ x ∈ xs, x ≠ 0) : exp2 (redL xs) = exp2 xs := by
  rw [redL, exp2_reverse, exp2_act xs [] h]; simp [exp2]
theorem exp2_invL (xs : List Int) (h : ∀ x ∈ xs, x ≠ 0) : exp2 (invL xs) = -exp2 xs := by
  unfold invL
  rw [exp2_reverse]
  induction xs with
  | nil => rfl
  | cons x xs ih =>
    have hx := h x (by simp)
    rw [List.map_cons, exp2, exp2, ih fun y hy => h y (by simp [hy])]
    unfold sg2; split <;> split <;> omega
theorem exp2_core (c : List Int) (h : ∀ x ∈ c, x ≠ 0) : exp2 (coreL c) = exp2 c := by
  have e := congrArg exp2 (strip_parts c)
  rw [exp2_append, exp2_append, exp2_invL (headL c) (fun x hx => h x (List.mem_of_mem_take hx))] at e
  omega
theorem Rt.exp {c d : List Int} (h : Rt c d) : exp2 c = exp2 d := by
  obtain ⟨p, q, rfl, rfl⟩ := h
  rw [exp2_append, exp2_append]; omega
theorem invL_rd {u : List Int} (h : Rd u) : Rd (invL u) := by
  unfold invL
  refine rd_reverse ?_
  rw [rd_iff] at h ⊢
  intro i hi
  rw [List.length_map] at hi
  have h1 := h i hi
  rw [nth_lt (by rw [List.length_map]; exact hi), nth_lt (by rw [List.length_map]; omega), List.getElem_map, List.getElem_map]
  rw [nth_lt hi, nth_lt (by omega)] at h1
  omega
theorem head_rd {c : List Int} (h : Rd c) : Rd (headL c) := by
  have h1 := strip_parts c
  by_cases hn : coreL c ++ invL (headL c) = []
  · rw [List.append_assoc, hn, List.append_nil] at h1
    rw [h1]; exact h
  · by_cases hu : headL c = []
    · rw [hu]; trivial
    · rw [← h1, List.append_assoc, rd_append hu hn] at h
      exact h.1

end Go.Proofs.Ytnkahkahcajahaa
