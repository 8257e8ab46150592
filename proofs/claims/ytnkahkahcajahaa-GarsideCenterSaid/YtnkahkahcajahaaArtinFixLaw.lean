/- The images of the generators: conjugates of generators, as the permutation says; their product. -/
import Derived.Test.YtnkahkahcajahaaArtinGroup
import Derived.Test.YtnkahkahcajahaaConjLaw
import Derived.Test.YtnkahkahcajahaaWords
import Derived.Test.YtnkahkahcajahaaArtin
namespace Go.Proofs.Ytnkahkahcajahaa
open Go.RowKit Go.Sl

def swp (c : Int) (j : Nat) : Nat := if j + 1 = c.natAbs then j + 1 else if j = c.natAbs then j - 1 else j
def permB (xs : List Int) (j : Nat) : Nat := xs.foldl (fun j c => swp c j) j
theorem permB_cons (c : Int) (t : List Int) (j : Nat) : permB (c :: t) j = permB t (swp c j) := rfl
theorem permB_snoc (t : List Int) (c : Int) (j : Nat) : permB (t ++ [c]) j = swp c (permB t j) := by unfold permB; rw [List.foldl_append]; rfl
theorem swp_lt {c : Int} {n j : Nat} (hc : c.natAbs < n) (hj : j < n) : swp c j < n := by
  unfold swp
  split
  · omega
  · split <;> omega
theorem permB_lt {n : Nat} (xs : List Int) : ∀ {j : Nat}, (∀ c ∈ xs, c.natAbs < n) → j < n → permB xs j < n := by
  induction xs with
  | nil => exact fun _ h => h
  | cons c t ih => exact fun h hj => ih (fun d hd => h d (List.mem_cons_of_mem _ hd)) (swp_lt (h c List.mem_cons_self) hj)

theorem imagesA_cons (n : Nat) (c : Int) (t : List Int) : imagesA n (c :: t) = stepA (imagesA n t) c := by
  unfold imagesA; rw [List.reverse_cons, List.foldl_append]; rfl
theorem imagesA_len (n : Nat) (t : List Int) : (imagesA n t).length = n := by unfold imagesA; rw [foldA_len, gensA_length]

/-- The word is a conjugate of the generator. -/
def Cj (r : List Int) (m : Nat) : Prop := ∃ y, IsWord y ∧ r = redL (y ++ [(m : Int) + 1] ++ invL y)
theorem Cj.word {r : List Int} {m : Nat} (h : Cj r m) (hm : m < 6) : IsWord r := by
  obtain ⟨y, hy, rfl⟩ := h
  refine ((hy.append ?_).append hy.inv).red
  intro x hx
  simp at hx
  omega
theorem Cj.conj {r : List Int} {m : Nat} (h : Cj r m) {p : List Int} (hp : IsWord p) : Cj (redL (p ++ r ++ invL p)) m := by
  obtain ⟨y, hy, rfl⟩ := h
  refine ⟨p ++ y, hp.append hy, redL_eq ?_⟩
  rw [invL_append]
  simp only [act_append]
  rw [act_redL (act_rd rd_nil _)]
  simp only [act_append]
theorem cj_gen (j : Nat) : Cj [(j : Int) + 1] j := ⟨[], fun _ h => by simp at h, by
  rw [List.nil_append]
  exact (redL_of_rd (by simp [Rd])).symm⟩
theorem images_cj {n : Nat} (hn : n ≤ 6) (xs : List Int) : (∀ x ∈ xs, x ≠ 0 ∧ x.natAbs < n) → ∀ j, j < n → Cj (nthr (imagesA n xs) j) (permB xs j) := by
  induction xs with
  | nil =>
    intro _ j hj
    show Cj (nthr (gensA n) j) j
    rw [nthr_gens hj]
    exact cj_gen j
  | cons c t ih =>
    intro hx j hj
    have hc := hx c List.mem_cons_self
    have ht : ∀ x ∈ t, x ≠ 0 ∧ x.natAbs < n := fun d hd => hx d (List.mem_cons_of_mem _ hd)
    have IH := ih ht
    rw [imagesA_cons, permB_cons]
    have hl := imagesA_len n t
    have hw : ∀ m, m < n → IsWord (nthr (imagesA n t) m) := fun m hm => (IH m hm).word (Nat.lt_of_lt_of_le (permB_lt t (fun x h => (ht x h).2) hm) hn)
    obtain ⟨i, hi, rfl | rfl⟩ := letter_cases hc.1 hc.2
    · rw [nthr_pos (by omega)]
      have e : ((i : Int) + 1).natAbs = i + 1 := by omega
      unfold swp
      rw [e]
      by_cases h1 : j = i + 1
      · subst h1
        simp
        exact IH i (by omega)
      · by_cases h2 : j = i
        · subst h2
          simp
          have := (IH (j + 1) (by omega)).conj (hw j hj)
          simpa using this
        · simp [h1, h2]
          exact IH j hj
    · rw [nthr_neg (by omega)]
      have e : (-((i : Int) + 1)).natAbs = i + 1 := by omega
      unfold swp
      rw [e]
      by_cases h1 : j = i + 1
      · subst h1
        simp
        have := (IH i (by omega)).conj (hw (i + 1) hj).inv
        rw [invL_invL] at this
        simpa using this
      · by_cases h2 : j = i
        · subst h2
          simp
          exact IH (j + 1) (by omega)
        · simp [h1, h2]
          exact IH j hj

theorem split_two {X : List (List Int)} {i : Nat} (hi : i + 1 < X.length) : X = X.take i ++ nthr X i :: nthr X (i + 1) :: X.drop (i + 2) := by
  rw [nthr_lt (by omega), nthr_lt hi, ← List.drop_eq_getElem_cons hi, ← List.drop_eq_getElem_cons (by omega), List.take_append_drop]
theorem set_two {X : List (List Int)} {i : Nat} (hi : i + 1 < X.length) (r s : List Int) : (X.set i r).set (i + 1) s = X.take i ++ r :: s :: X.drop (i + 2) := by
  refine List.ext_getElem (by simp; omega) fun j h1 h2 => ?_
  simp only [List.getElem_set]
  by_cases e1 : i + 1 = j
  · subst e1
    rw [if_pos rfl, List.getElem_append_right (by simp; omega)]
    simp [show i + 1 - min i X.length = 1 by omega]
  · by_cases e2 : i = j
    · subst e2
      rw [if_neg e1, if_pos rfl, List.getElem_append_right (by simp; omega)]
      simp [show i - min i X.length = 0 by omega]
    · rw [if_neg e1, if_neg e2]
      simp only [List.length_set] at h1
      by_cases h : j < i
      · rw [List.getElem_append_left (by simp; omega)]; simp
      · rw [List.getElem_append_right (by simp; omega)]
        obtain ⟨m, rfl⟩ : ∃ m, j = i + 2 + m := ⟨j - i - 2, by omega⟩
        simp [show i + 2 + m - min i X.length = m + 1 + 1 by omega]
theorem step_flat {X : List (List Int)} {c : Int} (h0 : c ≠ 0) (hn : c.natAbs < X.length) : redL (stepA X c).flatten = redL X.flatten := by
  obtain ⟨i, hi, hc⟩ := letter_cases h0 hn
  have hsp := congrArg List.flatten (split_two hi)
  simp only [List.flatten_append, List.flatten_cons] at hsp
  refine redL_eq ?_
  rw [hsp]
  rcases hc with rfl | rfl
  · unfold stepA
    rw [if_pos (by omega), show ((i : Int) + 1).natAbs = i + 1 by omega, Nat.add_sub_cancel, set_two hi]
    simp only [List.flatten_append, List.flatten_cons, act_append]
    rw [act_redL (act_rd rd_nil _)]
    simp only [act_append]
    rw [act_cancel (act_rd (act_rd (act_rd rd_nil _) _) _)]
  · unfold stepA
    rw [if_neg (by omega), show (-((i : Int) + 1)).natAbs = i + 1 by omega, Nat.add_sub_cancel, set_two hi]
    simp only [List.flatten_append, List.flatten_cons, act_append]
    rw [act_redL (act_rd (act_rd rd_nil _) _)]
    simp only [act_append]
    rw [act_invL (act_rd rd_nil _)]
theorem images_flat {n : Nat} (xs : List Int) : (∀ x ∈ xs, x ≠ 0 ∧ x.natAbs < n) → redL (imagesA n xs).flatten = redL (gensA n).flatten := by
  induction xs with
  | nil => exact fun _ => rfl
  | cons c t ih =>
    intro h
    have hc := h c List.mem_cons_self
    rw [imagesA_cons, step_flat hc.1 (by rw [imagesA_len]; exact hc.2), ih (fun d hd => h d (List.mem_cons_of_mem _ hd))]
theorem gens_flat (n : Nat) (hn : n ≤ 6) : redL (gensA n).flatten = (gensA n).flatten := by
  rcases (show n = 0 ∨ n = 1 ∨ n = 2 ∨ n = 3 ∨ n = 4 ∨ n = 5 ∨ n = 6 by omega) with rfl | rfl | rfl | rfl | rfl | rfl | rfl <;> decide
/-- No image of a word of at most five letters is too long. -/
theorem step_len {X : List (List Int)} {L : Nat} (c : Int) (h : ∀ r ∈ X, r.length ≤ L) : ∀ r ∈ stepA X c, r.length ≤ 3 * L := by
  have hn : ∀ i, (nthr X i).length ≤ L := fun i => by
    by_cases hi : i < X.length
    · exact h _ (nthr_mem hi)
    · rw [nthr_over (by omega)]; simp
  have hi : ∀ a : List Int, (invL a).length = a.length := fun a => by simp [invL]
  intro r hr
  unfold stepA at hr
  have n1 := hn (c.natAbs - 1)
  have n2 := hn c.natAbs
  split at hr
  · rcases List.mem_or_eq_of_mem_set hr with h1 | rfl
    · rcases List.mem_or_eq_of_mem_set h1 with h2 | rfl
      · have := h r h2; omega
      · refine Nat.le_trans (redL_length _) ?_
        simp only [List.length_append, hi]; omega
    · omega
  · rcases List.mem_or_eq_of_mem_set hr with h1 | rfl
    · rcases List.mem_or_eq_of_mem_set h1 with h2 | rfl
      · have := h r h2; omega
      · omega
    · refine Nat.le_trans (redL_length _) ?_
      simp only [List.length_append, hi]; omega
theorem fold_len (ys : List Int) : ∀ (X : List (List Int)) (L : Nat), (∀ r ∈ X, r.length ≤ L) → ∀ r ∈ ys.foldl stepA X, r.length ≤ 3 ^ ys.length * L := by
  induction ys with
  | nil => intro X L h r hr; simpa using h r hr
  | cons y t ih =>
    intro X L h r hr
    have := ih (stepA X y) (3 * L) (step_len y h) r hr
    rw [List.length_cons, Nat.pow_succ, Nat.mul_assoc]
    exact this
theorem not_long {n : Nat} {xs : List Int} (h : xs.length ≤ 5) : ¬ TooLong n xs := by
  rintro ⟨j, hj, r, hr, hl⟩
  have h1 := fold_len (xs.reverse.take j) (gensA n) 1 (fun r hr => by
    obtain ⟨i, _, rfl⟩ := List.mem_map.1 hr
    simp) r hr
  have h2 : (xs.reverse.take j).length ≤ 5 := by simp; omega
  have h3 : 3 ^ (xs.reverse.take j).length ≤ 3 ^ 5 := Nat.pow_le_pow_right (by omega) h2
  omega
end Go.Proofs.Ytnkahkahcajahaa
