/- Fox derivatives of the images under the Artin representation are the entries of the Burau matrix: plain law. -/
import Derived.Test.YtmcecmnbdcbehaaQTopFox0
import Derived.Test.YtmcecmnbdcbehaaQTopFox1
import Derived.Test.YtmcecmnbdcbehaaQTopFox2
import Derived.Test.YtmcecmnbdcbehaaQTopFox3
import Derived.Test.YtmcecmnbdcbehaaQTopFox4
import Derived.Test.YtmcecmnbdcbehaaQTopFox5
import Derived.Test.YtmcecmnbdcbehaaQTopFox6
import Derived.Test.YtmcecmnbdcbehaaQTopFox7
import Derived.Test.YtmcecmnbdcbehaaQTopFox9
import Derived.Test.YtmcecmnbdcbehaaQTopFox10
import Derived.Test.YtmcecmnbdcbehaaQTopFox11
import Derived.Test.YtmcecmnbdcbehaaQTopFox12
import Derived.Test.YtmcecmnbdcbehaaQTopFox13
import Derived.Test.YtmcecmnbdcbehaaQTopFox14
import Derived.Test.YtmcecmnbdcbehaaQTopFox15
import Derived.Test.YtmcecmnbdcbehaaQTopFox16
import Derived.Test.YtmcecmnbdcbehaaQTopFox17
import Derived.Test.YtmcecmnbdcbehaaQTopFox18
import Derived.Test.YtmcecmnbdcbehaaQTopFox21
import Derived.Test.YtmcecmnbdcbehaaQTopFox22
import Derived.Test.YtmcecmnbdcbehaaQTopFox24
import Derived.Test.YtmcecmnbdcbehaaQTopFox25

namespace Go.Proofs.Ytmcecmnbdcbehaa
open Go.RowKit Go.Sl

def swp (c : Int) (j : Nat) : Nat := if j + 1 = c.natAbs then j + 1 else if j = c.natAbs then j - 1 else j
def permB (xs : List Int) (j : Nat) : Nat := xs.foldl (fun j c => swp c j) j
theorem permB_cons (c : Int) (t : List Int) (j : Nat) : permB (c :: t) j = permB t (swp c j) := rfl
theorem swp_lt {c : Int} {n j : Nat} (hc : c.natAbs < n) (hj : j < n) : swp c j < n := by
  unfold swp
  split
  · omega
  · split <;> omega
theorem permB_lt {n : Nat} (xs : List Int) : ∀ {j : Nat}, (∀ c ∈ xs, c.natAbs < n) → j < n → permB xs j < n := by
  induction xs with
  | nil => exact fun _ h => h
  | cons c t ih => exact fun h hj => ih (fun d hd => h d (List.mem_cons_of_mem _ hd)) (swp_lt (h c List.mem_cons_self) hj)

theorem imagesA_cons (n : Nat) (c : Int) (t : List Int) : imagesA n (c :: t) = stepA (imagesA n t) c := by
  unfold imagesA; rw [List.reverse_cons, List.foldl_append]; rfl
theorem imagesA_len (n : Nat) (t : List Int) : (imagesA n t).length = n := by unfold imagesA; rw [foldA_len, gensA_length]

/-- The word is a conjugate of the generator. -/
def Cj (r : List Int) (m : Nat) : Prop := ∃ y, IsWord y ∧ r = redL (y ++ [(m : Int) + 1] ++ invL y)
theorem Cj.word {r : List Int} {m : Nat} (h : Cj r m) (hm : m < 6) : IsWord r := by
  obtain ⟨y, hy, rfl⟩ := h
  refine ((hy.append ?_).append hy.inv).red
  intro x hx
  simp at hx
  omega
theorem Cj.conj {r : List Int} {m : Nat} (h : Cj r m) {p : List Int} (hp : IsWord p) : Cj (redL (p ++ r ++ invL p)) m := by
  obtain ⟨y, hy, rfl⟩ := h
  refine ⟨p ++ y, hp.append hy, redL_eq ?_⟩
  rw [invL_append]
  simp only [act_append]
  rw [act_redL (act_rd rd_nil _)]
  simp only [act_append]
theorem cj_gen (j : Nat) : Cj [(j : Int) + 1] j := ⟨[], fun _ h => by simp at h, by
  rw [List.nil_append]
  exact (redL_of_rd (by simp [Rd])).symm⟩
theorem images_cj {n : Nat} (hn : n ≤ 6) (xs : List Int) : (∀ x ∈ xs, x ≠ 0 ∧ x.natAbs < n) → ∀ j, j < n → Cj (nthr (imagesA n xs) j) (permB xs j) := by
  induction xs with
  | nil =>
    intro _ j hj
    show Cj (nthr (gensA n) j) j
    rw [nthr_gens hj]
    exact cj_gen j
  | cons c t ih =>
    intro hx j hj
    have hc := hx c List.mem_cons_self
    have ht : ∀ x ∈ t, x ≠ 0 ∧ x.natAbs < n := fun d hd => hx d (List.mem_cons_of_mem _ hd)
    have IH := ih ht
    rw [imagesA_cons, permB_cons]
    have hl := imagesA_len n t
    have hw : ∀ m, m < n → IsWord (nthr (imagesA n t) m) := fun m hm => (IH m hm).word (Nat.lt_of_lt_of_le (permB_lt t (fun x h => (ht x h).2) hm) hn)
    obtain ⟨i, hi, rfl | rfl⟩ := letter_cases hc.1 hc.2
    · rw [nthr_pos (by omega)]
      have e : ((i : Int) + 1).natAbs = i + 1 := by omega
      unfold swp
      rw [e]
      by_cases h1 : j = i + 1
      · subst h1
        simp
        exact IH i (by omega)
      · by_cases h2 : j = i
        · subst h2
          simp
          have := (IH (j + 1) (by omega)).conj (hw j hj)
          simpa using this
        · simp [h1, h2]
          exact IH j hj
    · rw [nthr_neg (by omega)]
      have e : (-((i : Int) + 1)).natAbs = i + 1 := by omega
      unfold swp
      rw [e]
      by_cases h1 : j = i + 1
      · subst h1
        simp
        have := (IH i (by omega)).conj (hw (i + 1) hj).inv
        rw [invL_invL] at this
        simpa using this
      · by_cases h2 : j = i
        · subst h2
          simp
          exact IH (j + 1) (by omega)
        · simp [h1, h2]
          exact IH j hj

/-- No image of a word of at most five letters is too long. -/
theorem step_len {X : List (List Int)} {L : Nat} (c : Int) (h : ∀ r ∈ X, r.length ≤ L) : ∀ r ∈ stepA X c, r.length ≤ 3 * L := by
  have hn : ∀ i, (nthr X i).length ≤ L := fun i => by
    by_cases hi : i < X.length
    · exact h _ (nthr_mem hi)
    · rw [nthr_over (by omega)]; simp
  have hi : ∀ a : List Int, (invL a).length = a.length := fun a => by simp [invL]
  intro r hr
  unfold stepA at hr
  have n1 := hn (c.natAbs - 1)
  have n2 := hn c.natAbs
  split at hr
  · rcases List.mem_or_eq_of_mem_set hr with h1 | rfl
    · rcases List.mem_or_eq_of_mem_set h1 with h2 | rfl
      · have := h r h2; omega
      · refine Nat.le_trans (redL_length _) ?_
        simp only [List.length_append, hi]; omega
    · omega
  · rcases List.mem_or_eq_of_mem_set hr with h1 | rfl
    · rcases List.mem_or_eq_of_mem_set h1 with h2 | rfl
      · have := h r h2; omega
      · omega
    · refine Nat.le_trans (redL_length _) ?_
      simp only [List.length_append, hi]; omega
theorem fold_len (ys : List Int) : ∀ (X : List (List Int)) (L : Nat), (∀ r ∈ X, r.length ≤ L) → ∀ r ∈ ys.foldl stepA X, r.length ≤ 3 ^ ys.length * L := by
  induction ys with
  | nil => intro X L h r hr; simpa using h r hr
  | cons y t ih =>
    intro X L h r hr
    have := ih (stepA X y) (3 * L) (step_len y h) r hr
    rw [List.length_cons, Nat.pow_succ, Nat.mul_assoc]
    exact this
end Go.Proofs.Ytmcecmnbdcbehaa

namespace Go.Proofs.Ytmcecmnbdcbehaa
open Go.RowKit Go.Sl

theorem expo_exp2 (xs : List Int) : expo xs = exp2 xs := by
  induction xs with
  | nil => rfl
  | cons x xs ih => rw [expo, exp2, ih]; rfl
theorem dv_pair {i : Int} {t : Rat} (ht : t ≠ 0) {x : Int} (hi : 0 < i) (hx : x ≠ 0) : dv i t x + t ^ sg x * dv i t (-x) = 0 := by
  have h1 : t ^ (-1 : Int) = t⁻¹ := by rw [Rat.zpow_neg]; simp
  have h3 : t ^ (1 : Int) = t := by simp
  have h2 : t⁻¹ * t = 1 := Rat.inv_mul_cancel t ht
  unfold dv sg
  by_cases a : x = i
  · rw [if_pos a, if_neg (show ¬ -x = i by omega), if_pos (show -x = -i by omega), if_pos (by omega), h3]; grind
  · by_cases b : x = -i
    · rw [if_neg a, if_pos b, if_pos (show -x = i by omega), if_neg (by omega), h1]; grind
    · rw [if_neg a, if_neg b, if_neg (show ¬ -x = i by omega), if_neg (show ¬ -x = -i by omega)]; grind
theorem der_psh {i : Int} {t : Rat} (ht : t ≠ 0) (hi : 0 < i) {x : Int} (hx : x ≠ 0) (s : List Int) : der i t (psh s x).reverse = der i t (s.reverse ++ [x]) := by
  cases s with
  | nil => rfl
  | cons y s =>
    rw [psh]
    split
    · rename_i e
      subst e
      have hp := dv_pair ht hi (x := -x) (by omega)
      rw [Int.neg_neg] at hp
      rw [List.reverse_cons, List.append_assoc, der_append i ht]
      show _ = _ + _ * (dv i t (-x) + t ^ sg (-x) * (dv i t x + t ^ sg x * 0))
      rw [Rat.mul_zero, Rat.add_zero, hp, Rat.mul_zero, Rat.add_zero]
    · rw [List.reverse_cons]
theorem der_act {i : Int} {t : Rat} (ht : t ≠ 0) (hi : 0 < i) (xs : List Int) : ∀ s : List Int, (∀ x ∈ xs, x ≠ 0) → der i t (act s xs).reverse = der i t (s.reverse ++ xs) := by
  induction xs with
  | nil => intro s _; rw [List.append_nil]; rfl
  | cons x xs ih =>
    intro s h
    show der i t (act (psh s x) xs).reverse = _
    rw [ih _ (fun y hy => h y (by simp [hy])), der_append i ht, der_psh ht hi (h x (by simp)), show s.reverse ++ x :: xs = (s.reverse ++ [x]) ++ xs by simp, der_append i ht (s.reverse ++ [x])]
    congr 3
    have e : expo (psh s x).reverse = expo (s.reverse ++ [x]) := by
      cases s with
      | nil => rfl
      | cons y s =>
        rw [psh]
        split
        · rename_i e
          subst e
          have := h x (by simp)
          simp only [List.reverse_cons, expo_append, expo]
          unfold sg; split <;> split <;> omega
        · simp
    rw [e]
theorem der_redL {i : Int} {t : Rat} (ht : t ≠ 0) (hi : 0 < i) (xs : List Int) (h : ∀ x ∈ xs, x ≠ 0) : der i t (redL xs) = der i t xs := by
  rw [redL, der_act ht hi xs [] h]; rfl
theorem der_invL {i : Int} {t : Rat} (ht : t ≠ 0) (hi : 0 < i) (a : List Int) (h : ∀ x ∈ a, x ≠ 0) : der i t a + t ^ expo a * der i t (invL a) = 0 := by
  have e := der_redL ht hi (a ++ invL a) (fun x hx => by
    rcases List.mem_append.1 hx with h1 | h1
    · exact h x h1
    · simp [invL] at h1
      have := h (-x) (by obtain ⟨y, hy, rfl⟩ := h1; simpa using hy)
      omega)
  have e2 : redL (a ++ invL a) = [] := by
    have := redL_right a
    rw [redL, act_append] at this ⊢
    rwa [act_redL (act_rd rd_nil _)] at this
  rw [e2, der_append i ht] at e
  exact e.symm

theorem Cj.expo {r : List Int} {m : Nat} (h : Cj r m) : expo r = 1 := by
  obtain ⟨y, hy, rfl⟩ := h
  have h0 : ∀ x ∈ y, x ≠ 0 := fun x hx => by have := hy x hx; omega
  rw [expo_exp2, exp2_redL _ (fun x hx => by
    simp only [List.mem_append, List.mem_singleton] at hx
    rcases hx with (h1 | h1) | h1
    · exact h0 x h1
    · omega
    · simp [invL] at h1
      have := h0 (-x) (by obtain ⟨y, hy, rfl⟩ := h1; simpa using hy)
      omega), exp2_append, exp2_append, exp2_invL _ h0]
  simp [exp2, sg2]; omega

theorem fbact_lin {t : Rat} (x : Int) (a b : Rat) (f g : Nat → Rat) : bact t x (fun k => a * f k + b * g k) = fun k => a * bact t x f k + b * bact t x g k := by
  funext k
  unfold bact
  split
  · unfold bactN; split
    · grind
    · split <;> grind
  · unfold bactP; split
    · grind
    · split <;> grind
theorem fbacts_lin {t : Rat} (xs : List Int) (a b : Rat) : ∀ f g : Nat → Rat, bacts t xs (fun k => a * f k + b * g k) = fun k => a * bacts t xs f k + b * bacts t xs g k := by
  induction xs with
  | nil => intro f g; rfl
  | cons x xs ih =>
    intro f g
    show bacts t xs (bact t x _) = _
    rw [fbact_lin, ih]
    rfl
theorem bact_unit_pos {t : Rat} (p j : Nat) : bact t ((p : Int) + 1) (unitV j) = if j = p then (fun k => (1 - t) * unitV p k + t * unitV (p + 1) k) else if j = p + 1 then unitV p else unitV j := by
  funext k
  have e : ((p : Int) + 1).natAbs - 1 = p := by omega
  unfold bact
  rw [if_neg (by omega), e]
  unfold bactP unitV
  by_cases h1 : j = p
  · subst h1
    simp only [if_true]
    by_cases h2 : k = j
    · subst h2; (simp <;> grind)
    · by_cases h3 : k = j + 1
      · subst h3; (simp <;> grind)
      · (simp [h2, h3] <;> grind)
  · by_cases h4 : j = p + 1
    · subst h4
      by_cases h2 : k = p
      · subst h2; (simp <;> grind)
      · by_cases h3 : k = p + 1
        · subst h3; (simp <;> grind)
        · simp [h2, h3]
    · by_cases h2 : k = p
      · subst h2; (simp [h1, h4, Ne.symm h1, Ne.symm h4] <;> grind)
      · by_cases h3 : k = p + 1
        · subst h3; (simp [h1, h4, Ne.symm h1, Ne.symm h4] <;> grind)
        · simp [h1, h2, h3, h4]
theorem bact_unit_neg {t : Rat} (p j : Nat) : bact t (-((p : Int) + 1)) (unitV j) = if j = p then unitV (p + 1) else if j = p + 1 then (fun k => t⁻¹ * unitV p k + (1 - t⁻¹) * unitV (p + 1) k) else unitV j := by
  funext k
  have e : (-((p : Int) + 1)).natAbs - 1 = p := by omega
  unfold bact
  rw [if_pos (by omega), e]
  unfold bactN unitV
  by_cases h1 : j = p
  · subst h1
    by_cases h2 : k = j
    · subst h2; (simp <;> grind)
    · by_cases h3 : k = j + 1
      · subst h3; (simp <;> grind)
      · simp [h2, h3]
  · by_cases h4 : j = p + 1
    · subst h4
      by_cases h2 : k = p
      · subst h2; (simp <;> grind)
      · by_cases h3 : k = p + 1
        · subst h3; (simp <;> grind)
        · (simp [h2, h3] <;> grind)
    · by_cases h2 : k = p
      · subst h2; (simp [h1, h4, Ne.symm h1, Ne.symm h4] <;> grind)
      · by_cases h3 : k = p + 1
        · subst h3; (simp [h1, h4, Ne.symm h1, Ne.symm h4] <;> grind)
        · simp [h1, h2, h3, h4]

/-- The derivative of an image is the value of the Burau matrix. -/
theorem der_images {n : Nat} (hn : n ≤ 6) {t : Rat} (ht : t ≠ 0) (k : Nat) (xs : List Int) : (∀ x ∈ xs, x ≠ 0 ∧ x.natAbs < n) → ∀ j, j < n → der ((k : Int) + 1) t (nthr (imagesA n xs) j) = bacts t xs (unitV j) k := by
  have hi : (0 : Int) < (k : Int) + 1 := by omega
  induction xs with
  | nil =>
    intro _ j hj
    show der _ t (nthr (gensA n) j) = unitV j k
    rw [nthr_gens hj]
    simp only [der, dv, unitV]
    by_cases h : k = j
    · subst h; simp; grind
    · have a : ¬ ((j : Int) + 1 = k + 1) := by omega
      have b : ¬ ((j : Int) + 1 = -(k + 1)) := by omega
      rw [if_neg a, if_neg b, if_neg h]; grind
  | cons c ys ih =>
    intro hx j hj
    have hc := hx c List.mem_cons_self
    have hy : ∀ x ∈ ys, x ≠ 0 ∧ x.natAbs < n := fun d hd => hx d (List.mem_cons_of_mem _ hd)
    have IH := ih hy
    have CJ := images_cj hn ys hy
    have hl := imagesA_len n ys
    have hw : ∀ m, m < n → IsWord (nthr (imagesA n ys) m) := fun m hm => (CJ m hm).word (Nat.lt_of_lt_of_le (permB_lt ys (fun x h => (hy x h).2) hm) hn)
    have h0 : ∀ m, m < n → ∀ x ∈ nthr (imagesA n ys) m, x ≠ 0 := fun m hm x hx => by have := hw m hm x hx; omega
    have hiv : ∀ m, m < n → ∀ x ∈ invL (nthr (imagesA n ys) m), x ≠ 0 := fun m hm x hx => by have := (hw m hm).inv x hx; omega
    have ex : ∀ m, m < n → expo (nthr (imagesA n ys) m) = 1 := fun m hm => (CJ m hm).expo
    have exi : ∀ m, m < n → expo (invL (nthr (imagesA n ys) m)) = -1 := fun m hm => by
      rw [expo_exp2, exp2_invL _ (h0 m hm), ← expo_exp2, ex m hm]
    have dinv : ∀ m, m < n → der ((k : Int) + 1) t (invL (nthr (imagesA n ys) m)) = -(t⁻¹ * der ((k : Int) + 1) t (nthr (imagesA n ys) m)) := fun m hm => by
      have e := der_invL ht hi _ (h0 m hm)
      rw [ex m hm, Rat.zpow_one] at e
      have h2 : t⁻¹ * t = 1 := Rat.inv_mul_cancel t ht
      grind
    have h2 : t * t⁻¹ = 1 := Rat.mul_inv_cancel t ht
    have z1 : t ^ (-1 : Int) = t⁻¹ := by rw [Rat.zpow_neg]; simp
    rw [imagesA_cons]
    show _ = bacts t ys (bact t c (unitV j)) k
    obtain ⟨i, hi', rfl | rfl⟩ := letter_cases hc.1 hc.2
    · rw [nthr_pos (by rw [hl]; exact hi'), bact_unit_pos]
      by_cases h1 : j = i + 1
      · subst h1
        rw [if_pos rfl, if_neg (show ¬ i + 1 = i by omega), if_pos rfl]
        exact IH i (by omega)
      · by_cases h3 : j = i
        · subst h3
          rw [if_neg h1, if_pos rfl, if_pos rfl, fbacts_lin]
          rw [der_redL ht hi _ (fun x hx => by
            simp only [List.mem_append] at hx
            rcases hx with (h | h) | h
            · exact h0 _ hj x h
            · exact h0 _ hi' x h
            · exact hiv _ hj x h)]
          rw [der_append _ ht, der_append _ ht, expo_append, ex _ hj, ex _ hi', dinv _ hj, IH _ hj, IH _ hi']
          have z2 : t ^ ((1 : Int) + 1) = t * t := by rw [Rat.zpow_add ht, Rat.zpow_one]
          rw [z2, Rat.zpow_one]
          grind
        · rw [if_neg h1, if_neg h3, if_neg h3, if_neg h1]
          exact IH j hj
    · rw [nthr_neg (by rw [hl]; exact hi'), bact_unit_neg]
      by_cases h1 : j = i + 1
      · subst h1
        rw [if_pos rfl, if_neg (show ¬ i + 1 = i by omega), if_pos rfl, fbacts_lin]
        rw [der_redL ht hi _ (fun x hx => by
            simp only [List.mem_append] at hx
            rcases hx with (h | h) | h
            · exact hiv _ hj x h
            · exact h0 _ (by omega) x h
            · exact h0 _ hj x h)]
        have hij : i < n := by omega
        rw [der_append _ ht, der_append _ ht, expo_append, exi _ hj, ex _ hij, dinv _ hj, IH _ hj, IH _ hij]
        rw [show (-1 : Int) + 1 = 0 from rfl, Rat.zpow_zero, z1]
        grind
      · by_cases h3 : j = i
        · subst h3
          rw [if_neg h1, if_pos rfl, if_pos rfl]
          exact IH (j + 1) (by omega)
        · rw [if_neg h1, if_neg h3, if_neg h3, if_neg h1]
          exact IH j hj

theorem fox_burau {n : Nat} (hn : n ≤ 6) {xs : List Int} (hx : NWord n xs) {j k : Nat} (hj : j < n) (hk : k < n) : foxL ((k : Int) + 1) (nthr (imagesA n xs) j) = nthp (rowM n xs j) k := by
  have CJ := images_cj hn xs hx j hj
  have h0 : ∀ x ∈ nthr (imagesA n xs) j, x ≠ 0 := fun x hm => by have := CJ.word (Nat.lt_of_lt_of_le (permB_lt xs (fun x h => (hx x h).2) hj) hn) x hm; omega
  refine ev_ext (foxL_trimmed _ _ h0) (trimmed_rowM hx j k hk) fun t ht => ?_
  rw [foxL_ev _ (by omega) _ ht h0, der_images hn ht k xs hx j hj, ev_rowM ht hx j k hk]

end Go.Proofs.Ytmcecmnbdcbehaa

