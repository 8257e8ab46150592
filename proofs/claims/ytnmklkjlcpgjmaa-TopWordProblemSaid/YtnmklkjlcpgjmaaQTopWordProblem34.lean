/- Reduced words have no letter beside its inverse. No program. -/
import Derived.Test.YtnmklkjlcpgjmaaQTopWordProblem0
import Derived.Test.YtnmklkjlcpgjmaaQTopWordProblem1
import Derived.Test.YtnmklkjlcpgjmaaQTopWordProblem2
import Derived.Test.YtnmklkjlcpgjmaaQTopWordProblem3
import Derived.Test.YtnmklkjlcpgjmaaQTopWordProblem5
import Derived.Test.YtnmklkjlcpgjmaaQTopWordProblem6
import Derived.Test.YtnmklkjlcpgjmaaQTopWordProblem7
import Derived.Test.YtnmklkjlcpgjmaaQTopWordProblem8
import Derived.Test.YtnmklkjlcpgjmaaQTopWordProblem9
import Derived.Test.YtnmklkjlcpgjmaaQTopWordProblem10
import Derived.Test.YtnmklkjlcpgjmaaQTopWordProblem11
import Derived.Test.YtnmklkjlcpgjmaaQTopWordProblem12
import Derived.Test.YtnmklkjlcpgjmaaQTopWordProblem15
import Derived.Test.YtnmklkjlcpgjmaaQTopWordProblem16
import Derived.Test.YtnmklkjlcpgjmaaQTopWordProblem17
import Derived.Test.YtnmklkjlcpgjmaaQTopWordProblem18
import Derived.Test.YtnmklkjlcpgjmaaQTopWordProblem19
import Derived.Test.YtnmklkjlcpgjmaaQTopWordProblem20
import Derived.Test.YtnmklkjlcpgjmaaQTopWordProblem31
import Derived.Test.YtnmklkjlcpgjmaaQTopWordProblem32

namespace Go.Proofs.Ytnmklkjlcpgjmaa
open Go.RowKit Go.Sl

theorem imagesA_len (n : Nat) (t : List Int) : (imagesA n t).length = n := by unfold imagesA; rw [foldA_len, gensA_length]

/-- The word is a conjugate of the generator. -/
def Cj (r : List Int) (m : Nat) : Prop := ∃ y, IsWord y ∧ r = redL (y ++ [(m : Int) + 1] ++ invL y)
theorem Cj.word {r : List Int} {m : Nat} (h : Cj r m) (hm : m < 6) : IsWord r := by
  obtain ⟨y, hy, rfl⟩ := h
  refine ((hy.append ?_).append hy.inv).red
  intro x hx
  simp at hx
  omega
/-- No image of a word of at most five letters is too long. -/
theorem step_len {X : List (List Int)} {L : Nat} (c : Int) (h : ∀ r ∈ X, r.length ≤ L) : ∀ r ∈ stepA X c, r.length ≤ 3 * L := by
  have hn : ∀ i, (nthr X i).length ≤ L := fun i => by
    by_cases hi : i < X.length
    · exact h _ (nthr_mem hi)
    · rw [nthr_over (by omega)]; simp
  have hi : ∀ a : List Int, (invL a).length = a.length := fun a => by simp [invL]
  intro r hr
  unfold stepA at hr
  have n1 := hn (c.natAbs - 1)
  have n2 := hn c.natAbs
  split at hr
  · rcases List.mem_or_eq_of_mem_set hr with h1 | rfl
    · rcases List.mem_or_eq_of_mem_set h1 with h2 | rfl
      · have := h r h2; omega
      · refine Nat.le_trans (redL_length _) ?_
        simp only [List.length_append, hi]; omega
    · omega
  · rcases List.mem_or_eq_of_mem_set hr with h1 | rfl
    · rcases List.mem_or_eq_of_mem_set h1 with h2 | rfl
      · have := h r h2; omega
      · omega
    · refine Nat.le_trans (redL_length _) ?_
      simp only [List.length_append, hi]; omega
theorem fold_len (ys : List Int) : ∀ (X : List (List Int)) (L : Nat), (∀ r ∈ X, r.length ≤ L) → ∀ r ∈ ys.foldl stepA X, r.length ≤ 3 ^ ys.length * L := by
  induction ys with
  | nil => intro X L h r hr; simpa using h r hr
  | cons y t ih =>
    intro X L h r hr
    have := ih (stepA X y) (3 * L) (step_len y h) r hr
    rw [List.length_cons, Nat.pow_succ, Nat.mul_assoc]
    exact this
end Go.Proofs.Ytnmklkjlcpgjmaa

namespace Go.Proofs.Ytnmklkjlcpgjmaa
open Go.RowKit Go.Sl

theorem redL_act {u v : List Int} (h : act [] u = act [] v) : redL u = redL v := by unfold redL; rw [h]
theorem red_join {f : Int → List Int} (hf : ∀ m, f (-m) = invL (f m)) (x y : List Int) : redL (redL (x.flatMap f) ++ redL (y.flatMap f) ++ invL (redL (x.flatMap f))) = redL ((redL (x ++ y ++ invL x)).flatMap f) := by
  refine redL_act ?_
  rw [flat_red hf rd_nil, act_append, act_append, act_redL rd_nil, act_redL (act_rd rd_nil _), act_inv_redL (act_rd (act_rd rd_nil _) _)]
  rw [List.flatMap_append, List.flatMap_append, act_append, act_append, flat_inv hf]
theorem red_join' {f : Int → List Int} (hf : ∀ m, f (-m) = invL (f m)) (x y : List Int) : redL (invL (redL (x.flatMap f)) ++ redL (y.flatMap f) ++ redL (x.flatMap f)) = redL ((redL (invL x ++ y ++ x)).flatMap f) := by
  refine redL_act ?_
  rw [flat_red hf rd_nil, act_append, act_append, act_inv_redL rd_nil, act_redL (act_rd rd_nil _), act_redL (act_rd (act_rd rd_nil _) _)]
  rw [List.flatMap_append, List.flatMap_append, act_append, act_append, flat_inv hf]
theorem step_subst {f : Int → List Int} (hf : ∀ m, f (-m) = invL (f m)) {X Y : List (List Int)} (hl : X.length = Y.length) (hY : ∀ j, j < X.length → nthr Y j = redL ((nthr X j).flatMap f)) {c : Int} (h0 : c ≠ 0) (hc : c.natAbs < X.length) : ∀ j, j < X.length → nthr (stepA Y c) j = redL ((nthr (stepA X c) j).flatMap f) := by
  intro j hj
  obtain ⟨i, hi, rfl | rfl⟩ := letter_cases h0 hc
  · rw [nthr_pos (by rw [← hl]; exact hi), nthr_pos hi]
    by_cases h1 : j = i + 1
    · rw [if_pos h1, if_pos h1]; exact hY i (by omega)
    · rw [if_neg h1, if_neg h1]
      by_cases h2 : j = i
      · rw [if_pos h2, if_pos h2, hY i (by omega), hY (i + 1) hi]
        exact red_join hf _ _
      · rw [if_neg h2, if_neg h2]; exact hY j hj
  · rw [nthr_neg (by rw [← hl]; exact hi), nthr_neg hi]
    by_cases h1 : j = i + 1
    · rw [if_pos h1, if_pos h1, hY i (by omega), hY (i + 1) hi]
      exact red_join' hf _ _
    · rw [if_neg h1, if_neg h1]
      by_cases h2 : j = i
      · rw [if_pos h2, if_pos h2]; exact hY (i + 1) hi
      · rw [if_neg h2, if_neg h2]; exact hY j hj
theorem fold_subst {f : Int → List Int} (hf : ∀ m, f (-m) = invL (f m)) : ∀ (w : List Int) {X Y : List (List Int)}, X.length = Y.length → (∀ x ∈ w, x ≠ 0 ∧ x.natAbs < X.length) → (∀ j, j < X.length → nthr Y j = redL ((nthr X j).flatMap f)) → ∀ j, j < X.length → nthr (w.foldl stepA Y) j = redL ((nthr (w.foldl stepA X) j).flatMap f) := by
  intro w
  induction w with
  | nil => exact fun _ _ h => h
  | cons c w ih =>
    intro X Y hl hw hY j hj
    have hc := hw c (by simp)
    have hlen : (stepA X c).length = X.length := stepA_length X c
    exact ih (X := stepA X c) (Y := stepA Y c) (by rw [hlen, stepA_length, hl]) (fun x hx => by rw [hlen]; exact hw x (by simp [hx])) (fun j hj => step_subst hf hl hY hc.1 hc.2 j (by rw [hlen] at hj; exact hj)) j (by rw [hlen]; exact hj)
theorem redL_one {x : Int} : redL [x] = [x] := by simp [redL, act, psh]
theorem images_snoc_pos {n i : Nat} (hi : i + 1 < n) {w : List Int} (hw : ∀ x ∈ w, x ≠ 0 ∧ x.natAbs < n) : ∀ j, j < n → nthr (imagesA n (w ++ [(i : Int) + 1])) j = redL ((nthr (imagesA n w) j).flatMap (sbP ((i : Int) + 1) ((i : Int) + 2))) := by
  intro j hj
  have hf := fun m => sbP_neg (a := (i : Int) + 1) (b := (i : Int) + 2) (by omega) (by omega) (by omega) (by omega) m
  have hlen := gensA_length n
  unfold imagesA
  rw [List.reverse_append]
  show nthr (w.reverse.foldl stepA (stepA (gensA n) ((i : Int) + 1))) j = _
  refine fold_subst hf w.reverse (X := gensA n) (Y := stepA (gensA n) ((i : Int) + 1)) (by rw [stepA_length]) (fun x hx => by rw [hlen]; exact hw x (by simpa using hx)) (fun j hj => ?_) j (by rw [hlen]; exact hj)
  rw [hlen] at hj
  rw [nthr_pos (by rw [hlen]; exact hi), nthr_gens hj, nthr_gens (show i < n by omega), nthr_gens hi]
  by_cases h1 : j = i + 1
  · subst h1
    rw [if_pos rfl]
    have : [((i + 1 : Nat) : Int) + 1].flatMap (sbP ((i : Int) + 1) ((i : Int) + 2)) = [(i : Int) + 1] := by
      simp only [List.flatMap_cons, List.flatMap_nil, List.append_nil]
      unfold sbP
      rw [if_neg (by omega), if_neg (by omega), if_pos (by omega)]
    rw [this, redL_one]
  · rw [if_neg h1]
    by_cases h2 : j = i
    · subst h2
      rw [if_pos rfl]
      have : [(j : Int) + 1].flatMap (sbP ((j : Int) + 1) ((j : Int) + 2)) = [(j : Int) + 1] ++ [((j + 1 : Nat) : Int) + 1] ++ invL [(j : Int) + 1] := by
        simp only [List.flatMap_cons, List.flatMap_nil, List.append_nil]
        unfold sbP
        rw [if_pos rfl]
        simp [invL]
        omega
      rw [this]
    · rw [if_neg h2]
      have : [(j : Int) + 1].flatMap (sbP ((i : Int) + 1) ((i : Int) + 2)) = [(j : Int) + 1] := by
        simp only [List.flatMap_cons, List.flatMap_nil, List.append_nil]
        unfold sbP
        rw [if_neg (by omega), if_neg (by omega), if_neg (by omega), if_neg (by omega)]
      rw [this, redL_one]
theorem images_snoc_neg {n i : Nat} (hi : i + 1 < n) {w : List Int} (hw : ∀ x ∈ w, x ≠ 0 ∧ x.natAbs < n) : ∀ j, j < n → nthr (imagesA n (w ++ [-((i : Int) + 1)])) j = redL ((nthr (imagesA n w) j).flatMap (sbP (-((i : Int) + 2)) (-((i : Int) + 1)))) := by
  intro j hj
  have hf := fun m => sbP_neg (a := -((i : Int) + 2)) (b := -((i : Int) + 1)) (by omega) (by omega) (by omega) (by omega) m
  have hlen := gensA_length n
  unfold imagesA
  rw [List.reverse_append]
  show nthr (w.reverse.foldl stepA (stepA (gensA n) (-((i : Int) + 1)))) j = _
  refine fold_subst hf w.reverse (X := gensA n) (Y := stepA (gensA n) (-((i : Int) + 1))) (by rw [stepA_length]) (fun x hx => by rw [hlen]; exact hw x (by simpa using hx)) (fun j hj => ?_) j (by rw [hlen]; exact hj)
  rw [hlen] at hj
  rw [nthr_neg (by rw [hlen]; exact hi), nthr_gens hj, nthr_gens (show i < n by omega), nthr_gens hi]
  by_cases h1 : j = i + 1
  · subst h1
    rw [if_pos rfl]
    have : [((i + 1 : Nat) : Int) + 1].flatMap (sbP (-((i : Int) + 2)) (-((i : Int) + 1))) = invL [((i + 1 : Nat) : Int) + 1] ++ [(i : Int) + 1] ++ [((i + 1 : Nat) : Int) + 1] := by
      simp only [List.flatMap_cons, List.flatMap_nil, List.append_nil]
      unfold sbP
      rw [if_neg (by omega), if_pos (by omega)]
      simp [invL]
      omega
    rw [this]
  · rw [if_neg h1]
    by_cases h2 : j = i
    · subst h2
      rw [if_pos rfl]
      have : [(j : Int) + 1].flatMap (sbP (-((j : Int) + 2)) (-((j : Int) + 1))) = [((j + 1 : Nat) : Int) + 1] := by
        simp only [List.flatMap_cons, List.flatMap_nil, List.append_nil]
        unfold sbP
        rw [if_neg (by omega), if_neg (by omega), if_neg (by omega), if_pos (by omega)]
        simp
        omega
      rw [this, redL_one]
    · rw [if_neg h2]
      have : [(j : Int) + 1].flatMap (sbP (-((i : Int) + 2)) (-((i : Int) + 1))) = [(j : Int) + 1] := by
        simp only [List.flatMap_cons, List.flatMap_nil, List.append_nil]
        unfold sbP
        rw [if_neg (by omega), if_neg (by omega), if_neg (by omega), if_neg (by omega)]
      rw [this, redL_one]
end Go.Proofs.Ytnmklkjlcpgjmaa

namespace Go.Proofs.Ytnmklkjlcpgjmaa
open Go.RowKit Go.Sl

theorem noInv_join : ∀ (u : List Int) (l m : Int), NoInv (u ++ [l]) → m ≠ 0 → m ≠ -l → NoInv (u ++ [l, m]) := by
  intro u
  induction u with
  | nil => exact fun l m h h1 h2 => ⟨h, h2, h1⟩
  | cons x u ih =>
    intro l m h h1 h2
    cases u with
    | nil =>
      obtain ⟨a, b, c⟩ := h
      exact ⟨a, b, c, h2, h1⟩
    | cons y u =>
      obtain ⟨a, b, c⟩ := h
      exact ⟨a, b, ih l m c h1 h2⟩
theorem noInv_rd : ∀ (s : List Int), Rd s → (∀ x ∈ s, x ≠ 0) → NoInv s.reverse := by
  intro s
  induction s with
  | nil => exact fun _ _ => trivial
  | cons x s ih =>
    intro h h0
    have h1 := ih h.tail fun y hy => h0 y (by simp [hy])
    cases s with
    | nil => exact h0 x (by simp)
    | cons y s =>
      have e1 : (x :: y :: s).reverse = s.reverse ++ [y, x] := by simp
      have e2 : (y :: s).reverse = s.reverse ++ [y] := by simp
      rw [e1]
      rw [e2] at h1
      refine noInv_join s.reverse y x h1 (h0 x (by simp)) ?_
      have := h
      unfold Rd at this
      intro e
      have h2 := this.1
      omega
theorem noInv_redL {w : List Int} (h : ∀ x ∈ w, x ≠ 0) : NoInv (redL w) := noInv_rd _ (act_rd rd_nil w) fun x hx => h x (redL_mem (by unfold redL; simpa using hx))
end Go.Proofs.Ytnmklkjlcpgjmaa

