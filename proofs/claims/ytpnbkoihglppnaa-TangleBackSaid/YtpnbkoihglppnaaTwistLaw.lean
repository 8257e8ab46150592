/- Continued fractions: plain law. -/
import Derived.Test.YtpnbkoihglppnaaTangleBackLaw0
namespace Go.Proofs.Ytpnbkoihglppnaa
open Go.RowKit Go.Sl

def exGo : Nat → Int → Nat → Nat → List Int
  | 0, _, _, _ => []
  | f + 1, s, p, q => if q = 0 then [] else s * ((p / q : Nat) : Int) :: exGo f s q (p % q)
/-- The quotients of Euclid's way, with a sign. -/
def exL (s : Int) (p q : Nat) : List Int := exGo q s p q
theorem exGo_any (s : Int) (f : Nat) : ∀ (g p q : Nat), q ≤ f → q ≤ g → exGo f s p q = exGo g s p q := by
  induction f with
  | zero =>
    intro g p q h1 _
    have : q = 0 := by omega
    subst this
    cases g with
    | zero => rfl
    | succ g => simp [exGo]
  | succ f ih =>
    intro g p q h1 h2
    cases g with
    | zero =>
      have : q = 0 := by omega
      subst this
      simp [exGo]
    | succ g =>
      rw [exGo, exGo]
      by_cases hq : q = 0
      · rw [if_pos hq, if_pos hq]
      · rw [if_neg hq, if_neg hq]
        have := Nat.mod_lt p (show q > 0 by omega)
        rw [ih g q (p % q) (by omega) (by omega)]
theorem exL_zero (s : Int) (p : Nat) : exL s p 0 = [] := rfl
theorem exL_step (s : Int) (p q : Nat) (h : 0 < q) : exL s p q = s * ((p / q : Nat) : Int) :: exL s q (p % q) := by
  obtain ⟨f, rfl⟩ : ∃ f, q = f + 1 := ⟨q - 1, by omega⟩
  have hm := Nat.mod_lt p (show f + 1 > 0 by omega)
  unfold exL
  rw [exGo, if_neg (by omega), exGo_any s f (p % (f + 1)) (f + 1) (p % (f + 1)) (by omega) (Nat.le_refl _)]
theorem exL_length (s : Int) (f : Nat) : ∀ p q, q ≤ f → (exL s p q).length ≤ q := by
  induction f with
  | zero =>
    intro p q h
    have : q = 0 := by omega
    subst this
    simp [exL_zero]
  | succ f ih =>
    intro p q h
    by_cases hq : q = 0
    · subst hq; simp [exL_zero]
    · have hm := Nat.mod_lt p (show q > 0 by omega)
      rw [exL_step s p q (by omega), List.length_cons]
      have := ih q (p % q) (by omega)
      omega
theorem exL_bound (s : Int) (hs : s = 1 ∨ s = -1) (B f : Nat) : ∀ p q, q ≤ f → p ≤ B → q ≤ B → ∀ a ∈ exL s p q, -(B : Int) ≤ a ∧ a ≤ B := by
  induction f with
  | zero =>
    intro p q h _ _ a ha
    have : q = 0 := by omega
    subst this
    simp [exL_zero] at ha
  | succ f ih =>
    intro p q h hp hq a ha
    by_cases hq0 : q = 0
    · subst hq0; simp [exL_zero] at ha
    · have hm := Nat.mod_lt p (show q > 0 by omega)
      rw [exL_step s p q (by omega)] at ha
      have hd : p / q ≤ p := Nat.div_le_self p q
      obtain ⟨D, hD⟩ : ∃ D, p / q = D := ⟨_, rfl⟩
      rw [hD] at ha hd
      rcases List.mem_cons.1 ha with rfl | ha
      · rcases hs with rfl | rfl <;> omega
      · exact ih q (p % q) (by omega) hq (by omega) a ha

def stepT (f : Int × Int) (a : Int) : Int × Int := ((invF f.1 f.2).1 + a * (invF f.1 f.2).2, (invF f.1 f.2).2)
def twL (l : List Int) : Int × Int := l.foldl stepT (1, 0)
theorem twL_snoc (l : List Int) (a : Int) : twL (l ++ [a]) = stepT (twL l) a := by unfold twL; rw [List.foldl_append]; rfl
theorem tw_ex (s : Int) (hs : s = 1 ∨ s = -1) (f : Nat) : ∀ p q, q ≤ f → 0 < q → Nat.gcd p q = 1 → twL (exL s p q).reverse = (s * (p : Int), (q : Int)) := by
  induction f with
  | zero => intro p q h h0; omega
  | succ f ih =>
    intro p q h h0 hg
    have hm := Nat.mod_lt p h0
    have hdm := Nat.div_add_mod p q
    rw [exL_step s p q h0, List.reverse_cons, twL_snoc]
    have hinv : invF (twL (exL s q (p % q)).reverse).1 (twL (exL s q (p % q)).reverse).2 = (s * ((p % q : Nat) : Int), (q : Int)) := by
      by_cases hr : p % q = 0
      · have hq1 : q = 1 := by
          have := Nat.gcd_rec q p
          rw [Nat.gcd_comm] at hg
          rw [hg, hr] at this
          simpa using this.symm
        subst hq1
        rw [hr, exL_zero]
        have : twL ([] : List Int).reverse = (1, 0) := rfl
        rw [this]
        simp [invF]
      · have := ih q (p % q) (by omega) (by omega) (by rw [Nat.gcd_comm, ← Nat.gcd_rec, Nat.gcd_comm]; exact hg)
        rw [this]
        unfold invF
        rcases hs with rfl | rfl
        · rw [if_neg (by omega), if_neg (by omega)]; simp
        · rw [if_pos (by omega)]; simp
    unfold stepT
    rw [hinv]
    simp only
    have hmul : ((p : Nat) : Int) = (q : Int) * ((p / q : Nat) : Int) + ((p % q : Nat) : Int) := by rw [← Int.natCast_mul, ← Int.natCast_add, hdm]
    rw [hmul]
    congr 1
    rcases hs with rfl | rfl
    · rw [Int.one_mul, Int.one_mul, Int.one_mul, Int.mul_comm, Int.add_comm]
    · rw [Int.neg_mul, Int.neg_mul, Int.neg_mul, Int.neg_mul, Int.one_mul, Int.one_mul, Int.one_mul, Int.mul_comm]
      omega
theorem take_rev_snoc {α : Type} (A : List α) (x : α) (k : Nat) : (A ++ [x]).take k = A.take k ∨ (A ++ [x]).take k = A ++ [x] := by
  by_cases h : k ≤ A.length
  · exact .inl (List.take_append_of_le_length h)
  · exact .inr (List.take_of_length_le (by simp; omega))
theorem tw_bound (s : Int) (hs : s = 1 ∨ s = -1) (B f : Nat) (hB : 1 ≤ B) : ∀ p q, q ≤ f → p ≤ B → q ≤ B → (q = 0 ∨ Nat.gcd p q = 1) → ∀ k, (twL ((exL s p q).reverse.take k)).1.natAbs ≤ B ∧ (twL ((exL s p q).reverse.take k)).2.natAbs ≤ B := by
  have hnil : (twL []).1.natAbs ≤ B ∧ (twL []).2.natAbs ≤ B := by
    have : twL [] = (1, 0) := rfl
    rw [this]
    exact ⟨hB, Nat.zero_le _⟩
  induction f with
  | zero =>
    intro p q h _ _ _ k
    have : q = 0 := by omega
    subst this
    rw [exL_zero]
    simpa using hnil
  | succ f ih =>
    intro p q h hp hq hg k
    by_cases hq0 : q = 0
    · subst hq0
      rw [exL_zero]
      simpa using hnil
    · have hm := Nat.mod_lt p (show q > 0 by omega)
      have hg1 : Nat.gcd p q = 1 := hg.resolve_left hq0
      have hfull := tw_ex s hs (f + 1) p q h (by omega) hg1
      rw [exL_step s p q (by omega), List.reverse_cons] at hfull ⊢
      rcases take_rev_snoc (exL s q (p % q)).reverse (s * ((p / q : Nat) : Int)) k with e | e
      · rw [e]
        refine ih q (p % q) (by omega) hq (by omega) ?_ k
        exact .inr (by rw [Nat.gcd_comm, ← Nat.gcd_rec, Nat.gcd_comm]; exact hg1)
      · rw [e, hfull]
        simp only
        rcases hs with rfl | rfl
        · rw [Int.one_mul]; omega
        · rw [Int.neg_mul, Int.one_mul]; omega
end Go.Proofs.Ytpnbkoihglppnaa
