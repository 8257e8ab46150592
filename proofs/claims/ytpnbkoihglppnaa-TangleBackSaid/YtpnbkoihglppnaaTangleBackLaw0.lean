/- Tangles: Untangle leads to 0 and back; continued fractions: plain law. -/
import Derived.Test.YtpnbkoihglppnaaUntangle
namespace Go.Proofs.Ytpnbkoihglppnaa
open Go.RowKit Go.Sl

theorem FracOk.zero {d : Int} (h : FracOk 0 d) : d = 1 := by
  have h1 := h.gcd
  have h2 := h.d0
  have h3 := h.inf
  rcases Int.lt_or_eq_of_le h2 with h4 | h4
  · simp at h1
    omega
  · have := h3 h4.symm
    omega
theorem kF_bound {n d : Int} (hn : n.natAbs ≤ 999) (hd : 0 ≤ d) : -1000 ≤ kF n d ∧ kF n d ≤ 1000 := by
  unfold kF
  split
  · rename_i h
    constructor
    · refine (Int.le_ediv_iff_mul_le (by omega)).2 ?_
      have : (-1000 : Int) * (2 * d) ≤ -2000 := by omega
      omega
    · refine Int.ediv_le_of_le_mul (by omega) ?_
      have : (2000 : Int) ≤ 1000 * (2 * d) := by omega
      have h3 : 2 * d + 1998 ≤ 1000 * (2 * d) := by omega
      omega
  · omega
/-- Words of operations that lead from one fraction to another one, by right fractions. -/
def Leads (f : Int × Int) (ops : List Int) (g : Int × Int) : Prop := applyL f ops = g ∧ ∀ k, k ≤ ops.length → FOk (applyL f (ops.take k))
theorem Leads.nil {f : Int × Int} (h : FOk f) : Leads f [] f := ⟨rfl, fun k hk => by
  have : k = 0 := by simpa using hk
  subst this
  exact h⟩
theorem Leads.cons {f g : Int × Int} {a : Int} {ops : List Int} (hf : FOk f) (h : Leads (stepF f a) ops g) : Leads f (a :: ops) g := ⟨h.1, fun k hk => by
  cases k with
  | zero => exact hf
  | succ k => exact h.2 k (by simpa using hk)⟩
theorem untL_leads (M : Nat) : ∀ n d : Int, mF n d ≤ M → FracOk n d → n.natAbs ≤ 999 → d ≤ 999 → Leads (n, d) (untL n d) (0, 1) ∧ ∀ k ∈ untL n d, -1000 ≤ k ∧ k ≤ 1000 := by
  induction M with
  | zero =>
    intro n d hm hok hn hd
    have hn0 : n = 0 := by
      unfold mF at hm
      split at hm
      · assumption
      · omega
    subst hn0
    have := hok.zero
    subst this
    rw [untL_zero]
    exact ⟨Leads.nil hok, fun k hk => by simp at hk⟩
  | succ M ih =>
    intro n d hm hok hn hd
    have hd0 := hok.d0
    by_cases hn0 : n = 0
    · subst hn0
      have := hok.zero
      subst this
      rw [untL_zero]
      exact ⟨Leads.nil hok, fun k hk => by simp at hk⟩
    · have hkb := kF_bound (n := n) (d := d) hn hd0
      have hok' : FracOk (n + -(kF n d) * d) d ∧ (n + -(kF n d) * d).natAbs ≤ 999 := by
        by_cases hd1 : 0 < d
        · have hnr := near (n := n) hd1
          exact ⟨hok.plus (by omega) (by omega) (by omega), by omega⟩
        · have hk0 : kF n d = 0 := by unfold kF; rw [if_neg hd1]
          rw [hk0]
          simp
          exact ⟨hok, hn⟩
      obtain ⟨hok', hn'⟩ := hok'
      have hmid : Leads (n + -(kF n d) * d, d) (if n + -(kF n d) * d = 0 then [] else 0 :: untL (turnF (n + -(kF n d) * d) d).1 (turnF (n + -(kF n d) * d) d).2) (0, 1) ∧ ∀ k ∈ (if n + -(kF n d) * d = 0 then [] else 0 :: untL (turnF (n + -(kF n d) * d) d).1 (turnF (n + -(kF n d) * d) d).2), -1000 ≤ k ∧ k ≤ 1000 := by
        by_cases hz : n + -(kF n d) * d = 0
        · rw [if_pos hz, hz]
          rw [hz] at hok'
          have := hok'.zero
          subst this
          exact ⟨Leads.nil hok', fun k hk => by simp at hk⟩
        · rw [if_neg hz]
          have hms := mF_step hd0 hn0 hz
          have ht1 := turn_den _ d hz
          have ht2 := turn_num _ d hz
          have := ih (turnF (n + -(kF n d) * d) d).1 (turnF (n + -(kF n d) * d) d).2 (by omega) hok'.turn (by omega) (by omega)
          refine ⟨Leads.cons hok' ?_, fun k hk => ?_⟩
          · exact this.1
          · rcases List.mem_cons.1 hk with rfl | hk
            · omega
            · exact this.2 k hk
      rw [untL_step hd0 hn0]
      by_cases hk0 : kF n d = 0
      · rw [if_pos hk0, List.nil_append]
        rw [hk0] at hmid ⊢
        simpa using hmid
      · rw [if_neg hk0, List.singleton_append]
        refine ⟨Leads.cons hok ?_, fun k hk => ?_⟩
        · have e : stepF (n, d) (-(kF n d)) = (n + -(kF n d) * d, d) := by unfold stepF; rw [if_neg (by omega)]
          rw [e]
          exact hmid.1
        · rcases List.mem_cons.1 hk with rfl | hk
          · omega
          · exact hmid.2 k hk
theorem untL_short (e : Nat) : ∀ n d : Int, 0 ≤ d → d < 2 ^ e → (untL n d).length ≤ 2 * e + 2 := by
  induction e with
  | zero =>
    intro n d h0 h1
    have hd : d = 0 := by omega
    subst hd
    by_cases hn : n = 0
    · subst hn; rw [untL_zero]; simp
    · rw [untL_step (by omega) hn]
      have hk : kF n 0 = 0 := by unfold kF; rw [if_neg (by omega)]
      have ht : (turnF n 0).1 = 0 := by
        have := turn_num n 0 hn
        omega
      rw [hk]
      simp [hn, ht, untL_zero]
  | succ e ih =>
    intro n d h0 h1
    by_cases hn : n = 0
    · subst hn; rw [untL_zero]; simp
    · rw [untL_step h0 hn, List.length_append]
      have hA : (if kF n d = 0 then ([] : List Int) else [-(kF n d)]).length ≤ 1 := by split <;> simp
      by_cases hz : n + -(kF n d) * d = 0
      · rw [if_pos hz]; simp; omega
      · rw [if_neg hz, List.length_cons]
        have ht1 := turn_den _ d hz
        by_cases hd : 0 < d
        · have hnr := near (n := n) hd
          have := ih (turnF (n + -(kF n d) * d) d).1 (turnF (n + -(kF n d) * d) d).2 (by omega) (by
            have e2 : (2 : Int) ^ (e + 1) = 2 * 2 ^ e := by rw [Int.pow_succ, Int.mul_comm]
            omega)
          omega
        · have hd : d = 0 := by omega
          subst hd
          have ht : (turnF (n + -(kF n 0) * 0) 0).1 = 0 := by
            have := turn_num _ 0 hz
            omega
          rw [ht, untL_zero]
          simp
          omega

/-- Back again. -/
theorem turnF_turnF {n d : Int} (h : FracOk n d) : turnF (turnF n d).1 (turnF n d).2 = (n, d) := by
  have h2 := h.d0
  have h3 := h.inf
  rcases Int.lt_trichotomy n 0 with hn | hn | hn
  · have hd : 0 < d := by
      rcases Int.lt_or_eq_of_le h2 with h4 | h4
      · exact h4
      · have := h3 h4.symm; omega
    have e : turnF n d = (d, -n) := by unfold turnF; rw [if_pos hn]
    rw [e]
    simp only
    unfold turnF
    rw [if_neg (by omega), if_neg (by omega)]
    simp
  · subst hn
    have := FracOk.zero h
    subst this
    rfl
  · have e : turnF n d = (-d, n) := by unfold turnF; rw [if_neg (by omega), if_neg (by omega)]
    rw [e]
    simp only
    unfold turnF
    rcases Int.lt_or_eq_of_le h2 with h4 | h4
    · rw [if_pos (by omega)]; simp
    · have := h3 h4.symm
      subst this
      subst h4
      simp
theorem stepF_back {f : Int × Int} (h : FOk f) (k : Int) : stepF (stepF f k) (-k) = f := by
  unfold stepF
  by_cases hk : k = 0
  · subst hk
    simp
    exact turnF_turnF h
  · rw [if_neg hk, if_neg (by omega)]
    simp only
    rw [Int.neg_mul, Int.add_neg_cancel_right]
theorem Leads.back {f g : Int × Int} {ops : List Int} (h : Leads f ops g) : Leads g (ops.reverse.map (fun x => -x)) f := by
  have hst : ∀ k, k ≤ ops.length → applyL g ((ops.reverse.map (fun x => -x)).take k) = applyL f (ops.take (ops.length - k)) := by
    intro k
    induction k with
    | zero => intro _; rw [Nat.sub_zero, List.take_length, h.1]; rfl
    | succ k ih =>
      intro hk
      rw [applyL_snoc _ _ _ (by simp; omega), ih (by omega)]
      have e1 : nth (ops.reverse.map (fun x => -x)) k = -(nth ops (ops.length - 1 - k)) := by
        rw [nth_lt (by simp; omega), nth_lt (by omega)]
        simp
      have e2 : ops.length - k = (ops.length - 1 - k) + 1 := by omega
      rw [e1, e2, applyL_snoc _ _ _ (by omega), stepF_back (h.2 _ (by omega))]
      congr 2
      omega
  refine ⟨?_, fun k hk => ?_⟩
  · have := hst ops.length (Nat.le_refl _)
    rw [List.take_of_length_le (by simp)] at this
    rw [this]; simp [applyL]
  · have hk' : k ≤ ops.length := by simpa using hk
    rw [hst k hk']
    exact h.2 _ (by omega)
end Go.Proofs.Ytpnbkoihglppnaa
