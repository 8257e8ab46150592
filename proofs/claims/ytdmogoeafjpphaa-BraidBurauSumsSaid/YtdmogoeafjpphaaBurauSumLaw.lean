/- The sums of the rows of a Burau matrix, and its columns weighted with powers, in plain Lean. -/
import Derived.Test.YtdmogoeafjpphaaBurauLaw
import Derived.Test.YtdmogoeafjpphaaFoxLaw
namespace Go.Proofs.Ytdmogoeafjpphaa
open Go.RowKit Go.Sl

def vsum (f : Nat → Rat) : Nat → Rat
  | 0 => 0
  | k + 1 => vsum f k + f k
theorem vsum_congr {f g : Nat → Rat} (n : Nat) (h : ∀ k, k < n → f k = g k) : vsum f n = vsum g n := by
  induction n with
  | zero => rfl
  | succ n ih => rw [vsum, vsum, ih (fun k hk => h k (by omega)), h n (by omega)]
theorem vsum_pair {f g : Nat → Rat} {p : Nat} (h : ∀ k, k ≠ p → k ≠ p + 1 → g k = f k) (h2 : g p + g (p + 1) = f p + f (p + 1)) : ∀ m, vsum g (p + 2 + m) = vsum f (p + 2 + m) := by
  intro m
  induction m with
  | zero =>
    show vsum g p + g p + g (p + 1) = vsum f p + f p + f (p + 1)
    rw [vsum_congr p (fun k hk => h k (by omega) (by omega))]; grind
  | succ m ih => rw [show p + 2 + (m + 1) = p + 2 + m + 1 by omega, vsum, vsum, ih, h _ (by omega) (by omega)]
theorem vsum_bact {t : Rat} (ht : t ≠ 0) {x : Int} {n : Nat} (h0 : x ≠ 0) (hn : x.natAbs < n) (f : Nat → Rat) : vsum (bact t x f) n = vsum f n := by
  obtain ⟨p, hp⟩ : ∃ p : Nat, x.natAbs = p + 1 := ⟨x.natAbs - 1, by omega⟩
  obtain ⟨m, rfl⟩ : ∃ m, n = p + 2 + m := ⟨n - p - 2, by omega⟩
  have h2 : t⁻¹ * t = 1 := Rat.inv_mul_cancel t ht
  refine vsum_pair (p := p) (fun k h1 h2 => ?_) ?_ m
  · unfold bact bactP bactN
    rw [hp, Nat.add_sub_cancel]
    split <;> dsimp only <;> rw [if_neg h1, if_neg h2]
  · unfold bact bactP bactN
    rw [hp, Nat.add_sub_cancel]
    split <;> dsimp only <;> grind
theorem vsum_bacts {t : Rat} (ht : t ≠ 0) {n : Nat} (xs : List Int) : NWord n xs → ∀ f, vsum (bacts t xs f) n = vsum f n := by
  induction xs with
  | nil => intro _ f; rfl
  | cons x s ih =>
    intro hw f
    have hx := hw x (by simp)
    show vsum (bacts t s (bact t x f)) n = _
    rw [ih (fun y hy => hw y (by simp [hy])), vsum_bact ht hx.1 hx.2]
theorem vsum_unit {i : Nat} (n : Nat) : vsum (unitV i) n = if i < n then 1 else 0 := by
  induction n with
  | zero => rfl
  | succ n ih =>
    rw [vsum, ih]
    unfold unitV
    by_cases h : i < n
    · rw [if_pos h, if_neg (by omega), if_pos (by omega)]; grind
    · by_cases h2 : n = i
      · rw [if_neg h, if_pos h2, if_pos (by omega)]; grind
      · rw [if_neg h, if_neg h2, if_neg (by omega)]; grind

theorem bact_lin {t : Rat} (x : Int) (f g : Nat → Rat) (c : Rat) : bact t x (fun k => f k + c * g k) = fun k => bact t x f k + c * bact t x g k := by
  funext k
  unfold bact bactP bactN
  split <;> dsimp only <;> split <;> (try split) <;> grind
theorem bacts_lin {t : Rat} (xs : List Int) : ∀ (f g : Nat → Rat) (c : Rat), bacts t xs (fun k => f k + c * g k) = fun k => bacts t xs f k + c * bacts t xs g k := by
  induction xs with
  | nil => intro f g c; rfl
  | cons x s ih =>
    intro f g c
    show bacts t s (bact t x _) = _
    rw [bact_lin, ih]; rfl
theorem bacts_zero {t : Rat} (xs : List Int) : bacts t xs (fun _ => 0) = fun _ => 0 := by
  have := bacts_lin (t := t) xs (fun _ => 0) (fun _ => 0) (-1)
  funext k
  have h := congrFun this k
  simp only [Rat.mul_zero, Rat.add_zero] at h
  grind
theorem bact_pow {t : Rat} (ht : t ≠ 0) (x : Int) : bact t x (fun k => t ^ k) = fun k => t ^ k := by
  have h2 : t⁻¹ * t = 1 := Rat.inv_mul_cancel t ht
  funext k
  unfold bact bactP bactN
  split
  · dsimp only
    split
    · rename_i h; subst h; rw [Rat.pow_succ]; grind
    · split
      · rename_i h; rw [h]; rw [Rat.pow_succ]; grind
      · rfl
  · dsimp only
    split
    · rename_i h; subst h; rw [Rat.pow_succ]; grind
    · split
      · rename_i h; rw [h]; rw [Rat.pow_succ]
      · rfl
theorem bacts_pow {t : Rat} (ht : t ≠ 0) (xs : List Int) : bacts t xs (fun k => t ^ k) = fun k => t ^ k := by
  induction xs with
  | nil => rfl
  | cons x s ih => show bacts t s (bact t x _) = _; rw [bact_pow ht, ih]
theorem bacts_sum {t : Rat} (xs : List Int) (c : Nat → Rat) (i : Nat) : ∀ K, vsum (fun k => c k * bacts t xs (unitV k) i) K = bacts t xs (fun j => vsum (fun k => c k * unitV k j) K) i := by
  intro K
  induction K with
  | zero => show (0 : Rat) = bacts t xs (fun _ => 0) i; rw [bacts_zero]
  | succ K ih =>
    show vsum _ K + _ = bacts t xs (fun j => vsum (fun k => c k * unitV k j) K + c K * unitV K j) i
    rw [bacts_lin, ih]
theorem vsum_pick (c : Nat → Rat) (j : Nat) : ∀ n, vsum (fun k => c k * unitV k j) n = if j < n then c j else 0 := by
  intro n
  induction n with
  | zero => rfl
  | succ n ih =>
    rw [vsum, ih]
    unfold unitV
    by_cases h : j < n
    · rw [if_pos h, if_neg (by omega), if_pos (by omega)]; grind
    · by_cases h2 : j = n
      · rw [if_neg h, if_pos h2, if_pos (by omega), h2]; grind
      · rw [if_neg h, if_neg h2, if_neg (by omega)]; grind

/-- What the statement sums up. -/
def rsumP (n : Nat) (xs : List Int) (i : Nat) : Nat → LP
  | 0 => pzero
  | k + 1 => padd (rsumP n xs i k) (nthp (rowM n xs i) k) 1
def csumP (n : Nat) (xs : List Int) (i : Nat) : Nat → LP
  | 0 => pzero
  | k + 1 => padd (csumP n xs i k) (pmul (unitP k) (nthp (rowM n xs k) i)) 1
theorem rsumP_trimmed (n : Nat) (xs : List Int) (i k : Nat) : Trimmed (rsumP n xs i k) := by cases k; exact pzero_trimmed; exact padd_trimmed _ _ _
theorem csumP_trimmed (n : Nat) (xs : List Int) (i k : Nat) : Trimmed (csumP n xs i k) := by cases k; exact pzero_trimmed; exact padd_trimmed _ _ _
theorem ev_rsumP {t : Rat} (ht : t ≠ 0) {n : Nat} {xs : List Int} (hw : NWord n xs) (i : Nat) : ∀ k, k ≤ n → ev (rsumP n xs i k) t = vsum (bacts t xs (unitV i)) k := by
  intro k
  induction k with
  | zero => intro _; exact ev_pzero t
  | succ k ih =>
    intro hk
    rw [rsumP, ev_padd _ _ _ ht, ih (by omega), ev_rowM ht hw i k (by omega), vsum]; simp
theorem ev_csumP {t : Rat} (ht : t ≠ 0) {n : Nat} {xs : List Int} (hw : NWord n xs) {i : Nat} (hi : i < n) : ∀ k, k ≤ n → ev (csumP n xs i k) t = vsum (fun k => t ^ k * bacts t xs (unitV k) i) k := by
  intro k
  induction k with
  | zero => intro _; exact ev_pzero t
  | succ k ih =>
    intro hk
    rw [csumP, ev_padd _ _ _ ht, ih (by omega), ev_pmul _ _ ht, ev_rowM ht hw k i hi, ev_unitP, vsum, Rat.zpow_natCast]; simp
theorem rsumP_all {n : Nat} {xs : List Int} (hw : NWord n xs) {i : Nat} (hi : i < n) : rsumP n xs i n = unitP 0 := by
  refine ev_ext (rsumP_trimmed _ _ _ _) (unitP_trimmed 0) fun t ht => ?_
  rw [ev_rsumP ht hw i n (Nat.le_refl _), vsum_bacts ht xs hw, vsum_unit, if_pos hi, ev_unitP, Rat.zpow_zero]
theorem csumP_all {n : Nat} {xs : List Int} (hw : NWord n xs) {i : Nat} (hi : i < n) : csumP n xs i n = unitP i := by
  refine ev_ext (csumP_trimmed _ _ _ _) (unitP_trimmed i) fun t ht => ?_
  rw [ev_csumP ht hw hi n (Nat.le_refl _), bacts_sum, bacts_congr xs _ (fun k => t ^ k) hw (fun j hj => by rw [vsum_pick, if_pos hj]) i hi, bacts_pow ht, ev_unitP, Rat.zpow_natCast]

/-! Bounds. -/
theorem rsumP_pb {n : Nat} {xs : List Int} (hw : NWord n xs) (hl : xs.length ≤ 12) (i : Nat) : ∀ k, k ≤ n → PB (rsumP n xs i k) (-12) 20 (k * 16777216) (k * 16777216) := by
  have hp : 4 ^ xs.length ≤ 16777216 := Nat.le_trans (Nat.pow_le_pow_right (by omega) hl) (by decide)
  intro k
  induction k with
  | zero => intro _; exact ⟨pzero_trimmed, within_pzero _ _, by simp [rsumP, pzero, n1], fun x hx => by cases hx⟩
  | succ k ih =>
    intro hk
    have h1 := (pb_rowM hw i (k := k) (by omega)).mono (lo' := -12) (hi' := 20) (n' := 16777216) (m' := 16777216) (by omega) (by omega) hp hp
    exact ((ih (by omega)).add h1 1).mono (by omega) (by omega) (by rw [Nat.succ_mul]; simp) (by rw [Nat.succ_mul]; simp)
theorem cterm_pb {n : Nat} {xs : List Int} (hw : NWord n xs) (hl : xs.length ≤ 12) {i : Nat} (hi : i < n) (k : Nat) (hk : k ≤ 6) : PB (pmul (unitP k) (nthp (rowM n xs k) i)) (-12) 20 (16777216) (16777216) := by
  have hp : 4 ^ xs.length ≤ 16777216 := Nat.le_trans (Nat.pow_le_pow_right (by omega) hl) (by decide)
  have h1 := (pb_rowM hw k (k := i) hi).mono (lo' := -12) (hi' := 13) (n' := 16777216) (m' := 16777216) (by omega) (by omega) hp hp
  exact ((unitP_pb k).mul h1).mono (by omega) (by omega) (by omega) (by omega)
theorem csumP_pb {n : Nat} {xs : List Int} (hw : NWord n xs) (hl : xs.length ≤ 12) {i : Nat} (hi : i < n) : ∀ k, k ≤ 6 → PB (csumP n xs i k) (-12) 20 (k * 16777216) (k * 16777216) := by
  intro k
  induction k with
  | zero => intro _; exact ⟨pzero_trimmed, within_pzero _ _, by simp [csumP, pzero, n1], fun x hx => by cases hx⟩
  | succ k ih =>
    intro hk
    exact ((ih (by omega)).add (cterm_pb hw hl hi k (by omega)) 1).mono (by omega) (by omega) (by rw [Nat.succ_mul]; simp) (by rw [Nat.succ_mul]; simp)
theorem rsumP_ok {n : Nat} {xs : List Int} (hw : NWord n xs) (hl : xs.length ≤ 12) (hn : n ≤ 6) {i : Nat} (hi : i < n) {k : Nat} (hk : k ≤ n) : POk (rsumP n xs i k) := by
  by_cases e : k = n
  · rw [e, rsumP_all hw hi]
    exact PB.ok ((unitP_pb 0).mono (lo' := -12) (hi' := 20) (by omega) (by omega) (Nat.le_refl _) (Nat.le_refl _)) (by omega) (by omega) (by omega) (by omega) (by decide) (by decide)
  · have h5 : k ≤ 5 := by omega
    exact PB.ok (rsumP_pb hw hl i k hk) (by omega) (by omega) (by omega) (by omega) (by omega) (by omega)
theorem csumP_ok {n : Nat} {xs : List Int} (hw : NWord n xs) (hl : xs.length ≤ 12) (hn : n ≤ 6) {i : Nat} (hi : i < n) {k : Nat} (hk : k ≤ n) : POk (csumP n xs i k) := by
  by_cases e : k = n
  · rw [e, csumP_all hw hi]
    exact PB.ok ((unitP_pb i).mono (lo' := -12) (hi' := 20) (by omega) (by omega) (Nat.le_refl _) (Nat.le_refl _)) (by omega) (by omega) (by omega) (by omega) (by decide) (by decide)
  · have h5 : k ≤ 5 := by omega
    exact PB.ok (csumP_pb hw hl hi k (by omega)) (by omega) (by omega) (by omega) (by omega) (by omega) (by omega)
theorem entry_ok {n : Nat} {xs : List Int} (hw : NWord n xs) (hl : xs.length ≤ 12) (i : Nat) {k : Nat} (hk : k < n) : POk (nthp (rowM n xs i) k) := by
  have hp : 4 ^ xs.length ≤ 16777216 := Nat.le_trans (Nat.pow_le_pow_right (by omega) hl) (by decide)
  exact PB.ok ((pb_rowM hw i hk).mono (lo' := -12) (hi' := 20) (n' := 16777216) (m' := 16777216) (by omega) (by omega) hp hp) (by omega) (by omega) (by omega) (by omega) (by omega) (by omega)
theorem cterm_ok {n : Nat} {xs : List Int} (hw : NWord n xs) (hl : xs.length ≤ 12) {i : Nat} (hi : i < n) (k : Nat) (hk : k ≤ 6) : POk (pmul (unitP k) (nthp (rowM n xs k) i)) :=
  PB.ok (cterm_pb hw hl hi k hk) (by omega) (by omega) (by omega) (by omega) (by omega) (by omega)
theorem unit_ok (k : Nat) (hk : k ≤ 6) : POk (unitP k) := PB.ok ((unitP_pb k).mono (lo' := -12) (hi' := 20) (by omega) (by omega) (Nat.le_refl _) (Nat.le_refl _)) (by omega) (by omega) (by omega) (by omega) (by decide) (by decide)

end Go.Proofs.Ytdmogoeafjpphaa
