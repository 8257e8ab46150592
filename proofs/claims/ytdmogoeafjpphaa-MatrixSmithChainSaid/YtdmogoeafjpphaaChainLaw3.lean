/- SMITH: the invariant factors that the program computes: a chain, the determinant as their product, the same after adding a row. No program. -/
import Derived.Test.YtdmogoeafjpphaaChainLaw2
namespace Go.Proofs.Ytdmogoeafjpphaa
open Go.RowKit Go.Sl

def mask4 (b0 b1 b2 b3 : Bool) : Nat := (if b0 then 1 else 0) + (if b1 then 2 else 0) + (if b2 then 4 else 0) + (if b3 then 8 else 0)
theorem mask4_facts : ∀ b0 b1 b2 b3 : Bool, ∀ i : Fin 4, (i.val ∈ bits6 (mask4 b0 b1 b2 b3) ↔ (i.val = 0 ∧ b0 = true ∨ i.val = 1 ∧ b1 = true ∨ i.val = 2 ∧ b2 = true ∨ i.val = 3 ∧ b3 = true)) := by decide +kernel
theorem mask4_low : ∀ b0 b1 b2 b3 : Bool, mask4 b0 b1 b2 b3 < 16 ∧ (∀ i ∈ bits6 (mask4 b0 b1 b2 b3), i < 4) ∧ ∀ R : Fin 5, (∀ i ∈ bits6 (mask4 b0 b1 b2 b3), i < R.val) → mask4 b0 b1 b2 b3 < 2 ^ R.val := by decide +kernel
theorem bits6_nodup (m : Nat) : (bits6 m).Nodup := List.nodup_range.filter _
theorem mask_of {rs : List Nat} {R : Nat} (hR : R ≤ 4) (hn : rs.Nodup) (h : ∀ r ∈ rs, r < R) : ∃ m, m < 2 ^ R ∧ m < 64 ∧ rs.Perm (bits6 m) := by
  have hf := mask4_facts (decide (0 ∈ rs)) (decide (1 ∈ rs)) (decide (2 ∈ rs)) (decide (3 ∈ rs))
  have hl := mask4_low (decide (0 ∈ rs)) (decide (1 ∈ rs)) (decide (2 ∈ rs)) (decide (3 ∈ rs))
  obtain ⟨m, hm⟩ : ∃ m, m = mask4 (decide (0 ∈ rs)) (decide (1 ∈ rs)) (decide (2 ∈ rs)) (decide (3 ∈ rs)) := ⟨_, rfl⟩
  rw [← hm] at hf hl
  have hmem : ∀ a, a ∈ rs ↔ a ∈ bits6 m := by
    intro a
    by_cases ha : a < 4
    · rw [hf ⟨a, ha⟩]
      simp only [decide_eq_true_eq]
      rcases (show a = 0 ∨ a = 1 ∨ a = 2 ∨ a = 3 by omega) with rfl | rfl | rfl | rfl <;> simp
    · exact ⟨fun h1 => absurd (h a h1) (by omega), fun h1 => absurd (hl.2.1 a h1) (by omega)⟩
  exact ⟨m, hl.2.2 ⟨R, by omega⟩ (fun i hi => h i ((hmem i).2 hi)), by omega, (List.perm_ext_iff_of_nodup hn (bits6_nodup m)).2 hmem⟩

/-- The program's greatest common divisors are those of all minors. -/
theorem rowsG_iff (m : List (List Int)) {R C : Nat} (hR : R ≤ 4) (hC : C ≤ 4) (j : Nat) (hj : j ≤ 4) (D : Int) : D ∣ ((rowsG m C j (2 ^ R) : Nat) : Int) ↔ AllDiv (ent2 m) R C j D := by
  have e1 : D ∣ ((rowsG m C j (2 ^ R) : Nat) : Int) ↔ D.natAbs ∣ rowsG m C j (2 ^ R) := by
    rw [← Int.natAbs_dvd_natAbs, Int.natAbs_natCast]
  have r64 := pow_le64 ⟨R, by omega⟩
  have c64 := pow_le64 ⟨C, by omega⟩
  simp only at r64 c64
  rw [e1, rowsG_dvd]
  constructor
  · intro H rs cs h1 h2 h3 h4
    by_cases n1 : rs.Nodup
    · by_cases n2 : cs.Nodup
      · obtain ⟨r, hr, hr6, pr⟩ := mask_of hR n1 h3
        obtain ⟨c, hc, hc6, pc⟩ := mask_of hC n2 h4
        have lr := bits_len ⟨r, hr6⟩
        have lc := bits_len ⟨c, hc6⟩
        simp only at lr lc
        have plr := pr.length_eq
        have plc := pc.length_eq
        have hd := H r hr c hc (by omega) (by omega)
        rw [minM_eq m (by omega) j r c hr6 hc (by omega), Int.natAbs_dvd_natAbs] at hd
        obtain ⟨s, -, hs⟩ := minL_perm (ent2 m) pr
        rw [hs cs (by omega) (by omega)]
        refine Int.dvd_mul_of_dvd_right ?_
        rw [← minL_turn (ent2 m) (bits6 r) cs (by omega) (by omega)]
        obtain ⟨t, -, ht⟩ := minL_perm (fun i j => ent2 m j i) pc
        rw [ht (bits6 r) (by omega) (by omega)]
        refine Int.dvd_mul_of_dvd_right ?_
        rw [minL_turn (ent2 m) (bits6 r) (bits6 c) (by omega) (by omega)]
        exact hd
      · rw [← minL_turn (ent2 m) rs cs (by omega) (by omega), minL_twice _ n2 (by omega) (by omega)]
        exact Int.dvd_zero _
    · rw [minL_twice _ n1 (by omega) (by omega)]
      exact Int.dvd_zero _
  · intro H r hr c hc h1 h2
    have lr := bits_len ⟨r, by omega⟩
    have lc := bits_len ⟨c, by omega⟩
    simp only at lr lc
    rw [minM_eq m (by omega) j r c (by omega) hc h1, Int.natAbs_dvd_natAbs]
    have b1 := bits_bound ⟨R, by omega⟩ ⟨r, by omega⟩ hr
    have b2 := bits_bound ⟨C, by omega⟩ ⟨c, by omega⟩ hc
    exact H _ _ (by omega) (by omega) b1 b2
theorem rowsG_eq_of {m m' : List (List Int)} {R C : Nat} (hR : R ≤ 4) (hC : C ≤ 4) {j : Nat} (hj : j ≤ 4) (h : ∀ D, AllDiv (ent2 m) R C j D ↔ AllDiv (ent2 m') R C j D) : rowsG m C j (2 ^ R) = rowsG m' C j (2 ^ R) := by
  apply Nat.dvd_antisymm
  · have := (rowsG_iff m' hR hC j hj _).2 ((h _).1 ((rowsG_iff m hR hC j hj _).1 (Int.dvd_refl _)))
    exact Int.natCast_dvd_natCast.1 this
  · have := (rowsG_iff m hR hC j hj _).2 ((h _).2 ((rowsG_iff m' hR hC j hj _).1 (Int.dvd_refl _)))
    exact Int.natCast_dvd_natCast.1 this
theorem rowsG_chain (m : List (List Int)) {R C : Nat} (hR : R ≤ 4) (hC : C ≤ 4) {k : Nat} (hk : k + 2 ≤ 4) : rowsG m C (k + 1) (2 ^ R) * rowsG m C (k + 1) (2 ^ R) ∣ rowsG m C (k + 2) (2 ^ R) * rowsG m C k (2 ^ R) := by
  have := chain k hk R C (ent2 m) (fun j => ((rowsG m C j (2 ^ R) : Nat) : Int)) (fun j hj D => rowsG_iff m hR hC j (by omega) D)
  rw [← Int.natCast_mul, ← Int.natCast_mul] at this
  exact Int.natCast_dvd_natCast.1 this
theorem rowsG_zero1 (m : List (List Int)) {R C : Nat} (hR : R ≤ 4) (hC : C ≤ 4) : rowsG m C 0 (2 ^ R) = 1 := by
  have h := (rowsG_iff m hR hC 0 (by omega) _).1 (Int.dvd_refl _) [] [] rfl rfl (by simp) (by simp)
  have h2 : ((rowsG m C 0 (2 ^ R) : Nat) : Int) ∣ ((1 : Nat) : Int) := h
  exact Nat.dvd_one.1 (Int.natCast_dvd_natCast.1 h2)
theorem rowsG_up (m : List (List Int)) {R C : Nat} (hR : R ≤ 4) (hC : C ≤ 4) {k : Nat} (hk : k + 1 ≤ 4) : rowsG m C k (2 ^ R) ∣ rowsG m C (k + 1) (2 ^ R) := by
  have H := (rowsG_iff m hR hC k (by omega) _).1 (Int.dvd_refl _)
  refine Int.natCast_dvd_natCast.1 ((rowsG_iff m hR hC (k + 1) hk _).2 fun rs cs h1 h2 h3 h4 => ?_)
  rcases rs with _ | ⟨r, rs⟩
  · simp at h1
  · rw [minL]
    refine altS_dvd _ (fun q hq => ?_) 1
    have hm := sel_mem q hq
    have hl := sel_len q hq
    exact Int.dvd_mul_of_dvd_right (H rs q.2 (by simpa using h1) (by omega) (fun x hx => h3 x (by simp [hx])) (fun x hx => h4 x (hm.2 x hx)))

theorem nth_smithL (m : List (List Int)) {R C k : Nat} (hk : k < min R C) : nth (smithL m R C) k = if rowsG m C (k + 1) (2 ^ R) = 0 then 0 else ((rowsG m C (k + 1) (2 ^ R) / rowsG m C k (2 ^ R) : Nat) : Int) := by
  unfold smithL
  rw [facL, nth_fac _ _ _ hk, facAt, dTo_end (by omega), dTo_end (by omega)]
  by_cases h : rowsG m C (k + 1) (2 ^ R) = 0
  · rw [if_pos h, if_pos (by rw [h]; rfl)]
  · rw [if_neg h, if_neg (by omega)]; simp
theorem smith_nonneg (m : List (List Int)) {R C k : Nat} (hk : k < min R C) : 0 ≤ nth (smithL m R C) k := by
  rw [nth_smithL m hk]; split
  · exact Int.le_refl _
  · exact Int.natCast_nonneg _
theorem smith_next (m : List (List Int)) {R C k : Nat} (hR : R ≤ 4) (hC : C ≤ 4) (hk : k + 1 < min R C) :
    (nth (smithL m R C) k = 0 → nth (smithL m R C) (k + 1) = 0) ∧ (nth (smithL m R C) k ≠ 0 → (nth (smithL m R C) (k + 1)).tmod (nth (smithL m R C) k) = 0) := by
  rw [nth_smithL m (by omega : k < min R C), nth_smithL m hk]
  have u1 := rowsG_up m hR hC (k := k) (by omega)
  have u2 := rowsG_up m hR hC (k := k + 1) (by omega)
  have u3 := rowsG_chain m hR hC (k := k) (by omega)
  generalize rowsG m C k (2 ^ R) = d1 at *
  generalize rowsG m C (k + 1) (2 ^ R) = d2 at *
  rw [show k + 1 + 1 = k + 2 from rfl] at *
  generalize rowsG m C (k + 2) (2 ^ R) = d3 at *
  by_cases h2 : d2 = 0
  · subst h2
    have : d3 = 0 := Nat.eq_zero_of_zero_dvd u2
    subst this
    simp
  · have h1 : d1 ≠ 0 := fun e => h2 (by subst e; exact Nat.eq_zero_of_zero_dvd u1)
    rw [if_neg h2]
    obtain ⟨x, rfl⟩ := u1
    have hx : x ≠ 0 := fun e => h2 (by rw [e]; simp)
    rw [Nat.mul_div_cancel_left _ (by omega)]
    refine ⟨fun e => absurd e (by omega), fun _ => ?_⟩
    split
    · simp
    · rename_i h3
      obtain ⟨y, rfl⟩ := u2
      rw [Nat.mul_div_cancel_left _ (by omega)]
      have hd : x ∣ y := by
        have e1 : d1 * x * (d1 * x) = (d1 * d1 * x) * x := by grind
        have e2 : d1 * x * y * d1 = (d1 * d1 * x) * y := by grind
        rw [e1, e2] at u3
        exact Nat.dvd_of_mul_dvd_mul_left (Nat.pos_of_ne_zero (Nat.mul_ne_zero (Nat.mul_ne_zero h1 h1) hx)) u3
      obtain ⟨z, rfl⟩ := hd
      rw [Int.natCast_mul]
      exact Int.mul_tmod_right _ _
/-- The product of the first k factors. -/
def prodTo (l : List Int) : Nat → Int
  | 0 => 1
  | k + 1 => prodTo l k * nth l k
theorem prod_smith (m : List (List Int)) {R C : Nat} (hR : R ≤ 4) (hC : C ≤ 4) : ∀ k, k ≤ min R C → prodTo (smithL m R C) k = ((rowsG m C k (2 ^ R) : Nat) : Int) := by
  intro k
  induction k with
  | zero => intro _; rw [prodTo, rowsG_zero1 m hR hC]; rfl
  | succ k ih =>
    intro hk
    rw [prodTo, ih (by omega), nth_smithL m (by omega)]
    obtain ⟨x, hx⟩ := rowsG_up m hR hC (k := k) (by omega)
    split
    · rename_i h; rw [h]; simp
    · rename_i h
      have h1 : rowsG m C k (2 ^ R) ≠ 0 := fun e => h (by rw [hx, e]; simp)
      rw [hx, Nat.mul_div_cancel_left _ (by omega), Int.natCast_mul]
theorem only_full : ∀ n : Fin 7, ∀ r : Fin 64, r.val < 2 ^ n.val → popc 6 r.val = n.val → r.val = full n.val := by decide +kernel
theorem prod_det (m : List (List Int)) {n : Nat} (hn : n ≤ 4) : rowsG m n n (2 ^ n) = (detL m n).natAbs := by
  have hf := full_popc ⟨n, by omega⟩
  have h64 := pow_le64 ⟨n, by omega⟩
  simp only at hf h64
  apply Nat.dvd_antisymm
  · exact (rowsG_dvd (2 ^ n)).1 (Nat.dvd_refl _) (full n) hf.2 (full n) hf.2 hf.1 hf.1
  · rw [rowsG_dvd]
    intro r hr c hc h1 h2
    have e1 := only_full ⟨n, by omega⟩ ⟨r, by omega⟩ hr h1
    have e2 := only_full ⟨n, by omega⟩ ⟨c, by omega⟩ hc h2
    simp only at e1 e2
    rw [e1, e2]
    exact Nat.dvd_refl _

/-- The row x with the row y added. -/
def addL (m : List (List Int)) (x y C : Nat) : List (List Int) := m.set x ((List.range C).map fun j => ent2 m x j + ent2 m y j)
theorem addL_length (m : List (List Int)) (x y C : Nat) : (addL m x y C).length = m.length := by simp [addL]
theorem nthr_addL (m : List (List Int)) {x y C : Nat} (i : Nat) (hi : i < m.length) : nthr (addL m x y C) i = if i = x then (List.range C).map fun j => ent2 m x j + ent2 m y j else nthr m i := by
  rw [nthr_lt (by rw [addL_length]; exact hi), nthr_lt hi]
  unfold addL
  rw [List.getElem_set]
  by_cases h : x = i
  · rw [if_pos h, if_pos h.symm]
  · rw [if_neg h, if_neg (Ne.symm h)]
theorem ent_addL (m : List (List Int)) {x y C : Nat} (i j : Nat) (hi : i < m.length) (hj : j < C) : ent2 (addL m x y C) i j = rowAdd (ent2 m) x y 1 i j := by
  rw [rowAdd_at]
  unfold ent2
  rw [nthr_addL m i hi]
  split
  · rw [nth_lt (by simpa using hj)]; simp [ent2]
  · rfl
theorem smith_add (m : List (List Int)) {R C x y : Nat} (hl : m.length = R) (hR : R ≤ 4) (hC : C ≤ 4) (hxy : x ≠ y) (hy : y < R) : smithL (addL m x y C) R C = smithL m R C := by
  have hG : ∀ j, j ≤ 4 → rowsG (addL m x y C) C j (2 ^ R) = rowsG m C j (2 ^ R) := by
    intro j hj
    refine rowsG_eq_of hR hC hj fun D => ?_
    refine Iff.trans ?_ (same_row (R := R) (C := C) (ent2 m) hxy hy 1 j D (by omega)).symm
    constructor
    · intro H rs cs h1 h2 h3 h4
      rw [minL_congr (b := ent2 (addL m x y C)) rs cs (fun r hr c hc => (ent_addL m r c (by rw [hl]; exact h3 r hr) (h4 c hc)).symm)]
      exact H rs cs h1 h2 h3 h4
    · intro H rs cs h1 h2 h3 h4
      rw [minL_congr (b := rowAdd (ent2 m) x y 1) rs cs (fun r hr c hc => ent_addL m r c (by rw [hl]; exact h3 r hr) (h4 c hc))]
      exact H rs cs h1 h2 h3 h4
  refine ext_nth (by rw [smithL_length, smithL_length]) fun k hk => ?_
  have hk' : k < min R C := by rw [smithL_length] at hk; exact hk
  rw [nth_smithL _ hk', nth_smithL _ hk', hG _ (by omega), hG _ (by omega)]

end Go.Proofs.Ytdmogoeafjpphaa
