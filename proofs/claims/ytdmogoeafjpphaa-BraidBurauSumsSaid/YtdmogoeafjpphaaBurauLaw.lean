/- Burau matrices in plain Lean: what a letter does to a row; relations; sums. -/
import Derived.Test.YtdmogoeafjpphaaPolyRow
import Derived.Test.YtdmogoeafjpphaaPolyBound
namespace Go.Proofs.Ytdmogoeafjpphaa
open Go.RowKit Go.Sl

/-- The two rows of a letter. -/
def bm (x : Int) (c d : Nat) : LP :=
  if x < 0 then (if c = 0 then (if d = 0 then pzero else pterm 1 0) else (if d = 0 then pterm 1 (-1) else trimP (-1) [-1, 1]))
  else (if c = 0 then (if d = 0 then trimP 0 [1, -1] else pterm 1 1) else (if d = 0 then pterm 1 0 else pzero))
def bent (x : Int) (a b : LP) (d : Nat) : LP := padd (pmul a (bm x 0 d)) (pmul b (bm x 1 d)) 1
/-- A letter's step on a row. -/
def brow (x : Int) (ps : List LP) : List LP :=
  (ps.set (x.natAbs - 1) (bent x (nthp ps (x.natAbs - 1)) (nthp ps x.natAbs) 0)).set x.natAbs (bent x (nthp ps (x.natAbs - 1)) (nthp ps x.natAbs) 1)
def urow (n i : Nat) : List LP := (List.replicate n pzero).set i (pterm 1 0)
def unitM (n : Nat) : List (List LP) := (List.range n).map (urow n)
def burauM (n : Nat) (xs : List Int) : List (List LP) := xs.foldl (fun m x => m.map (brow x)) (unitM n)
def rowM (n : Nat) (xs : List Int) (i : Nat) : List LP := xs.foldl (fun r x => brow x r) (urow n i)

theorem burauM_eq (n : Nat) (xs : List Int) : burauM n xs = (List.range n).map (rowM n xs) := by
  have : ∀ (xs : List Int) (f : Nat → List LP), xs.foldl (fun m x => m.map (brow x)) ((List.range n).map f) = (List.range n).map (fun i => xs.foldl (fun r x => brow x r) (f i)) := by
    intro xs
    induction xs with
    | nil => intro f; rfl
    | cons x t ih => intro f; rw [List.foldl_cons, List.map_map, ih]; rfl
  exact this xs _
theorem brow_length (x : Int) (ps : List LP) : (brow x ps).length = ps.length := by simp [brow]
theorem urow_length (n i : Nat) : (urow n i).length = n := by simp [urow]
theorem rowM_length (n : Nat) (xs : List Int) (i : Nat) : (rowM n xs i).length = n := by
  have : ∀ (xs : List Int) (r : List LP), (xs.foldl (fun r x => brow x r) r).length = r.length := by
    intro xs
    induction xs with
    | nil => intro r; rfl
    | cons x t ih => intro r; rw [List.foldl_cons, ih, brow_length]
  rw [rowM, this, urow_length]
theorem burauM_length (n : Nat) (xs : List Int) : (burauM n xs).length = n := by rw [burauM_eq]; simp
theorem nthm_burauM (n : Nat) (xs : List Int) {i : Nat} (h : i < n) : nthm (burauM n xs) i = rowM n xs i := by
  rw [burauM_eq, nthm_lt (by simpa using h)]; simp
theorem nthp_brow {x : Int} {ps : List LP} {k : Nat} (hk : k < ps.length) (h0 : x ≠ 0) : nthp (brow x ps) k =
    if k = x.natAbs then bent x (nthp ps (x.natAbs - 1)) (nthp ps x.natAbs) 1 else if k = x.natAbs - 1 then bent x (nthp ps (x.natAbs - 1)) (nthp ps x.natAbs) 0 else nthp ps k := by
  unfold brow
  rw [nthp_set (by simpa using hk), nthp_set hk]

/-- The step on the values at t; p is the letter's first column. -/
def bactP (t : Rat) (p : Nat) (f : Nat → Rat) (k : Nat) : Rat := if k = p then f p * (1 - t) + f (p + 1) else if k = p + 1 then f p * t else f k
def bactN (t : Rat) (p : Nat) (f : Nat → Rat) (k : Nat) : Rat := if k = p then f (p + 1) * t⁻¹ else if k = p + 1 then f p + f (p + 1) * (1 - t⁻¹) else f k
def bact (t : Rat) (x : Int) (f : Nat → Rat) : Nat → Rat := if x < 0 then bactN t (x.natAbs - 1) f else bactP t (x.natAbs - 1) f
def bacts (t : Rat) (xs : List Int) (f : Nat → Rat) : Nat → Rat := xs.foldl (fun g x => bact t x g) f
theorem bacts_append (t : Rat) (xs ys : List Int) (f : Nat → Rat) : bacts t (xs ++ ys) f = bacts t ys (bacts t xs f) := by simp [bacts, List.foldl_append]

theorem ev_bm {t : Rat} (ht : t ≠ 0) (x : Int) (c d : Nat) : ev (bm x c d) t =
    if x < 0 then (if c = 0 then (if d = 0 then 0 else 1) else (if d = 0 then t⁻¹ else 1 - t⁻¹)) else (if c = 0 then (if d = 0 then 1 - t else t) else (if d = 0 then 1 else 0)) := by
  have h1 : t ^ (-1 : Int) = t⁻¹ := by rw [Rat.zpow_neg]; simp
  have h2 : t⁻¹ * t = 1 := Rat.inv_mul_cancel t ht
  unfold bm
  have h0 : t ^ (0 : Int) = 1 := Rat.zpow_zero t
  have h3 : t ^ (1 : Int) = t := by simp
  split <;> split <;> split <;> simp only [ev_pzero, ev_pterm _ _ ht, ev_trimP _ _ ht, evL, h1, h0, h3] <;> grind
theorem ev_bent {t : Rat} (ht : t ≠ 0) (x : Int) (a b : LP) (d : Nat) : ev (bent x a b d) t = ev a t * ev (bm x 0 d) t + ev b t * ev (bm x 1 d) t := by
  unfold bent
  rw [ev_padd _ _ _ ht, ev_pmul _ _ ht, ev_pmul _ _ ht]; simp
theorem ev_brow {t : Rat} (ht : t ≠ 0) {x : Int} {ps : List LP} (h0 : x ≠ 0) (k : Nat) (hk : k < ps.length) :
    ev (nthp (brow x ps) k) t = bact t x (fun j => ev (nthp ps j) t) k := by
  obtain ⟨p, hp⟩ : ∃ p : Nat, x.natAbs = p + 1 := ⟨x.natAbs - 1, by omega⟩
  rw [nthp_brow hk h0]
  unfold bact bactP bactN
  rw [hp, Nat.add_sub_cancel]
  by_cases hx : x < 0
  · rw [if_pos hx]
    by_cases h1 : k = p + 1
    · subst h1
      rw [if_pos rfl, if_neg (by omega), if_pos rfl, ev_bent ht, ev_bm ht, ev_bm ht]
      simp [hx]
    · rw [if_neg h1]
      by_cases h2 : k = p
      · subst h2
        rw [if_pos rfl, if_pos rfl, ev_bent ht, ev_bm ht, ev_bm ht]
        simp [hx]; grind
      · rw [if_neg h2, if_neg h2, if_neg h1]
  · rw [if_neg hx]
    by_cases h1 : k = p + 1
    · subst h1
      rw [if_pos rfl, if_neg (by omega), if_pos rfl, ev_bent ht, ev_bm ht, ev_bm ht]
      simp [hx]; grind
    · rw [if_neg h1]
      by_cases h2 : k = p
      · subst h2
        rw [if_pos rfl, if_pos rfl, ev_bent ht, ev_bm ht, ev_bm ht]
        simp [hx]
      · rw [if_neg h2, if_neg h2, if_neg h1]

/-- A right word: letters of n strands. -/
def NWord (n : Nat) (xs : List Int) : Prop := ∀ x ∈ xs, x ≠ 0 ∧ x.natAbs < n
theorem bact_congr {t : Rat} {x : Int} {f g : Nat → Rat} {n : Nat} (h : ∀ k, k < n → f k = g k) (hx : x ≠ 0) (hn : x.natAbs < n) : ∀ k, k < n → bact t x f k = bact t x g k := by
  intro k hk
  have h1 := h (x.natAbs - 1) (by omega)
  have h2 := h (x.natAbs - 1 + 1) (by omega)
  have h3 := h k hk
  unfold bact bactP bactN
  split <;> simp only [h1, h2, h3]
theorem bacts_congr {t : Rat} {n : Nat} : ∀ (xs : List Int) (f g : Nat → Rat), NWord n xs → (∀ k, k < n → f k = g k) → ∀ k, k < n → bacts t xs f k = bacts t xs g k := by
  intro xs
  induction xs with
  | nil => intro f g _ h; exact h
  | cons x s ih =>
    intro f g hw h
    exact ih _ _ (fun y hy => hw y (by simp [hy])) (bact_congr h (hw x (by simp)).1 (hw x (by simp)).2)
theorem ev_rows {t : Rat} (ht : t ≠ 0) {n : Nat} : ∀ (xs : List Int) (r : List LP), r.length = n → NWord n xs → ∀ k, k < n → ev (nthp (xs.foldl (fun r x => brow x r) r) k) t = bacts t xs (fun j => ev (nthp r j) t) k := by
  intro xs
  induction xs with
  | nil => intro r _ _ k _; rfl
  | cons x s ih =>
    intro r hr hw k hk
    have hx := hw x (by simp)
    have hws : NWord n s := fun y hy => hw y (by simp [hy])
    rw [List.foldl_cons, ih _ (by rw [brow_length, hr]) hws k hk]
    exact bacts_congr s _ _ hws (fun j hj => ev_brow ht hx.1 j (by omega)) k hk
def unitV (i : Nat) (k : Nat) : Rat := if k = i then 1 else 0
theorem nthp_urow {n i k : Nat} (hk : k < n) : nthp (urow n i) k = if k = i then pterm 1 0 else pzero := by
  unfold urow
  rw [nthp_set (by simpa using hk)]
  split
  · rfl
  · rw [nthp_lt (by simpa using hk)]; simp
theorem ev_rowM {t : Rat} (ht : t ≠ 0) {n : Nat} {xs : List Int} (hw : NWord n xs) (i k : Nat) (hk : k < n) : ev (nthp (rowM n xs i) k) t = bacts t xs (unitV i) k := by
  unfold rowM
  rw [ev_rows ht xs _ (urow_length n i) hw k hk]
  refine bacts_congr xs _ _ hw (fun j hj => ?_) k hk
  rw [nthp_urow hj]
  unfold unitV
  split
  · rw [ev_pterm _ _ ht]; simp
  · exact ev_pzero t
theorem trimmed_brow {x : Int} {ps : List LP} (h : ∀ k, k < ps.length → Trimmed (nthp ps k)) (h0 : x ≠ 0) : ∀ k, k < ps.length → Trimmed (nthp (brow x ps) k) := by
  intro k hk
  rw [nthp_brow hk h0]
  split
  · exact padd_trimmed _ _ _
  · split
    · exact padd_trimmed _ _ _
    · exact h k hk
theorem trimmed_rowM {n : Nat} {xs : List Int} (hw : NWord n xs) (i : Nat) : ∀ k, k < n → Trimmed (nthp (rowM n xs i) k) := by
  have : ∀ (xs : List Int) (r : List LP), NWord n xs → r.length = n → (∀ k, k < n → Trimmed (nthp r k)) → ∀ k, k < n → Trimmed (nthp (xs.foldl (fun r x => brow x r) r) k) := by
    intro xs
    induction xs with
    | nil => intro r _ _ h; exact h
    | cons x s ih =>
      intro r hw hr h
      exact ih _ (fun y hy => hw y (by simp [hy])) (by rw [brow_length, hr]) (by rw [← hr] at h ⊢; exact trimmed_brow h (hw x (by simp)).1)
  refine this xs _ hw (urow_length n i) fun k hk => ?_
  rw [nthp_urow hk]
  split
  · exact pterm_trimmed _ _
  · exact pzero_trimmed
/-- Words that bact alike have the same matrix. -/
theorem burauM_of_acts {n : Nat} {xs ys : List Int} (hx : NWord n xs) (hy : NWord n ys) (h : ∀ t : Rat, t ≠ 0 → ∀ f k, k < n → bacts t xs f k = bacts t ys f k) : burauM n xs = burauM n ys := by
  rw [burauM_eq, burauM_eq]
  refine List.map_congr_left fun i hi => ?_
  refine List.ext_getElem (by rw [rowM_length, rowM_length]) fun k hk hk' => ?_
  have hk2 : k < n := by rw [rowM_length] at hk; exact hk
  rw [← nthp_lt hk, ← nthp_lt hk']
  exact ev_ext (trimmed_rowM hx i k hk2) (trimmed_rowM hy i k hk2) fun t ht => by rw [ev_rowM ht hx i k hk2, ev_rowM ht hy i k hk2, h t ht _ k hk2]

/-! Bounds. -/
theorem pb_bm (x : Int) (c d : Nat) : PB (bm x c d) (-1) 2 2 1 := by
  have hz : PB pzero (-1) 2 2 1 := ⟨pzero_trimmed, within_pzero _ _, by simp [pzero, n1], fun x hx => by cases hx⟩
  have ht : ∀ e : Int, -1 ≤ e → e ≤ 1 → PB (pterm 1 e) (-1) 2 2 1 := fun e h1 h2 => (pterm_pb 1 e).mono (by omega) (by omega) (by decide) (by decide)
  have hl : ∀ (e a b : Int), -1 ≤ e → e ≤ 0 → a.natAbs ≤ 1 → b.natAbs ≤ 1 → PB (trimP e [a, b]) (-1) 2 2 1 := fun e a b h1 h2 ha hb =>
    ⟨trimP_trimmed _ _, (within_trimP e [a, b]).mono (by omega) (by simp; omega), Nat.le_trans (n1_trimP _ _) (by simp [n1]; omega), fun x hx => by
      have := mem_trimP hx
      simp at this
      rcases this with rfl | rfl <;> assumption⟩
  unfold bm
  split <;> split <;> split
  · exact hz
  · exact ht 0 (by omega) (by omega)
  · exact ht (-1) (by omega) (by omega)
  · exact hl (-1) (-1) 1 (by omega) (by omega) (by decide) (by decide)
  · exact hl 0 1 (-1) (by omega) (by omega) (by decide) (by decide)
  · exact ht 1 (by omega) (by omega)
  · exact ht 0 (by omega) (by omega)
  · exact hz
theorem pb_bent {x : Int} {a b : LP} {m : Int} {N : Nat} (ha : PB a (-m) (m + 1) N N) (hb : PB b (-m) (m + 1) N N) (d : Nat) : PB (bent x a b d) (-(m + 1)) (m + 1 + 1) (4 * N) (4 * N) :=
  ((ha.mul (pb_bm x 0 d)).add (hb.mul (pb_bm x 1 d)) 1).mono (by omega) (by omega) (by simp; omega) (by simp; omega)
theorem pb_brow {x : Int} {ps : List LP} {m : Int} {N : Nat} (h0 : x ≠ 0) (hx : x.natAbs < ps.length) (h : ∀ k, k < ps.length → PB (nthp ps k) (-m) (m + 1) N N) : ∀ k, k < ps.length → PB (nthp (brow x ps) k) (-(m + 1)) (m + 1 + 1) (4 * N) (4 * N) := by
  intro k hk
  have h1 := h (x.natAbs - 1) (by omega)
  have h2 := h x.natAbs hx
  rw [nthp_brow hk h0]
  split
  · exact pb_bent h1 h2 1
  · split
    · exact pb_bent h1 h2 0
    · exact (h k hk).mono (by omega) (by omega) (by omega) (by omega)
theorem pb_rows {n : Nat} : ∀ (xs : List Int) (r : List LP) (m : Int) (N : Nat), NWord n xs → r.length = n → (∀ k, k < n → PB (nthp r k) (-m) (m + 1) N N) →
    ∀ k, k < n → PB (nthp (xs.foldl (fun r x => brow x r) r) k) (-(m + xs.length)) (m + xs.length + 1) (4 ^ xs.length * N) (4 ^ xs.length * N) := by
  intro xs
  induction xs with
  | nil => intro r m N _ _ h k hk; exact (h k hk).mono (by simp) (by simp) (by simp) (by simp)
  | cons x s ih =>
    intro r m N hw hr h k hk
    have h1 := pb_brow (hw x (by simp)).1 (by rw [hr]; exact (hw x (by simp)).2) (by rw [hr]; exact h)
    rw [hr] at h1
    refine (ih (brow x r) (m + 1) (4 * N) (fun y hy => hw y (by simp [hy])) (by rw [brow_length, hr]) h1 k hk).mono (by simp; omega) (by simp; omega) ?_ ?_ <;>
      (simp only [List.length_cons, Nat.pow_succ]; rw [Nat.mul_assoc]; omega)
theorem pb_rowM {n : Nat} {xs : List Int} (hw : NWord n xs) (i : Nat) {k : Nat} (hk : k < n) : PB (nthp (rowM n xs i) k) (-(xs.length : Int)) (xs.length + 1) (4 ^ xs.length) (4 ^ xs.length) := by
  have := pb_rows xs (urow n i) 0 1 hw (urow_length n i) (fun k hk => by
    rw [nthp_urow hk]
    split
    · exact (pterm_pb 1 0).mono (by omega) (by omega) (by decide) (by decide)
    · exact ⟨pzero_trimmed, within_pzero _ _, by simp [pzero, n1], fun x hx => by cases hx⟩) k hk
  unfold rowM
  simpa using this

/-! The relations. -/
theorem bact_far {t : Rat} {x y : Int} (f : Nat → Rat) (hx : x ≠ 0) (hy : y ≠ 0) (h : x.natAbs + 1 < y.natAbs ∨ y.natAbs + 1 < x.natAbs) : bact t x (bact t y f) = bact t y (bact t x f) := by
  obtain ⟨p, hp⟩ : ∃ p : Nat, x.natAbs = p + 1 := ⟨x.natAbs - 1, by omega⟩
  obtain ⟨q, hq⟩ : ∃ q : Nat, y.natAbs = q + 1 := ⟨y.natAbs - 1, by omega⟩
  funext k
  unfold bact
  rw [hp, hq, Nat.add_sub_cancel, Nat.add_sub_cancel]
  rw [hp, hq] at h
  have e1 : ¬ p = q := by omega
  have e2 : ¬ p = q + 1 := by omega
  have e3 : ¬ p + 1 = q := by omega
  have e4 : ¬ p + 1 = q + 1 := by omega
  by_cases hx' : x < 0 <;> by_cases hy' : y < 0 <;> simp only [hx', hy', if_true, if_false] <;> (try unfold bactP) <;> (try unfold bactN) <;>
    (by_cases k1 : k = p
     · subst k1; simp [e1, e2, e3, e4]
     · by_cases k2 : k = p + 1
       · subst k2; simp [e1, e2, e3, e4]
       · by_cases k3 : k = q
         · subst k3; simp [Ne.symm e1, Ne.symm e2, Ne.symm e3, Ne.symm e4, k1, k2]
         · by_cases k4 : k = q + 1
           · subst k4; simp [Ne.symm e1, Ne.symm e2, Ne.symm e3, Ne.symm e4, k1, k2]
           · simp [k1, k2, k3, k4])
theorem bact_inv {t : Rat} (ht : t ≠ 0) {x : Int} (f : Nat → Rat) (hx : x ≠ 0) : bact t (-x) (bact t x f) = f := by
  have h2 : t⁻¹ * t = 1 := Rat.inv_mul_cancel t ht
  funext k
  unfold bact
  rw [Int.natAbs_neg]
  obtain ⟨p, hp⟩ : ∃ p : Nat, x.natAbs = p + 1 := ⟨x.natAbs - 1, by omega⟩
  rw [hp, Nat.add_sub_cancel]
  by_cases hx' : x < 0
  · rw [if_neg (by omega), if_pos hx']
    unfold bactP bactN
    by_cases k1 : k = p
    · subst k1; simp; grind
    · by_cases k2 : k = p + 1
      · subst k2; simp; grind
      · simp [k1, k2]
  · rw [if_pos (by omega), if_neg hx']
    unfold bactP bactN
    by_cases k1 : k = p
    · subst k1; simp; grind
    · by_cases k2 : k = p + 1
      · subst k2; simp; grind
      · simp [k1, k2]
theorem bactP_braid {t : Rat} (p : Nat) (f : Nat → Rat) : bactP t p (bactP t (p + 1) (bactP t p f)) = bactP t (p + 1) (bactP t p (bactP t (p + 1) f)) := by
  funext k
  unfold bactP
  have e1 : ¬ p = p + 1 := by omega
  have e2 : ¬ p = p + 1 + 1 := by omega
  have e3 : ¬ p + 1 + 1 = p := by omega
  by_cases k1 : k = p
  · subst k1; simp [e1, e2, e3] <;> grind
  · by_cases k2 : k = p + 1
    · subst k2; simp [e1, e2, e3] <;> grind
    · by_cases k3 : k = p + 1 + 1
      · subst k3; simp [e1, e2, e3] <;> grind
      · simp [k1, k2, k3]

end Go.Proofs.Ytdmogoeafjpphaa
