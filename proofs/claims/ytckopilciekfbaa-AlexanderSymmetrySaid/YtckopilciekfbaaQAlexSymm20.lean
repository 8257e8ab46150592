/- The sums of the rows of a Burau matrix, and its columns weighted with powers, in plain Lean. -/
import Derived.Test.YtckopilciekfbaaQAlexSymm0
import Derived.Test.YtckopilciekfbaaQAlexSymm1
import Derived.Test.YtckopilciekfbaaQAlexSymm2
import Derived.Test.YtckopilciekfbaaQAlexSymm3
import Derived.Test.YtckopilciekfbaaQAlexSymm4
import Derived.Test.YtckopilciekfbaaQAlexSymm5
import Derived.Test.YtckopilciekfbaaQAlexSymm6
import Derived.Test.YtckopilciekfbaaQAlexSymm7
import Derived.Test.YtckopilciekfbaaQAlexSymm10
import Derived.Test.YtckopilciekfbaaQAlexSymm11
import Derived.Test.YtckopilciekfbaaQAlexSymm12
import Derived.Test.YtckopilciekfbaaQAlexSymm13
import Derived.Test.YtckopilciekfbaaQAlexSymm14

namespace Go.Proofs.Ytckopilciekfbaa
open Go.RowKit Go.Sl

theorem nth_addl (a b : List Int) (k : Int) : ∀ i, nth (addl a b k) i = nth a i + k * nth b i := by
  induction a generalizing b with
  | nil =>
    intro i
    rw [addl, nth_nil]
    rcases Nat.lt_or_ge i b.length with h | h
    · rw [nth_lt (by simpa using h), nth_lt h]; simp
    · rw [nth_ge (by simpa using h), nth_ge h]; simp
  | cons x a ih =>
    intro i
    cases b with
    | nil => rw [addl, nth_nil]; simp; simp
    | cons y b =>
      rw [addl]
      cases i with
      | zero => simp [nth_cons_zero]
      | succ i => rw [nth_cons_succ, nth_cons_succ, nth_cons_succ, ih]
theorem coef_mull (a b : List Int) (M : Nat) (h : ∀ x ∈ a, x.natAbs ≤ M) : ∀ k, (nth (mull a b) k).natAbs ≤ M * n1 (b.take (k + 1)) := by
  induction a with
  | nil => intro k; rw [mull, nth_nil]; simp
  | cons x a ih =>
    intro k
    rw [mull, nth_addl]
    have hx := h x (by simp)
    have ih' := ih fun y hy => h y (by simp [hy])
    have h1 := Int.natAbs_add_le (nth (0 :: mull a b) k) (x * nth b k)
    rw [Int.natAbs_mul] at h1
    have h2 : x.natAbs * (nth b k).natAbs ≤ M * (nth b k).natAbs := Nat.mul_le_mul_right _ hx
    have h3 : n1 (b.take (k + 1)) = n1 (b.take k) + (nth b k).natAbs := by
      rcases Nat.lt_or_ge k b.length with h | h
      · exact n1_take_succ b k h
      · rw [List.take_of_length_le (by omega), List.take_of_length_le h, nth_ge h]; simp
    rw [h3, Nat.mul_add]
    cases k with
    | zero => rw [nth_cons_zero] at h1 ⊢; simp only [Int.natAbs_zero] at h1; omega
    | succ k => rw [nth_cons_succ] at h1 ⊢; have := ih' k; omega
theorem mem_dropZ {l : List Int} {x : Int} (h : x ∈ dropZ l) : x ∈ l := by
  rw [(dropZ_zeros l).2]; exact List.mem_append_right _ h
theorem mem_dropE {l : List Int} {x : Int} (h : x ∈ dropE l) : x ∈ l := by
  rw [(dropE_zeros l).2]; exact List.mem_append_left _ h
theorem mem_trimP {low : Int} {c : List Int} {x : Int} (h : x ∈ (trimP low c).c) : x ∈ c := by
  unfold trimP at h
  split at h
  · cases h
  · exact mem_dropZ (mem_dropE h)

/-- Trimmed, with exponents from lo on before hi, the absolute values' sum at most n, each at most m. -/
structure PB (p : LP) (lo hi : Int) (n m : Nat) : Prop where
  tr : Trimmed p
  wi : Within p lo hi
  sum : n1 p.c ≤ n
  each : ∀ x ∈ p.c, x.natAbs ≤ m
theorem PB.ok {p : LP} {lo hi : Int} {n m : Nat} (h : PB p lo hi n m) (h1 : -1000 ≤ lo) (h2 : lo ≤ 0) (h3 : hi ≤ lo + 200) (h5 : hi ≤ 1000) (hn : n ≤ 1000000000) (hm : m ≤ 100000000) : POk p := by
  rcases h.wi with hc | hc
  · have h0 := h.tr.zero hc
    exact ⟨by rw [hc]; simp, by omega, by omega, h.tr, by have := h.sum; omega, fun x hx => by rw [hc] at hx; cases hx⟩
  · refine ⟨by omega, by omega, ?_, h.tr, by have := h.sum; omega, fun x hx => by have := h.each x hx; omega⟩
    by_cases e : p.c = []
    · rw [h.tr.zero e]; omega
    · have := List.length_pos_iff.2 e; omega
theorem PB.mul {p q : LP} {lo hi lo' hi' : Int} {n m n' m' : Nat} (h : PB p lo hi n m) (k : PB q lo' hi' n' m') : PB (pmul p q) (lo + lo') (hi + hi' - 1) (n * n') (m * n') := by
  refine ⟨pmul_trimmed _ _, within_pmul h.wi k.wi, Nat.le_trans (n1_pmul _ _) (Nat.mul_le_mul h.sum k.sum), fun x hx => ?_⟩
  obtain ⟨i, hi, rfl⟩ := List.getElem_of_mem (mem_trimP hx)
  rw [← nth_lt hi]
  refine Nat.le_trans (coef_mull p.c q.c m h.each i) (Nat.mul_le_mul_left _ (Nat.le_trans (n1_take_le _ _) k.sum))
theorem PB.add {p q : LP} {lo hi : Int} {n m n' m' : Nat} (h : PB p lo hi n m) (k : PB q lo hi n' m') (c : Int) : PB (padd p q c) lo hi (n + c.natAbs * n') (m + c.natAbs * m') := by
  refine ⟨padd_trimmed _ _ _, within_padd h.wi k.wi c, Nat.le_trans (n1_padd _ _ _) (Nat.add_le_add h.sum (Nat.mul_le_mul_left _ k.sum)), fun x hx => ?_⟩
  have hadd : ∀ a b : List Int, (∀ y ∈ a, y.natAbs ≤ m) → (∀ y ∈ b, y.natAbs ≤ m') → ∀ y ∈ addl a b c, y.natAbs ≤ m + c.natAbs * m' := by
    intro a b ha hb y hy
    obtain ⟨i, hi, rfl⟩ := List.getElem_of_mem hy
    rw [← nth_lt hi, nth_addl]
    have h1 := Int.natAbs_add_le (nth a i) (c * nth b i)
    rw [Int.natAbs_mul] at h1
    have h2 : (nth a i).natAbs ≤ m := by
      rcases Nat.lt_or_ge i a.length with h | h
      · rw [nth_lt h]; exact ha _ (List.getElem_mem h)
      · rw [nth_ge h]; simp
    have h3 : (nth b i).natAbs ≤ m' := by
      rcases Nat.lt_or_ge i b.length with h | h
      · rw [nth_lt h]; exact hb _ (List.getElem_mem h)
      · rw [nth_ge h]; simp
    have h4 : c.natAbs * (nth b i).natAbs ≤ c.natAbs * m' := Nat.mul_le_mul_left _ h3
    omega
  have hsh : ∀ (B : Nat) (l : List Int) (d : Nat), (∀ y ∈ l, y.natAbs ≤ B) → ∀ y ∈ shiftl d l, y.natAbs ≤ B := by
    intro B l d hl y hy
    rcases List.mem_append.1 hy with h | h
    · have := (List.mem_replicate.1 h).2; subst this; simp
    · exact hl y h
  unfold padd at hx
  split at hx
  · have h1 := mem_trimP hx
    obtain ⟨y, hy, rfl⟩ := List.mem_map.1 h1
    rw [Int.natAbs_mul]
    have h4 : c.natAbs * y.natAbs ≤ c.natAbs * m' := Nat.mul_le_mul_left _ (k.each y hy)
    omega
  · split at hx
    · have := h.each x (mem_trimP hx); omega
    · exact hadd _ _ (hsh _ _ _ h.each) (hsh _ _ _ k.each) x (mem_trimP hx)
theorem PB.mono {p : LP} {lo hi lo' hi' : Int} {n m n' m' : Nat} (h : PB p lo hi n m) (h1 : lo' ≤ lo) (h2 : hi ≤ hi') (h3 : n ≤ n') (h4 : m ≤ m') : PB p lo' hi' n' m' :=
  ⟨h.tr, h.wi.mono h1 h2, Nat.le_trans h.sum h3, fun x hx => Nat.le_trans (h.each x hx) h4⟩
theorem pterm_pb (c e : Int) : PB (pterm c e) e (e + 1) c.natAbs c.natAbs :=
  ⟨pterm_trimmed c e, within_pterm c e, n1_pterm c e, fun x hx => by have := mem_trimP hx; simp at this; rw [this]; omega⟩

end Go.Proofs.Ytckopilciekfbaa

namespace Go.Proofs.Ytckopilciekfbaa
open Go.RowKit Go.Sl

/-- The two rows of a letter. -/
def bm (x : Int) (c d : Nat) : LP :=
  if x < 0 then (if c = 0 then (if d = 0 then pzero else pterm 1 0) else (if d = 0 then pterm 1 (-1) else trimP (-1) [-1, 1]))
  else (if c = 0 then (if d = 0 then trimP 0 [1, -1] else pterm 1 1) else (if d = 0 then pterm 1 0 else pzero))
def bent (x : Int) (a b : LP) (d : Nat) : LP := padd (pmul a (bm x 0 d)) (pmul b (bm x 1 d)) 1
/-- A letter's step on a row. -/
def brow (x : Int) (ps : List LP) : List LP :=
  (ps.set (x.natAbs - 1) (bent x (nthp ps (x.natAbs - 1)) (nthp ps x.natAbs) 0)).set x.natAbs (bent x (nthp ps (x.natAbs - 1)) (nthp ps x.natAbs) 1)
def urow (n i : Nat) : List LP := (List.replicate n pzero).set i (pterm 1 0)
def unitM (n : Nat) : List (List LP) := (List.range n).map (urow n)
def burauM (n : Nat) (xs : List Int) : List (List LP) := xs.foldl (fun m x => m.map (brow x)) (unitM n)
def rowM (n : Nat) (xs : List Int) (i : Nat) : List LP := xs.foldl (fun r x => brow x r) (urow n i)

theorem burauM_eq (n : Nat) (xs : List Int) : burauM n xs = (List.range n).map (rowM n xs) := by
  have : ∀ (xs : List Int) (f : Nat → List LP), xs.foldl (fun m x => m.map (brow x)) ((List.range n).map f) = (List.range n).map (fun i => xs.foldl (fun r x => brow x r) (f i)) := by
    intro xs
    induction xs with
    | nil => intro f; rfl
    | cons x t ih => intro f; rw [List.foldl_cons, List.map_map, ih]; rfl
  exact this xs _
theorem brow_length (x : Int) (ps : List LP) : (brow x ps).length = ps.length := by simp [brow]
theorem urow_length (n i : Nat) : (urow n i).length = n := by simp [urow]
theorem rowM_length (n : Nat) (xs : List Int) (i : Nat) : (rowM n xs i).length = n := by
  have : ∀ (xs : List Int) (r : List LP), (xs.foldl (fun r x => brow x r) r).length = r.length := by
    intro xs
    induction xs with
    | nil => intro r; rfl
    | cons x t ih => intro r; rw [List.foldl_cons, ih, brow_length]
  rw [rowM, this, urow_length]
theorem burauM_length (n : Nat) (xs : List Int) : (burauM n xs).length = n := by rw [burauM_eq]; simp
theorem nthm_burauM (n : Nat) (xs : List Int) {i : Nat} (h : i < n) : nthm (burauM n xs) i = rowM n xs i := by
  rw [burauM_eq, nthm_lt (by simpa using h)]; simp
theorem nthp_brow {x : Int} {ps : List LP} {k : Nat} (hk : k < ps.length) (h0 : x ≠ 0) : nthp (brow x ps) k =
    if k = x.natAbs then bent x (nthp ps (x.natAbs - 1)) (nthp ps x.natAbs) 1 else if k = x.natAbs - 1 then bent x (nthp ps (x.natAbs - 1)) (nthp ps x.natAbs) 0 else nthp ps k := by
  unfold brow
  rw [nthp_set (by simpa using hk), nthp_set hk]

/-- The step on the values at t; p is the letter's first column. -/
def bactP (t : Rat) (p : Nat) (f : Nat → Rat) (k : Nat) : Rat := if k = p then f p * (1 - t) + f (p + 1) else if k = p + 1 then f p * t else f k
def bactN (t : Rat) (p : Nat) (f : Nat → Rat) (k : Nat) : Rat := if k = p then f (p + 1) * t⁻¹ else if k = p + 1 then f p + f (p + 1) * (1 - t⁻¹) else f k
def bact (t : Rat) (x : Int) (f : Nat → Rat) : Nat → Rat := if x < 0 then bactN t (x.natAbs - 1) f else bactP t (x.natAbs - 1) f
def bacts (t : Rat) (xs : List Int) (f : Nat → Rat) : Nat → Rat := xs.foldl (fun g x => bact t x g) f
theorem bacts_append (t : Rat) (xs ys : List Int) (f : Nat → Rat) : bacts t (xs ++ ys) f = bacts t ys (bacts t xs f) := by simp [bacts, List.foldl_append]

theorem ev_bm {t : Rat} (ht : t ≠ 0) (x : Int) (c d : Nat) : ev (bm x c d) t =
    if x < 0 then (if c = 0 then (if d = 0 then 0 else 1) else (if d = 0 then t⁻¹ else 1 - t⁻¹)) else (if c = 0 then (if d = 0 then 1 - t else t) else (if d = 0 then 1 else 0)) := by
  have h1 : t ^ (-1 : Int) = t⁻¹ := by rw [Rat.zpow_neg]; simp
  have h2 : t⁻¹ * t = 1 := Rat.inv_mul_cancel t ht
  unfold bm
  have h0 : t ^ (0 : Int) = 1 := Rat.zpow_zero t
  have h3 : t ^ (1 : Int) = t := by simp
  split <;> split <;> split <;> simp only [ev_pzero, ev_pterm _ _ ht, ev_trimP _ _ ht, evL, h1, h0, h3] <;> grind
theorem ev_bent {t : Rat} (ht : t ≠ 0) (x : Int) (a b : LP) (d : Nat) : ev (bent x a b d) t = ev a t * ev (bm x 0 d) t + ev b t * ev (bm x 1 d) t := by
  unfold bent
  rw [ev_padd _ _ _ ht, ev_pmul _ _ ht, ev_pmul _ _ ht]; simp
theorem ev_brow {t : Rat} (ht : t ≠ 0) {x : Int} {ps : List LP} (h0 : x ≠ 0) (k : Nat) (hk : k < ps.length) :
    ev (nthp (brow x ps) k) t = bact t x (fun j => ev (nthp ps j) t) k := by
  obtain ⟨p, hp⟩ : ∃ p : Nat, x.natAbs = p + 1 := ⟨x.natAbs - 1, by omega⟩
  rw [nthp_brow hk h0]
  unfold bact bactP bactN
  rw [hp, Nat.add_sub_cancel]
  by_cases hx : x < 0
  · rw [if_pos hx]
    by_cases h1 : k = p + 1
    · subst h1
      rw [if_pos rfl, if_neg (by omega), if_pos rfl, ev_bent ht, ev_bm ht, ev_bm ht]
      simp [hx]
    · rw [if_neg h1]
      by_cases h2 : k = p
      · subst h2
        rw [if_pos rfl, if_pos rfl, ev_bent ht, ev_bm ht, ev_bm ht]
        simp [hx]; grind
      · rw [if_neg h2, if_neg h2, if_neg h1]
  · rw [if_neg hx]
    by_cases h1 : k = p + 1
    · subst h1
      rw [if_pos rfl, if_neg (by omega), if_pos rfl, ev_bent ht, ev_bm ht, ev_bm ht]
      simp [hx]; grind
    · rw [if_neg h1]
      by_cases h2 : k = p
      · subst h2
        rw [if_pos rfl, if_pos rfl, ev_bent ht, ev_bm ht, ev_bm ht]
        simp [hx]
      · rw [if_neg h2, if_neg h2, if_neg h1]

/-- A right word: letters of n strands. -/
def NWord (n : Nat) (xs : List Int) : Prop := ∀ x ∈ xs, x ≠ 0 ∧ x.natAbs < n
theorem bact_congr {t : Rat} {x : Int} {f g : Nat → Rat} {n : Nat} (h : ∀ k, k < n → f k = g k) (hx : x ≠ 0) (hn : x.natAbs < n) : ∀ k, k < n → bact t x f k = bact t x g k := by
  intro k hk
  have h1 := h (x.natAbs - 1) (by omega)
  have h2 := h (x.natAbs - 1 + 1) (by omega)
  have h3 := h k hk
  unfold bact bactP bactN
  split <;> simp only [h1, h2, h3]
theorem bacts_congr {t : Rat} {n : Nat} : ∀ (xs : List Int) (f g : Nat → Rat), NWord n xs → (∀ k, k < n → f k = g k) → ∀ k, k < n → bacts t xs f k = bacts t xs g k := by
  intro xs
  induction xs with
  | nil => intro f g _ h; exact h
  | cons x s ih =>
    intro f g hw h
    exact ih _ _ (fun y hy => hw y (by simp [hy])) (bact_congr h (hw x (by simp)).1 (hw x (by simp)).2)
theorem ev_rows {t : Rat} (ht : t ≠ 0) {n : Nat} : ∀ (xs : List Int) (r : List LP), r.length = n → NWord n xs → ∀ k, k < n → ev (nthp (xs.foldl (fun r x => brow x r) r) k) t = bacts t xs (fun j => ev (nthp r j) t) k := by
  intro xs
  induction xs with
  | nil => intro r _ _ k _; rfl
  | cons x s ih =>
    intro r hr hw k hk
    have hx := hw x (by simp)
    have hws : NWord n s := fun y hy => hw y (by simp [hy])
    rw [List.foldl_cons, ih _ (by rw [brow_length, hr]) hws k hk]
    exact bacts_congr s _ _ hws (fun j hj => ev_brow ht hx.1 j (by omega)) k hk
def unitV (i : Nat) (k : Nat) : Rat := if k = i then 1 else 0
theorem nthp_urow {n i k : Nat} (hk : k < n) : nthp (urow n i) k = if k = i then pterm 1 0 else pzero := by
  unfold urow
  rw [nthp_set (by simpa using hk)]
  split
  · rfl
  · rw [nthp_lt (by simpa using hk)]; simp
theorem ev_rowM {t : Rat} (ht : t ≠ 0) {n : Nat} {xs : List Int} (hw : NWord n xs) (i k : Nat) (hk : k < n) : ev (nthp (rowM n xs i) k) t = bacts t xs (unitV i) k := by
  unfold rowM
  rw [ev_rows ht xs _ (urow_length n i) hw k hk]
  refine bacts_congr xs _ _ hw (fun j hj => ?_) k hk
  rw [nthp_urow hj]
  unfold unitV
  split
  · rw [ev_pterm _ _ ht]; simp
  · exact ev_pzero t
theorem trimmed_brow {x : Int} {ps : List LP} (h : ∀ k, k < ps.length → Trimmed (nthp ps k)) (h0 : x ≠ 0) : ∀ k, k < ps.length → Trimmed (nthp (brow x ps) k) := by
  intro k hk
  rw [nthp_brow hk h0]
  split
  · exact padd_trimmed _ _ _
  · split
    · exact padd_trimmed _ _ _
    · exact h k hk
theorem trimmed_rowM {n : Nat} {xs : List Int} (hw : NWord n xs) (i : Nat) : ∀ k, k < n → Trimmed (nthp (rowM n xs i) k) := by
  have : ∀ (xs : List Int) (r : List LP), NWord n xs → r.length = n → (∀ k, k < n → Trimmed (nthp r k)) → ∀ k, k < n → Trimmed (nthp (xs.foldl (fun r x => brow x r) r) k) := by
    intro xs
    induction xs with
    | nil => intro r _ _ h; exact h
    | cons x s ih =>
      intro r hw hr h
      exact ih _ (fun y hy => hw y (by simp [hy])) (by rw [brow_length, hr]) (by rw [← hr] at h ⊢; exact trimmed_brow h (hw x (by simp)).1)
  refine this xs _ hw (urow_length n i) fun k hk => ?_
  rw [nthp_urow hk]
  split
  · exact pterm_trimmed _ _
  · exact pzero_trimmed
theorem pb_bm (x : Int) (c d : Nat) : PB (bm x c d) (-1) 2 2 1 := by
  have hz : PB pzero (-1) 2 2 1 := ⟨pzero_trimmed, within_pzero _ _, by simp [pzero, n1], fun x hx => by cases hx⟩
  have ht : ∀ e : Int, -1 ≤ e → e ≤ 1 → PB (pterm 1 e) (-1) 2 2 1 := fun e h1 h2 => (pterm_pb 1 e).mono (by omega) (by omega) (by decide) (by decide)
  have hl : ∀ (e a b : Int), -1 ≤ e → e ≤ 0 → a.natAbs ≤ 1 → b.natAbs ≤ 1 → PB (trimP e [a, b]) (-1) 2 2 1 := fun e a b h1 h2 ha hb =>
    ⟨trimP_trimmed _ _, (within_trimP e [a, b]).mono (by omega) (by simp; omega), Nat.le_trans (n1_trimP _ _) (by simp [n1]; omega), fun x hx => by
      have := mem_trimP hx
      simp at this
      rcases this with rfl | rfl <;> assumption⟩
  unfold bm
  split <;> split <;> split
  · exact hz
  · exact ht 0 (by omega) (by omega)
  · exact ht (-1) (by omega) (by omega)
  · exact hl (-1) (-1) 1 (by omega) (by omega) (by decide) (by decide)
  · exact hl 0 1 (-1) (by omega) (by omega) (by decide) (by decide)
  · exact ht 1 (by omega) (by omega)
  · exact ht 0 (by omega) (by omega)
  · exact hz
theorem pb_bent {x : Int} {a b : LP} {m : Int} {N : Nat} (ha : PB a (-m) (m + 1) N N) (hb : PB b (-m) (m + 1) N N) (d : Nat) : PB (bent x a b d) (-(m + 1)) (m + 1 + 1) (4 * N) (4 * N) :=
  ((ha.mul (pb_bm x 0 d)).add (hb.mul (pb_bm x 1 d)) 1).mono (by omega) (by omega) (by simp; omega) (by simp; omega)
theorem pb_brow {x : Int} {ps : List LP} {m : Int} {N : Nat} (h0 : x ≠ 0) (hx : x.natAbs < ps.length) (h : ∀ k, k < ps.length → PB (nthp ps k) (-m) (m + 1) N N) : ∀ k, k < ps.length → PB (nthp (brow x ps) k) (-(m + 1)) (m + 1 + 1) (4 * N) (4 * N) := by
  intro k hk
  have h1 := h (x.natAbs - 1) (by omega)
  have h2 := h x.natAbs hx
  rw [nthp_brow hk h0]
  split
  · exact pb_bent h1 h2 1
  · split
    · exact pb_bent h1 h2 0
    · exact (h k hk).mono (by omega) (by omega) (by omega) (by omega)
theorem pb_rows {n : Nat} : ∀ (xs : List Int) (r : List LP) (m : Int) (N : Nat), NWord n xs → r.length = n → (∀ k, k < n → PB (nthp r k) (-m) (m + 1) N N) →
    ∀ k, k < n → PB (nthp (xs.foldl (fun r x => brow x r) r) k) (-(m + xs.length)) (m + xs.length + 1) (4 ^ xs.length * N) (4 ^ xs.length * N) := by
  intro xs
  induction xs with
  | nil => intro r m N _ _ h k hk; exact (h k hk).mono (by simp) (by simp) (by simp) (by simp)
  | cons x s ih =>
    intro r m N hw hr h k hk
    have h1 := pb_brow (hw x (by simp)).1 (by rw [hr]; exact (hw x (by simp)).2) (by rw [hr]; exact h)
    rw [hr] at h1
    refine (ih (brow x r) (m + 1) (4 * N) (fun y hy => hw y (by simp [hy])) (by rw [brow_length, hr]) h1 k hk).mono (by simp; omega) (by simp; omega) ?_ ?_ <;>
      (simp only [List.length_cons, Nat.pow_succ]; rw [Nat.mul_assoc]; omega)
theorem pb_rowM {n : Nat} {xs : List Int} (hw : NWord n xs) (i : Nat) {k : Nat} (hk : k < n) : PB (nthp (rowM n xs i) k) (-(xs.length : Int)) (xs.length + 1) (4 ^ xs.length) (4 ^ xs.length) := by
  have := pb_rows xs (urow n i) 0 1 hw (urow_length n i) (fun k hk => by
    rw [nthp_urow hk]
    split
    · exact (pterm_pb 1 0).mono (by omega) (by omega) (by decide) (by decide)
    · exact ⟨pzero_trimmed, within_pzero _ _, by simp [pzero, n1], fun x hx => by cases hx⟩) k hk
  unfold rowM
  simpa using this

/-! The relations. -/
end Go.Proofs.Ytckopilciekfbaa

namespace Go.Proofs.Ytckopilciekfbaa
open Go.RowKit Go.Sl

theorem top_mull (a b : List Int) (ha : a ≠ []) (hb : b ≠ []) : nth (mull a b) (a.length - 1 + (b.length - 1)) = nth a (a.length - 1) * nth b (b.length - 1) := by
  have hp : 0 < b.length := List.length_pos_iff.2 hb
  induction a with
  | nil => exact absurd rfl ha
  | cons x a ih =>
    rw [mull, nth_addl]
    cases a with
    | nil =>
      simp only [mull, List.length_cons, List.length_nil, Nat.zero_add, Nat.sub_self]
      rw [nth_cons_zero]
      have : nth [0] (b.length - 1) = 0 := by
        cases hb1 : b.length - 1 with
        | zero => rfl
        | succ k => rw [nth_cons_succ, nth_nil]
      rw [this]; omega
    | cons y a =>
      have ih' := ih (by simp)
      simp only [List.length_cons] at ih' ⊢
      rw [show a.length + 1 + 1 - 1 + (b.length - 1) = (a.length + 1 - 1 + (b.length - 1)) + 1 by omega, nth_cons_succ, ih', nth_ge (l := b) (k := a.length + 1 - 1 + (b.length - 1) + 1) (by omega), show a.length + 1 + 1 - 1 = (a.length + 1 - 1) + 1 by omega, nth_cons_succ]
      simp
theorem mull_ne {a b : List Int} (ha : a ≠ []) (hb : b ≠ []) : mull a b ≠ [] := by
  intro e
  have := mull_length a b ha hb
  rw [e] at this
  have := List.length_pos_iff.2 ha
  have := List.length_pos_iff.2 hb
  simp at *; omega
theorem head_mull (a b : List Int) (ha : a ≠ []) : nth (mull a b) 0 = nth a 0 * nth b 0 := by
  cases a with
  | nil => exact absurd rfl ha
  | cons x a => rw [mull, nth_addl, nth_cons_zero, nth_cons_zero]; omega
/-- The product of two trimmed polynomials needs no trimming. -/
theorem pmul_exact {x y : LP} (hx : Trimmed x) (hy : Trimmed y) (h1 : x.c ≠ []) (h2 : y.c ≠ []) : pmul x y = ⟨x.low + y.low, mull x.c y.c⟩ := by
  refine trimP_eq ⟨fun e => absurd e (mull_ne h1 h2), fun _ => ?_, fun _ => ?_⟩ fun t _ => rfl
  · rw [head_mull _ _ h1]
    exact Int.mul_ne_zero (hx.first h1) (hy.first h2)
  · simp only
    rw [mull_length _ _ h1 h2]
    have p1 := List.length_pos_iff.2 h1
    have p2 := List.length_pos_iff.2 h2
    rw [show x.c.length + y.c.length - 1 - 1 = x.c.length - 1 + (y.c.length - 1) by omega, top_mull _ _ h1 h2]
    exact Int.mul_ne_zero (hx.last h1) (hy.last h2)

end Go.Proofs.Ytckopilciekfbaa

namespace Go.Proofs.Ytckopilciekfbaa
open Go.RowKit Go.Sl

/-- The value at x (1 or -1) of the terms with the exponents e, e + 1, .. -/
def atR (x : Int) : Int → List Int → Int
  | _, [] => 0
  | e, c :: cs => (if x < 0 ∧ e % 2 ≠ 0 then -c else c) + atR x (e + 1) cs
theorem atR_append (x : Int) (a b : List Int) : ∀ e, atR x e (a ++ b) = atR x e a + atR x (e + a.length) b := by
  induction a with
  | nil => intro e; simp [atR]
  | cons c cs ih =>
    intro e
    rw [List.cons_append, atR, atR, ih, List.length_cons, show e + 1 + (cs.length : Int) = e + ((cs.length + 1 : Nat) : Int) by omega]
    omega
theorem atR_take_succ (x e : Int) (l : List Int) (i : Nat) (h : i < l.length) : atR x e (l.take (i + 1)) = atR x e (l.take i) + (if x < 0 ∧ (e + i) % 2 ≠ 0 then -(nth l i) else nth l i) := by
  rw [List.take_succ_eq_append_getElem h, atR_append, List.length_take, Nat.min_eq_left (by omega), nth_lt h, atR, atR]
  omega
theorem atR_le (x : Int) (l : List Int) : ∀ e, (atR x e l).natAbs ≤ n1 l := by
  induction l with
  | nil => intro e; simp [atR]
  | cons c cs ih =>
    intro e
    have := ih (e + 1)
    rw [atR, n1]
    split <;> omega
theorem atR_take_le (x e : Int) (l : List Int) (i : Nat) : (atR x e (l.take i)).natAbs ≤ n1 l := Nat.le_trans (atR_le x _ e) (n1_take_le l i)

theorem one_zpow (e : Int) : (1 : Rat) ^ e = 1 := by
  have h : ∀ n : Nat, (1 : Rat) ^ n = 1 := fun n => by
    induction n with
    | zero => rfl
    | succ n ih => rw [Rat.pow_succ, ih]; grind
  rcases Int.le_total 0 e with he | he
  · obtain ⟨n, rfl⟩ := Int.eq_ofNat_of_zero_le he
    exact h n
  · obtain ⟨n, hn⟩ := Int.eq_ofNat_of_zero_le (show 0 ≤ -e by omega)
    rw [show e = -(n : Int) by omega, Rat.zpow_neg, Rat.zpow_natCast, h]; exact Rat.inv_eq_of_mul_eq_one (by grind)
theorem neg_ne : (-1 : Rat) ≠ 0 := by decide
theorem sign_pow (n : Nat) : (-1 : Rat) ^ n = if n % 2 = 0 then 1 else -1 := by
  induction n with
  | zero => rfl
  | succ n ih =>
    rw [Rat.pow_succ, ih]
    split <;> split <;> first | omega | rfl | grind | exact Rat.inv_eq_of_mul_eq_one (by grind)
theorem sign_zpow (e : Int) : (-1 : Rat) ^ e = if e % 2 = 0 then 1 else -1 := by
  rcases Int.le_total 0 e with he | he
  · obtain ⟨n, rfl⟩ := Int.eq_ofNat_of_zero_le he
    rw [Rat.zpow_natCast, sign_pow]
    split <;> split <;> first | omega | rfl | grind | exact Rat.inv_eq_of_mul_eq_one (by grind)
  · obtain ⟨n, hn⟩ := Int.eq_ofNat_of_zero_le (show 0 ≤ -e by omega)
    rw [show e = -(n : Int) by omega, Rat.zpow_neg, Rat.zpow_natCast, sign_pow]
    split <;> split <;> first | omega | rfl | grind | exact Rat.inv_eq_of_mul_eq_one (by grind)
theorem atR_pos (l : List Int) : ∀ e, ((atR 1 e l : Int) : Rat) = (1 : Rat) ^ e * evL l 1 := by
  induction l with
  | nil => intro e; simp [atR, evL]
  | cons c cs ih =>
    intro e
    have h := ih (e + 1)
    rw [atR, if_neg (by omega), evL, Rat.intCast_add, h, one_zpow, one_zpow]
    grind
theorem atR_neg (l : List Int) : ∀ e, ((atR (-1) e l : Int) : Rat) = (-1 : Rat) ^ e * evL l (-1) := by
  induction l with
  | nil => intro e; simp [atR, evL]
  | cons c cs ih =>
    intro e
    have h := ih (e + 1)
    rw [atR, evL, Rat.intCast_add, h, Rat.zpow_add_one neg_ne, sign_zpow]
    by_cases h2 : e % 2 = 0
    · rw [if_pos h2, if_neg (by rintro ⟨_, h⟩; exact h h2)]; grind
    · rw [if_neg h2, if_pos ⟨by omega, h2⟩, Rat.intCast_neg]; grind
theorem atR_pmul (x y : LP) {a : Int} (ha : a = 1 ∨ a = -1) : atR a (pmul x y).low (pmul x y).c = atR a x.low x.c * atR a y.low y.c := by
  rcases ha with rfl | rfl
  · have h := ev_pmul x y (t := 1) (by decide)
    unfold ev at h
    rw [← atR_pos, ← atR_pos, ← atR_pos, ← Rat.intCast_mul] at h
    exact Rat.intCast_inj.1 h
  · have h := ev_pmul x y (t := -1) (by decide)
    unfold ev at h
    rw [← atR_neg, ← atR_neg, ← atR_neg, ← Rat.intCast_mul] at h
    exact Rat.intCast_inj.1 h

/-- The polynomial of the inverse of the variable. -/
def pconj (p : LP) : LP := trimP (1 - p.low - p.c.length) p.c.reverse
theorem pconj_trimmed (p : LP) : Trimmed (pconj p) := trimP_trimmed _ _
theorem inv_ne {t : Rat} (ht : t ≠ 0) : t⁻¹ ≠ 0 := fun h => by
  have := Rat.mul_inv_cancel t ht
  rw [h, Rat.mul_zero] at this
  revert this; decide
theorem inv_pow {t : Rat} (ht : t ≠ 0) (n : Nat) : (t⁻¹) ^ n = (t ^ n)⁻¹ := by
  refine (Rat.inv_eq_of_mul_eq_one ?_).symm
  induction n with
  | zero => rw [Rat.pow_zero, Rat.pow_zero]; grind
  | succ n ih =>
    rw [Rat.pow_succ, Rat.pow_succ]
    have := Rat.mul_inv_cancel t ht
    grind
theorem inv_zpow {t : Rat} (ht : t ≠ 0) (e : Int) : (t⁻¹) ^ e = t ^ (-e) := by
  rcases Int.le_total 0 e with he | he
  · obtain ⟨n, rfl⟩ := Int.eq_ofNat_of_zero_le he
    rw [Rat.zpow_neg, Rat.zpow_natCast, Rat.zpow_natCast, inv_pow ht]
  · obtain ⟨n, hn⟩ := Int.eq_ofNat_of_zero_le (show 0 ≤ -e by omega)
    rw [show e = -(n : Int) by omega, Rat.zpow_neg, Int.neg_neg, Rat.zpow_natCast, Rat.zpow_natCast, inv_pow ht, Rat.inv_inv]
theorem evL_reverse (l : List Int) {t : Rat} (ht : t ≠ 0) : evL l.reverse t * t = t ^ l.length * evL l t⁻¹ := by
  induction l with
  | nil => simp [evL]
  | cons c cs ih =>
    rw [List.reverse_cons, evL_append, List.length_reverse, evL, evL, evL, List.length_cons, Rat.pow_succ]
    have h := Rat.mul_inv_cancel t ht
    have : t ^ cs.length * t * (c + t⁻¹ * evL cs t⁻¹) = t ^ cs.length * t * c + (t * t⁻¹) * (t ^ cs.length * evL cs t⁻¹) := by grind
    rw [this, h, ← ih]
    grind
theorem ev_pconj (p : LP) {t : Rat} (ht : t ≠ 0) : ev (pconj p) t = ev p t⁻¹ := by
  unfold pconj
  rw [ev_trimP _ _ ht, ev, inv_zpow ht, show (1 - p.low - (p.c.length : Int)) = -p.low + (-(p.c.length : Int) + 1) by omega, Rat.zpow_add ht, Rat.zpow_add_one ht]
  have h1 := evL_reverse p.c ht
  have h2 : t ^ (-(p.c.length : Int)) * t ^ p.c.length = 1 := by
    rw [Rat.zpow_neg, Rat.zpow_natCast]
    exact Rat.inv_mul_cancel _ (fun h => by
      have : ∀ n : Nat, t ^ n ≠ 0 := fun n => by
        induction n with
        | zero => rw [Rat.pow_zero]; decide
        | succ n ih => rw [Rat.pow_succ]; intro h; rcases Rat.mul_eq_zero.1 h with h | h; exact ih h; exact ht h
      exact this _ h)
  have : t ^ (-p.low) * (t ^ (-(p.c.length : Int)) * t) * evL p.c.reverse t = t ^ (-p.low) * (t ^ (-(p.c.length : Int)) * (evL p.c.reverse t * t)) := by grind
  rw [this, h1]
  grind
theorem pconj_pmul (x y : LP) : pconj (pmul x y) = pmul (pconj x) (pconj y) :=
  ev_ext (pconj_trimmed _) (pmul_trimmed _ _) fun t ht => by rw [ev_pconj _ ht, ev_pmul _ _ (inv_ne ht), ev_pmul _ _ ht, ev_pconj _ ht, ev_pconj _ ht]
theorem within_pconj {p : LP} {lo hi : Int} (h : Within p lo hi) : Within (pconj p) (1 - hi) (1 - lo) := by
  rcases h with h | h
  · left; unfold pconj; rw [h]; rfl
  · have := within_trimP (1 - p.low - p.c.length) p.c.reverse
    refine this.mono (by omega) (by simp; omega)
theorem n1_pconj (p : LP) : n1 (pconj p).c ≤ n1 p.c := by
  have := n1_trimP (1 - p.low - p.c.length) p.c.reverse
  rwa [n1_reverse] at this

/-- The sign that makes the last coefficient positive. -/
def lsign (p : LP) : Int := if nth p.c (p.c.length - 1) < 0 then -1 else 1
def pnorm (p : LP) : LP := pmul ⟨0, p.c⟩ (pterm (lsign p) 0)
theorem ev_pnorm (p : LP) {t : Rat} (ht : t ≠ 0) : ev (pnorm p) t = evL p.c t * lsign p := by
  unfold pnorm
  rw [ev_pmul _ _ ht, ev_pterm _ _ ht, ev, Rat.zpow_zero]
  grind
/-- Normal forms ignore units. -/
theorem pnorm_unit {x : LP} (hx : Trimmed x) {s e : Int} (hs : s = 1 ∨ s = -1) : pnorm (pmul x ⟨e, [s]⟩) = pnorm x := by
  by_cases h0 : x.c = []
  · refine ev_ext (pmul_trimmed _ _) (pmul_trimmed _ _) fun t ht => ?_
    rw [ev_pnorm _ ht, ev_pnorm _ ht, pmul_nil (.inl h0), h0]
    simp [pzero, evL]
  · have hu : Trimmed ⟨e, [s]⟩ := ⟨fun h => by simp at h, fun _ => by simp [nth]; omega, fun _ => by simp [nth]; omega⟩
    have hm := pmul_exact hx hu h0 (by simp)
    have ht1 := top_mull x.c [s] h0 (by simp)
    have hl := mull_length x.c [s] h0 (by simp)
    have hl2 : 0 < x.c.length := List.length_pos_iff.2 h0
    refine ev_ext (pmul_trimmed _ _) (pmul_trimmed _ _) fun t ht => ?_
    rw [ev_pnorm _ ht, ev_pnorm _ ht, hm]
    show evL (mull x.c [s]) t * _ = _
    rw [evL_mull]
    have hlast := hx.last h0
    have hls : lsign ⟨x.low + e, mull x.c [s]⟩ = s * lsign x := by
      unfold lsign
      simp only [hl, List.length_cons, List.length_nil] at ht1 ⊢
      rw [show x.c.length + (0 + 1) - 1 - 1 = x.c.length - 1 by omega]
      simp only [Nat.zero_add, Nat.sub_self, Nat.add_zero] at ht1
      rw [ht1, nth_cons_zero]
      rcases hs with rfl | rfl
      · simp
      · split <;> split <;> omega
    rw [hls, Rat.intCast_mul]
    rcases hs with rfl | rfl
    · simp [evL]; grind
    · simp [evL]; grind
theorem within_pnorm {p : LP} {lo hi : Int} (h : Within p lo hi) : Within (pnorm p) 0 (hi - lo) := by
  have h1 : Within ⟨0, p.c⟩ 0 (hi - lo) := by
    rcases h with h | h
    · exact .inl h
    · exact .inr ⟨Int.le_refl _, by show 0 + (p.c.length : Int) ≤ _; omega⟩
  have := within_pmul h1 (within_pterm (lsign p) 0)
  exact this.mono (by omega) (by omega)

end Go.Proofs.Ytckopilciekfbaa

namespace Go.Proofs.Ytckopilciekfbaa
open Go.RowKit Go.Sl

def sg (x : Int) : Int := if 0 < x then 1 else -1
end Go.Proofs.Ytckopilciekfbaa

namespace Go.Proofs.Ytckopilciekfbaa
open Go.RowKit Go.Sl

def vsum (f : Nat → Rat) : Nat → Rat
  | 0 => 0
  | k + 1 => vsum f k + f k
theorem vsum_congr {f g : Nat → Rat} (n : Nat) (h : ∀ k, k < n → f k = g k) : vsum f n = vsum g n := by
  induction n with
  | zero => rfl
  | succ n ih => rw [vsum, vsum, ih (fun k hk => h k (by omega)), h n (by omega)]
theorem vsum_pair {f g : Nat → Rat} {p : Nat} (h : ∀ k, k ≠ p → k ≠ p + 1 → g k = f k) (h2 : g p + g (p + 1) = f p + f (p + 1)) : ∀ m, vsum g (p + 2 + m) = vsum f (p + 2 + m) := by
  intro m
  induction m with
  | zero =>
    show vsum g p + g p + g (p + 1) = vsum f p + f p + f (p + 1)
    rw [vsum_congr p (fun k hk => h k (by omega) (by omega))]; grind
  | succ m ih => rw [show p + 2 + (m + 1) = p + 2 + m + 1 by omega, vsum, vsum, ih, h _ (by omega) (by omega)]
theorem vsum_bact {t : Rat} (ht : t ≠ 0) {x : Int} {n : Nat} (h0 : x ≠ 0) (hn : x.natAbs < n) (f : Nat → Rat) : vsum (bact t x f) n = vsum f n := by
  obtain ⟨p, hp⟩ : ∃ p : Nat, x.natAbs = p + 1 := ⟨x.natAbs - 1, by omega⟩
  obtain ⟨m, rfl⟩ : ∃ m, n = p + 2 + m := ⟨n - p - 2, by omega⟩
  have h2 : t⁻¹ * t = 1 := Rat.inv_mul_cancel t ht
  refine vsum_pair (p := p) (fun k h1 h2 => ?_) ?_ m
  · unfold bact bactP bactN
    rw [hp, Nat.add_sub_cancel]
    split <;> dsimp only <;> rw [if_neg h1, if_neg h2]
  · unfold bact bactP bactN
    rw [hp, Nat.add_sub_cancel]
    split <;> dsimp only <;> grind
theorem vsum_bacts {t : Rat} (ht : t ≠ 0) {n : Nat} (xs : List Int) : NWord n xs → ∀ f, vsum (bacts t xs f) n = vsum f n := by
  induction xs with
  | nil => intro _ f; rfl
  | cons x s ih =>
    intro hw f
    have hx := hw x (by simp)
    show vsum (bacts t s (bact t x f)) n = _
    rw [ih (fun y hy => hw y (by simp [hy])), vsum_bact ht hx.1 hx.2]
theorem vsum_unit {i : Nat} (n : Nat) : vsum (unitV i) n = if i < n then 1 else 0 := by
  induction n with
  | zero => rfl
  | succ n ih =>
    rw [vsum, ih]
    unfold unitV
    by_cases h : i < n
    · rw [if_pos h, if_neg (by omega), if_pos (by omega)]; grind
    · by_cases h2 : n = i
      · rw [if_neg h, if_pos h2, if_pos (by omega)]; grind
      · rw [if_neg h, if_neg h2, if_neg (by omega)]; grind

theorem bact_lin {t : Rat} (x : Int) (f g : Nat → Rat) (c : Rat) : bact t x (fun k => f k + c * g k) = fun k => bact t x f k + c * bact t x g k := by
  funext k
  unfold bact bactP bactN
  split <;> dsimp only <;> split <;> (try split) <;> grind
theorem bacts_lin {t : Rat} (xs : List Int) : ∀ (f g : Nat → Rat) (c : Rat), bacts t xs (fun k => f k + c * g k) = fun k => bacts t xs f k + c * bacts t xs g k := by
  induction xs with
  | nil => intro f g c; rfl
  | cons x s ih =>
    intro f g c
    show bacts t s (bact t x _) = _
    rw [bact_lin, ih]; rfl
theorem bacts_zero {t : Rat} (xs : List Int) : bacts t xs (fun _ => 0) = fun _ => 0 := by
  have := bacts_lin (t := t) xs (fun _ => 0) (fun _ => 0) (-1)
  funext k
  have h := congrFun this k
  simp only [Rat.mul_zero, Rat.add_zero] at h
  grind
theorem bact_pow {t : Rat} (ht : t ≠ 0) (x : Int) : bact t x (fun k => t ^ k) = fun k => t ^ k := by
  have h2 : t⁻¹ * t = 1 := Rat.inv_mul_cancel t ht
  funext k
  unfold bact bactP bactN
  split
  · dsimp only
    split
    · rename_i h; subst h; rw [Rat.pow_succ]; grind
    · split
      · rename_i h; rw [h]; rw [Rat.pow_succ]; grind
      · rfl
  · dsimp only
    split
    · rename_i h; subst h; rw [Rat.pow_succ]; grind
    · split
      · rename_i h; rw [h]; rw [Rat.pow_succ]
      · rfl
theorem bacts_pow {t : Rat} (ht : t ≠ 0) (xs : List Int) : bacts t xs (fun k => t ^ k) = fun k => t ^ k := by
  induction xs with
  | nil => rfl
  | cons x s ih => show bacts t s (bact t x _) = _; rw [bact_pow ht, ih]
theorem bacts_sum {t : Rat} (xs : List Int) (c : Nat → Rat) (i : Nat) : ∀ K, vsum (fun k => c k * bacts t xs (unitV k) i) K = bacts t xs (fun j => vsum (fun k => c k * unitV k j) K) i := by
  intro K
  induction K with
  | zero => show (0 : Rat) = bacts t xs (fun _ => 0) i; rw [bacts_zero]
  | succ K ih =>
    show vsum _ K + _ = bacts t xs (fun j => vsum (fun k => c k * unitV k j) K + c K * unitV K j) i
    rw [bacts_lin, ih]
theorem vsum_pick (c : Nat → Rat) (j : Nat) : ∀ n, vsum (fun k => c k * unitV k j) n = if j < n then c j else 0 := by
  intro n
  induction n with
  | zero => rfl
  | succ n ih =>
    rw [vsum, ih]
    unfold unitV
    by_cases h : j < n
    · rw [if_pos h, if_neg (by omega), if_pos (by omega)]; grind
    · by_cases h2 : j = n
      · rw [if_neg h, if_pos h2, if_pos (by omega), h2]; grind
      · rw [if_neg h, if_neg h2, if_neg (by omega)]; grind

end Go.Proofs.Ytckopilciekfbaa

