/- Fox derivatives: plain law. -/
import Derived.Test.YtmcecmnbdcbehaaQTopFox0
import Derived.Test.YtmcecmnbdcbehaaQTopFox1
import Derived.Test.YtmcecmnbdcbehaaQTopFox2
import Derived.Test.YtmcecmnbdcbehaaQTopFox3
import Derived.Test.YtmcecmnbdcbehaaQTopFox4
import Derived.Test.YtmcecmnbdcbehaaQTopFox5
import Derived.Test.YtmcecmnbdcbehaaQTopFox6
import Derived.Test.YtmcecmnbdcbehaaQTopFox7
import Derived.Test.YtmcecmnbdcbehaaQTopFox9
import Derived.Test.YtmcecmnbdcbehaaQTopFox16
import Derived.Test.YtmcecmnbdcbehaaQTopFox17
import Derived.Test.YtmcecmnbdcbehaaQTopFox18

namespace Go.Proofs.Ytmcecmnbdcbehaa
open Go.RowKit Go.Sl

/-- A polynomial as Check wants it. -/
structure POk (p : LP) : Prop where
  len : p.c.length ≤ 200
  lo1 : -1000 ≤ p.low
  lo2 : p.low ≤ 1000
  tr : Trimmed p
  co : n1 p.c ≤ 1000000000 ∧ ∀ x ∈ p.c, -100000000 ≤ x ∧ x ≤ 100000000
theorem POk.of {p : LP} {lo hi : Int} (ht : Trimmed p) (hw : Within p lo hi) (h1 : -1000 ≤ lo) (h2 : lo ≤ 0) (h3 : hi ≤ lo + 200) (h5 : hi ≤ 1000) (hn : n1 p.c ≤ 100000000) : POk p := by
  rcases hw with h | h
  · have h0 := ht.zero h
    exact ⟨by rw [h]; simp, by omega, by omega, ht, by omega, fun x hx => by rw [h] at hx; cases hx⟩
  · refine ⟨by omega, by omega, ?_, ht, by omega, fun x hx => by have := n1_mem hx; omega⟩
    by_cases e : p.c = []
    · rw [ht.zero e]; omega
    · have := List.length_pos_iff.2 e; omega

end Go.Proofs.Ytmcecmnbdcbehaa

namespace Go.Proofs.Ytmcecmnbdcbehaa
open Go.RowKit Go.Sl

theorem nth_addl (a b : List Int) (k : Int) : ∀ i, nth (addl a b k) i = nth a i + k * nth b i := by
  induction a generalizing b with
  | nil =>
    intro i
    rw [addl, nth_nil]
    rcases Nat.lt_or_ge i b.length with h | h
    · rw [nth_lt (by simpa using h), nth_lt h]; simp
    · rw [nth_ge (by simpa using h), nth_ge h]; simp
  | cons x a ih =>
    intro i
    cases b with
    | nil => rw [addl, nth_nil]; simp; simp
    | cons y b =>
      rw [addl]
      cases i with
      | zero => simp [nth_cons_zero]
      | succ i => rw [nth_cons_succ, nth_cons_succ, nth_cons_succ, ih]
theorem coef_mull (a b : List Int) (M : Nat) (h : ∀ x ∈ a, x.natAbs ≤ M) : ∀ k, (nth (mull a b) k).natAbs ≤ M * n1 (b.take (k + 1)) := by
  induction a with
  | nil => intro k; rw [mull, nth_nil]; simp
  | cons x a ih =>
    intro k
    rw [mull, nth_addl]
    have hx := h x (by simp)
    have ih' := ih fun y hy => h y (by simp [hy])
    have h1 := Int.natAbs_add_le (nth (0 :: mull a b) k) (x * nth b k)
    rw [Int.natAbs_mul] at h1
    have h2 : x.natAbs * (nth b k).natAbs ≤ M * (nth b k).natAbs := Nat.mul_le_mul_right _ hx
    have h3 : n1 (b.take (k + 1)) = n1 (b.take k) + (nth b k).natAbs := by
      rcases Nat.lt_or_ge k b.length with h | h
      · exact n1_take_succ b k h
      · rw [List.take_of_length_le (by omega), List.take_of_length_le h, nth_ge h]; simp
    rw [h3, Nat.mul_add]
    cases k with
    | zero => rw [nth_cons_zero] at h1 ⊢; simp only [Int.natAbs_zero] at h1; omega
    | succ k => rw [nth_cons_succ] at h1 ⊢; have := ih' k; omega
theorem mem_dropZ {l : List Int} {x : Int} (h : x ∈ dropZ l) : x ∈ l := by
  rw [(dropZ_zeros l).2]; exact List.mem_append_right _ h
theorem mem_dropE {l : List Int} {x : Int} (h : x ∈ dropE l) : x ∈ l := by
  rw [(dropE_zeros l).2]; exact List.mem_append_left _ h
theorem mem_trimP {low : Int} {c : List Int} {x : Int} (h : x ∈ (trimP low c).c) : x ∈ c := by
  unfold trimP at h
  split at h
  · cases h
  · exact mem_dropZ (mem_dropE h)

/-- Trimmed, with exponents from lo on before hi, the absolute values' sum at most n, each at most m. -/
structure PB (p : LP) (lo hi : Int) (n m : Nat) : Prop where
  tr : Trimmed p
  wi : Within p lo hi
  sum : n1 p.c ≤ n
  each : ∀ x ∈ p.c, x.natAbs ≤ m
theorem PB.ok {p : LP} {lo hi : Int} {n m : Nat} (h : PB p lo hi n m) (h1 : -1000 ≤ lo) (h2 : lo ≤ 0) (h3 : hi ≤ lo + 200) (h5 : hi ≤ 1000) (hn : n ≤ 1000000000) (hm : m ≤ 100000000) : POk p := by
  rcases h.wi with hc | hc
  · have h0 := h.tr.zero hc
    exact ⟨by rw [hc]; simp, by omega, by omega, h.tr, by have := h.sum; omega, fun x hx => by rw [hc] at hx; cases hx⟩
  · refine ⟨by omega, by omega, ?_, h.tr, by have := h.sum; omega, fun x hx => by have := h.each x hx; omega⟩
    by_cases e : p.c = []
    · rw [h.tr.zero e]; omega
    · have := List.length_pos_iff.2 e; omega
theorem PB.mul {p q : LP} {lo hi lo' hi' : Int} {n m n' m' : Nat} (h : PB p lo hi n m) (k : PB q lo' hi' n' m') : PB (pmul p q) (lo + lo') (hi + hi' - 1) (n * n') (m * n') := by
  refine ⟨pmul_trimmed _ _, within_pmul h.wi k.wi, Nat.le_trans (n1_pmul _ _) (Nat.mul_le_mul h.sum k.sum), fun x hx => ?_⟩
  obtain ⟨i, hi, rfl⟩ := List.getElem_of_mem (mem_trimP hx)
  rw [← nth_lt hi]
  refine Nat.le_trans (coef_mull p.c q.c m h.each i) (Nat.mul_le_mul_left _ (Nat.le_trans (n1_take_le _ _) k.sum))
theorem PB.add {p q : LP} {lo hi : Int} {n m n' m' : Nat} (h : PB p lo hi n m) (k : PB q lo hi n' m') (c : Int) : PB (padd p q c) lo hi (n + c.natAbs * n') (m + c.natAbs * m') := by
  refine ⟨padd_trimmed _ _ _, within_padd h.wi k.wi c, Nat.le_trans (n1_padd _ _ _) (Nat.add_le_add h.sum (Nat.mul_le_mul_left _ k.sum)), fun x hx => ?_⟩
  have hadd : ∀ a b : List Int, (∀ y ∈ a, y.natAbs ≤ m) → (∀ y ∈ b, y.natAbs ≤ m') → ∀ y ∈ addl a b c, y.natAbs ≤ m + c.natAbs * m' := by
    intro a b ha hb y hy
    obtain ⟨i, hi, rfl⟩ := List.getElem_of_mem hy
    rw [← nth_lt hi, nth_addl]
    have h1 := Int.natAbs_add_le (nth a i) (c * nth b i)
    rw [Int.natAbs_mul] at h1
    have h2 : (nth a i).natAbs ≤ m := by
      rcases Nat.lt_or_ge i a.length with h | h
      · rw [nth_lt h]; exact ha _ (List.getElem_mem h)
      · rw [nth_ge h]; simp
    have h3 : (nth b i).natAbs ≤ m' := by
      rcases Nat.lt_or_ge i b.length with h | h
      · rw [nth_lt h]; exact hb _ (List.getElem_mem h)
      · rw [nth_ge h]; simp
    have h4 : c.natAbs * (nth b i).natAbs ≤ c.natAbs * m' := Nat.mul_le_mul_left _ h3
    omega
  have hsh : ∀ (B : Nat) (l : List Int) (d : Nat), (∀ y ∈ l, y.natAbs ≤ B) → ∀ y ∈ shiftl d l, y.natAbs ≤ B := by
    intro B l d hl y hy
    rcases List.mem_append.1 hy with h | h
    · have := (List.mem_replicate.1 h).2; subst this; simp
    · exact hl y h
  unfold padd at hx
  split at hx
  · have h1 := mem_trimP hx
    obtain ⟨y, hy, rfl⟩ := List.mem_map.1 h1
    rw [Int.natAbs_mul]
    have h4 : c.natAbs * y.natAbs ≤ c.natAbs * m' := Nat.mul_le_mul_left _ (k.each y hy)
    omega
  · split at hx
    · have := h.each x (mem_trimP hx); omega
    · exact hadd _ _ (hsh _ _ _ h.each) (hsh _ _ _ k.each) x (mem_trimP hx)
theorem PB.mono {p : LP} {lo hi lo' hi' : Int} {n m n' m' : Nat} (h : PB p lo hi n m) (h1 : lo' ≤ lo) (h2 : hi ≤ hi') (h3 : n ≤ n') (h4 : m ≤ m') : PB p lo' hi' n' m' :=
  ⟨h.tr, h.wi.mono h1 h2, Nat.le_trans h.sum h3, fun x hx => Nat.le_trans (h.each x hx) h4⟩
theorem pterm_pb (c e : Int) : PB (pterm c e) e (e + 1) c.natAbs c.natAbs :=
  ⟨pterm_trimmed c e, within_pterm c e, n1_pterm c e, fun x hx => by have := mem_trimP hx; simp at this; rw [this]; omega⟩

end Go.Proofs.Ytmcecmnbdcbehaa

namespace Go.Proofs.Ytmcecmnbdcbehaa
open Go.RowKit Go.Sl

/-- The two rows of a letter. -/
def bm (x : Int) (c d : Nat) : LP :=
  if x < 0 then (if c = 0 then (if d = 0 then pzero else pterm 1 0) else (if d = 0 then pterm 1 (-1) else trimP (-1) [-1, 1]))
  else (if c = 0 then (if d = 0 then trimP 0 [1, -1] else pterm 1 1) else (if d = 0 then pterm 1 0 else pzero))
def bent (x : Int) (a b : LP) (d : Nat) : LP := padd (pmul a (bm x 0 d)) (pmul b (bm x 1 d)) 1
/-- A letter's step on a row. -/
def brow (x : Int) (ps : List LP) : List LP :=
  (ps.set (x.natAbs - 1) (bent x (nthp ps (x.natAbs - 1)) (nthp ps x.natAbs) 0)).set x.natAbs (bent x (nthp ps (x.natAbs - 1)) (nthp ps x.natAbs) 1)
def urow (n i : Nat) : List LP := (List.replicate n pzero).set i (pterm 1 0)
def unitM (n : Nat) : List (List LP) := (List.range n).map (urow n)
def burauM (n : Nat) (xs : List Int) : List (List LP) := xs.foldl (fun m x => m.map (brow x)) (unitM n)
def rowM (n : Nat) (xs : List Int) (i : Nat) : List LP := xs.foldl (fun r x => brow x r) (urow n i)

theorem burauM_eq (n : Nat) (xs : List Int) : burauM n xs = (List.range n).map (rowM n xs) := by
  have : ∀ (xs : List Int) (f : Nat → List LP), xs.foldl (fun m x => m.map (brow x)) ((List.range n).map f) = (List.range n).map (fun i => xs.foldl (fun r x => brow x r) (f i)) := by
    intro xs
    induction xs with
    | nil => intro f; rfl
    | cons x t ih => intro f; rw [List.foldl_cons, List.map_map, ih]; rfl
  exact this xs _
theorem brow_length (x : Int) (ps : List LP) : (brow x ps).length = ps.length := by simp [brow]
theorem urow_length (n i : Nat) : (urow n i).length = n := by simp [urow]
theorem rowM_length (n : Nat) (xs : List Int) (i : Nat) : (rowM n xs i).length = n := by
  have : ∀ (xs : List Int) (r : List LP), (xs.foldl (fun r x => brow x r) r).length = r.length := by
    intro xs
    induction xs with
    | nil => intro r; rfl
    | cons x t ih => intro r; rw [List.foldl_cons, ih, brow_length]
  rw [rowM, this, urow_length]
theorem burauM_length (n : Nat) (xs : List Int) : (burauM n xs).length = n := by rw [burauM_eq]; simp
theorem nthm_burauM (n : Nat) (xs : List Int) {i : Nat} (h : i < n) : nthm (burauM n xs) i = rowM n xs i := by
  rw [burauM_eq, nthm_lt (by simpa using h)]; simp
theorem nthp_brow {x : Int} {ps : List LP} {k : Nat} (hk : k < ps.length) (h0 : x ≠ 0) : nthp (brow x ps) k =
    if k = x.natAbs then bent x (nthp ps (x.natAbs - 1)) (nthp ps x.natAbs) 1 else if k = x.natAbs - 1 then bent x (nthp ps (x.natAbs - 1)) (nthp ps x.natAbs) 0 else nthp ps k := by
  unfold brow
  rw [nthp_set (by simpa using hk), nthp_set hk]

/-- The step on the values at t; p is the letter's first column. -/
def bactP (t : Rat) (p : Nat) (f : Nat → Rat) (k : Nat) : Rat := if k = p then f p * (1 - t) + f (p + 1) else if k = p + 1 then f p * t else f k
def bactN (t : Rat) (p : Nat) (f : Nat → Rat) (k : Nat) : Rat := if k = p then f (p + 1) * t⁻¹ else if k = p + 1 then f p + f (p + 1) * (1 - t⁻¹) else f k
def bact (t : Rat) (x : Int) (f : Nat → Rat) : Nat → Rat := if x < 0 then bactN t (x.natAbs - 1) f else bactP t (x.natAbs - 1) f
def bacts (t : Rat) (xs : List Int) (f : Nat → Rat) : Nat → Rat := xs.foldl (fun g x => bact t x g) f
theorem ev_bm {t : Rat} (ht : t ≠ 0) (x : Int) (c d : Nat) : ev (bm x c d) t =
    if x < 0 then (if c = 0 then (if d = 0 then 0 else 1) else (if d = 0 then t⁻¹ else 1 - t⁻¹)) else (if c = 0 then (if d = 0 then 1 - t else t) else (if d = 0 then 1 else 0)) := by
  have h1 : t ^ (-1 : Int) = t⁻¹ := by rw [Rat.zpow_neg]; simp
  have h2 : t⁻¹ * t = 1 := Rat.inv_mul_cancel t ht
  unfold bm
  have h0 : t ^ (0 : Int) = 1 := Rat.zpow_zero t
  have h3 : t ^ (1 : Int) = t := by simp
  split <;> split <;> split <;> simp only [ev_pzero, ev_pterm _ _ ht, ev_trimP _ _ ht, evL, h1, h0, h3] <;> grind
theorem ev_bent {t : Rat} (ht : t ≠ 0) (x : Int) (a b : LP) (d : Nat) : ev (bent x a b d) t = ev a t * ev (bm x 0 d) t + ev b t * ev (bm x 1 d) t := by
  unfold bent
  rw [ev_padd _ _ _ ht, ev_pmul _ _ ht, ev_pmul _ _ ht]; simp
theorem ev_brow {t : Rat} (ht : t ≠ 0) {x : Int} {ps : List LP} (h0 : x ≠ 0) (k : Nat) (hk : k < ps.length) :
    ev (nthp (brow x ps) k) t = bact t x (fun j => ev (nthp ps j) t) k := by
  obtain ⟨p, hp⟩ : ∃ p : Nat, x.natAbs = p + 1 := ⟨x.natAbs - 1, by omega⟩
  rw [nthp_brow hk h0]
  unfold bact bactP bactN
  rw [hp, Nat.add_sub_cancel]
  by_cases hx : x < 0
  · rw [if_pos hx]
    by_cases h1 : k = p + 1
    · subst h1
      rw [if_pos rfl, if_neg (by omega), if_pos rfl, ev_bent ht, ev_bm ht, ev_bm ht]
      simp [hx]
    · rw [if_neg h1]
      by_cases h2 : k = p
      · subst h2
        rw [if_pos rfl, if_pos rfl, ev_bent ht, ev_bm ht, ev_bm ht]
        simp [hx]; grind
      · rw [if_neg h2, if_neg h2, if_neg h1]
  · rw [if_neg hx]
    by_cases h1 : k = p + 1
    · subst h1
      rw [if_pos rfl, if_neg (by omega), if_pos rfl, ev_bent ht, ev_bm ht, ev_bm ht]
      simp [hx]; grind
    · rw [if_neg h1]
      by_cases h2 : k = p
      · subst h2
        rw [if_pos rfl, if_pos rfl, ev_bent ht, ev_bm ht, ev_bm ht]
        simp [hx]
      · rw [if_neg h2, if_neg h2, if_neg h1]

/-- A right word: letters of n strands. -/
def NWord (n : Nat) (xs : List Int) : Prop := ∀ x ∈ xs, x ≠ 0 ∧ x.natAbs < n
theorem bact_congr {t : Rat} {x : Int} {f g : Nat → Rat} {n : Nat} (h : ∀ k, k < n → f k = g k) (hx : x ≠ 0) (hn : x.natAbs < n) : ∀ k, k < n → bact t x f k = bact t x g k := by
  intro k hk
  have h1 := h (x.natAbs - 1) (by omega)
  have h2 := h (x.natAbs - 1 + 1) (by omega)
  have h3 := h k hk
  unfold bact bactP bactN
  split <;> simp only [h1, h2, h3]
theorem bacts_congr {t : Rat} {n : Nat} : ∀ (xs : List Int) (f g : Nat → Rat), NWord n xs → (∀ k, k < n → f k = g k) → ∀ k, k < n → bacts t xs f k = bacts t xs g k := by
  intro xs
  induction xs with
  | nil => intro f g _ h; exact h
  | cons x s ih =>
    intro f g hw h
    exact ih _ _ (fun y hy => hw y (by simp [hy])) (bact_congr h (hw x (by simp)).1 (hw x (by simp)).2)
theorem ev_rows {t : Rat} (ht : t ≠ 0) {n : Nat} : ∀ (xs : List Int) (r : List LP), r.length = n → NWord n xs → ∀ k, k < n → ev (nthp (xs.foldl (fun r x => brow x r) r) k) t = bacts t xs (fun j => ev (nthp r j) t) k := by
  intro xs
  induction xs with
  | nil => intro r _ _ k _; rfl
  | cons x s ih =>
    intro r hr hw k hk
    have hx := hw x (by simp)
    have hws : NWord n s := fun y hy => hw y (by simp [hy])
    rw [List.foldl_cons, ih _ (by rw [brow_length, hr]) hws k hk]
    exact bacts_congr s _ _ hws (fun j hj => ev_brow ht hx.1 j (by omega)) k hk
def unitV (i : Nat) (k : Nat) : Rat := if k = i then 1 else 0
theorem nthp_urow {n i k : Nat} (hk : k < n) : nthp (urow n i) k = if k = i then pterm 1 0 else pzero := by
  unfold urow
  rw [nthp_set (by simpa using hk)]
  split
  · rfl
  · rw [nthp_lt (by simpa using hk)]; simp
theorem ev_rowM {t : Rat} (ht : t ≠ 0) {n : Nat} {xs : List Int} (hw : NWord n xs) (i k : Nat) (hk : k < n) : ev (nthp (rowM n xs i) k) t = bacts t xs (unitV i) k := by
  unfold rowM
  rw [ev_rows ht xs _ (urow_length n i) hw k hk]
  refine bacts_congr xs _ _ hw (fun j hj => ?_) k hk
  rw [nthp_urow hj]
  unfold unitV
  split
  · rw [ev_pterm _ _ ht]; simp
  · exact ev_pzero t
theorem trimmed_brow {x : Int} {ps : List LP} (h : ∀ k, k < ps.length → Trimmed (nthp ps k)) (h0 : x ≠ 0) : ∀ k, k < ps.length → Trimmed (nthp (brow x ps) k) := by
  intro k hk
  rw [nthp_brow hk h0]
  split
  · exact padd_trimmed _ _ _
  · split
    · exact padd_trimmed _ _ _
    · exact h k hk
theorem trimmed_rowM {n : Nat} {xs : List Int} (hw : NWord n xs) (i : Nat) : ∀ k, k < n → Trimmed (nthp (rowM n xs i) k) := by
  have : ∀ (xs : List Int) (r : List LP), NWord n xs → r.length = n → (∀ k, k < n → Trimmed (nthp r k)) → ∀ k, k < n → Trimmed (nthp (xs.foldl (fun r x => brow x r) r) k) := by
    intro xs
    induction xs with
    | nil => intro r _ _ h; exact h
    | cons x s ih =>
      intro r hw hr h
      exact ih _ (fun y hy => hw y (by simp [hy])) (by rw [brow_length, hr]) (by rw [← hr] at h ⊢; exact trimmed_brow h (hw x (by simp)).1)
  refine this xs _ hw (urow_length n i) fun k hk => ?_
  rw [nthp_urow hk]
  split
  · exact pterm_trimmed _ _
  · exact pzero_trimmed
theorem pb_bm (x : Int) (c d : Nat) : PB (bm x c d) (-1) 2 2 1 := by
  have hz : PB pzero (-1) 2 2 1 := ⟨pzero_trimmed, within_pzero _ _, by simp [pzero, n1], fun x hx => by cases hx⟩
  have ht : ∀ e : Int, -1 ≤ e → e ≤ 1 → PB (pterm 1 e) (-1) 2 2 1 := fun e h1 h2 => (pterm_pb 1 e).mono (by omega) (by omega) (by decide) (by decide)
  have hl : ∀ (e a b : Int), -1 ≤ e → e ≤ 0 → a.natAbs ≤ 1 → b.natAbs ≤ 1 → PB (trimP e [a, b]) (-1) 2 2 1 := fun e a b h1 h2 ha hb =>
    ⟨trimP_trimmed _ _, (within_trimP e [a, b]).mono (by omega) (by simp; omega), Nat.le_trans (n1_trimP _ _) (by simp [n1]; omega), fun x hx => by
      have := mem_trimP hx
      simp at this
      rcases this with rfl | rfl <;> assumption⟩
  unfold bm
  split <;> split <;> split
  · exact hz
  · exact ht 0 (by omega) (by omega)
  · exact ht (-1) (by omega) (by omega)
  · exact hl (-1) (-1) 1 (by omega) (by omega) (by decide) (by decide)
  · exact hl 0 1 (-1) (by omega) (by omega) (by decide) (by decide)
  · exact ht 1 (by omega) (by omega)
  · exact ht 0 (by omega) (by omega)
  · exact hz
theorem pb_bent {x : Int} {a b : LP} {m : Int} {N : Nat} (ha : PB a (-m) (m + 1) N N) (hb : PB b (-m) (m + 1) N N) (d : Nat) : PB (bent x a b d) (-(m + 1)) (m + 1 + 1) (4 * N) (4 * N) :=
  ((ha.mul (pb_bm x 0 d)).add (hb.mul (pb_bm x 1 d)) 1).mono (by omega) (by omega) (by simp; omega) (by simp; omega)
theorem pb_brow {x : Int} {ps : List LP} {m : Int} {N : Nat} (h0 : x ≠ 0) (hx : x.natAbs < ps.length) (h : ∀ k, k < ps.length → PB (nthp ps k) (-m) (m + 1) N N) : ∀ k, k < ps.length → PB (nthp (brow x ps) k) (-(m + 1)) (m + 1 + 1) (4 * N) (4 * N) := by
  intro k hk
  have h1 := h (x.natAbs - 1) (by omega)
  have h2 := h x.natAbs hx
  rw [nthp_brow hk h0]
  split
  · exact pb_bent h1 h2 1
  · split
    · exact pb_bent h1 h2 0
    · exact (h k hk).mono (by omega) (by omega) (by omega) (by omega)
theorem pb_rows {n : Nat} : ∀ (xs : List Int) (r : List LP) (m : Int) (N : Nat), NWord n xs → r.length = n → (∀ k, k < n → PB (nthp r k) (-m) (m + 1) N N) →
    ∀ k, k < n → PB (nthp (xs.foldl (fun r x => brow x r) r) k) (-(m + xs.length)) (m + xs.length + 1) (4 ^ xs.length * N) (4 ^ xs.length * N) := by
  intro xs
  induction xs with
  | nil => intro r m N _ _ h k hk; exact (h k hk).mono (by simp) (by simp) (by simp) (by simp)
  | cons x s ih =>
    intro r m N hw hr h k hk
    have h1 := pb_brow (hw x (by simp)).1 (by rw [hr]; exact (hw x (by simp)).2) (by rw [hr]; exact h)
    rw [hr] at h1
    refine (ih (brow x r) (m + 1) (4 * N) (fun y hy => hw y (by simp [hy])) (by rw [brow_length, hr]) h1 k hk).mono (by simp; omega) (by simp; omega) ?_ ?_ <;>
      (simp only [List.length_cons, Nat.pow_succ]; rw [Nat.mul_assoc]; omega)
theorem pb_rowM {n : Nat} {xs : List Int} (hw : NWord n xs) (i : Nat) {k : Nat} (hk : k < n) : PB (nthp (rowM n xs i) k) (-(xs.length : Int)) (xs.length + 1) (4 ^ xs.length) (4 ^ xs.length) := by
  have := pb_rows xs (urow n i) 0 1 hw (urow_length n i) (fun k hk => by
    rw [nthp_urow hk]
    split
    · exact (pterm_pb 1 0).mono (by omega) (by omega) (by decide) (by decide)
    · exact ⟨pzero_trimmed, within_pzero _ _, by simp [pzero, n1], fun x hx => by cases hx⟩) k hk
  unfold rowM
  simpa using this

/-! The relations. -/
end Go.Proofs.Ytmcecmnbdcbehaa

namespace Go.Proofs.Ytmcecmnbdcbehaa
open Go.RowKit Go.Sl

def foxStep (i : Int) (s : LP × Int) (x : Int) : LP × Int :=
  (if x = i then padd s.1 (pterm 1 (if x < 0 then s.2 - 1 else s.2)) 1 else if x = -i then padd s.1 (pterm 1 (if x < 0 then s.2 - 1 else s.2)) (-1) else s.1,
   if 0 < x then (if x < 0 then s.2 - 1 else s.2) + 1 else if x < 0 then s.2 - 1 else s.2)
def foxS (i : Int) (w : List Int) : LP × Int := w.foldl (foxStep i) (pzero, 0)
def foxL (i : Int) (w : List Int) : LP := (foxS i w).1
def sg (x : Int) : Int := if 0 < x then 1 else -1
def expo : List Int → Int
  | [] => 0
  | x :: w => sg x + expo w
theorem expo_append (a b : List Int) : expo (a ++ b) = expo a + expo b := by
  induction a with
  | nil => simp [expo]
  | cons x a ih => rw [List.cons_append, expo, expo, ih]; omega
theorem expo_snoc (a : List Int) (x : Int) : expo (a ++ [x]) = expo a + sg x := by rw [expo_append]; simp [expo]
theorem expo_le (a : List Int) : -(a.length : Int) ≤ expo a ∧ expo a ≤ a.length := by
  induction a with
  | nil => simp [expo]
  | cons x a ih => rw [expo, List.length_cons]; unfold sg; split <;> omega
def dv (i : Int) (t : Rat) (x : Int) : Rat := if x = i then 1 else if x = -i then -t⁻¹ else 0
def der (i : Int) (t : Rat) : List Int → Rat
  | [] => 0
  | x :: w => dv i t x + t ^ sg x * der i t w
theorem der_append (i : Int) {t : Rat} (ht : t ≠ 0) (a b : List Int) : der i t (a ++ b) = der i t a + t ^ expo a * der i t b := by
  induction a with
  | nil => simp [der, expo]; grind
  | cons x a ih => rw [List.cons_append, der, der, ih, expo, Rat.zpow_add ht]; grind
theorem foxStep_exp (i : Int) (s : LP × Int) (x : Int) (h0 : x ≠ 0) : (foxStep i s x).2 = s.2 + sg x := by
  unfold foxStep sg
  simp only
  split <;> split <;> omega
theorem foxStep_ev (i : Int) (hi : 0 < i) (s : LP × Int) (x : Int) {t : Rat} (ht : t ≠ 0) : ev (foxStep i s x).1 t = ev s.1 t + t ^ s.2 * dv i t x := by
  unfold foxStep dv
  simp only
  by_cases h1 : x = i
  · rw [if_pos h1, if_pos h1, if_neg (by omega), ev_padd _ _ _ ht, ev_pterm _ _ ht]
    simp
  · rw [if_neg h1, if_neg h1]
    by_cases h2 : x = -i
    · rw [if_pos h2, if_pos h2, if_pos (by omega), ev_padd _ _ _ ht, ev_pterm _ _ ht, Rat.zpow_sub_one ht]
      simp
      grind
    · rw [if_neg h2, if_neg h2]
      grind
theorem foxS_snoc (i : Int) (w : List Int) (x : Int) : foxS i (w ++ [x]) = foxStep i (foxS i w) x := by simp [foxS]
theorem foxS_exp (i : Int) (w : List Int) : (∀ x ∈ w, x ≠ 0) → (foxS i w).2 = expo w := by
  obtain ⟨M, hM⟩ : ∃ M, M = w.reverse := ⟨_, rfl⟩
  obtain rfl : w = M.reverse := by rw [hM, List.reverse_reverse]
  clear hM
  induction M with
  | nil => intro _; rfl
  | cons x M ih =>
    intro h
    rw [List.reverse_cons] at h ⊢
    rw [foxS_snoc, foxStep_exp _ _ _ (h x (by simp)), ih fun y hy => h y (List.mem_append.2 (.inl hy)), expo_snoc]
theorem foxL_ev (i : Int) (hi : 0 < i) (w : List Int) {t : Rat} (ht : t ≠ 0) : (∀ x ∈ w, x ≠ 0) → ev (foxL i w) t = der i t w := by
  obtain ⟨M, hM⟩ : ∃ M, M = w.reverse := ⟨_, rfl⟩
  obtain rfl : w = M.reverse := by rw [hM, List.reverse_reverse]
  clear hM
  induction M with
  | nil => intro _; exact ev_pzero t
  | cons x M ih =>
    intro h
    rw [List.reverse_cons] at h ⊢
    have h1 : ∀ y ∈ M.reverse, y ≠ 0 := fun y hy => h y (List.mem_append.2 (.inl hy))
    unfold foxL at ih ⊢
    rw [foxS_snoc, foxStep_ev i hi _ _ ht, ih h1, foxS_exp i _ h1, der_append i ht, der, der]
    grind
theorem foxS_pb (i : Int) (w : List Int) : (∀ x ∈ w, x ≠ 0) → PB (foxL i w) (-(w.length : Int)) w.length w.length w.length := by
  obtain ⟨M, hM⟩ : ∃ M, M = w.reverse := ⟨_, rfl⟩
  obtain rfl : w = M.reverse := by rw [hM, List.reverse_reverse]
  clear hM
  induction M with
  | nil => intro _; exact ⟨pzero_trimmed, within_pzero _ _, Nat.le_refl 0, fun x hx => by cases hx⟩
  | cons x M ih =>
    intro h
    rw [List.reverse_cons] at h ⊢
    have h1 : ∀ y ∈ M.reverse, y ≠ 0 := fun y hy => h y (List.mem_append.2 (.inl hy))
    rw [List.length_append, List.length_cons, List.length_nil]
    have ih := ih h1
    have he := foxS_exp i _ h1
    have hb := expo_le M.reverse
    obtain ⟨L, hL⟩ : ∃ L, L = M.reverse.length := ⟨_, rfl⟩
    rw [← hL] at ih hb ⊢
    unfold foxL at ih ⊢
    rw [foxS_snoc]
    unfold foxStep
    simp only
    obtain ⟨e, hee⟩ : ∃ e, e = (if x < 0 then (foxS i M.reverse).2 - 1 else (foxS i M.reverse).2) := ⟨_, rfl⟩
    rw [← hee]
    have hee2 : -(L : Int) - 1 ≤ e ∧ e + 1 ≤ L + 1 := by rw [hee, he]; split <;> omega
    have hp : PB (pterm 1 e) (-(L : Int) - 1) (L + 1) 1 1 := (pterm_pb 1 e).mono hee2.1 hee2.2 (by decide) (by decide)
    have ih2 : PB (foxS i M.reverse).1 (-(L : Int) - 1) (L + 1) L L := ih.mono (by omega) (by omega) (by omega) (by omega)
    split
    · exact PB.mono (PB.add ih2 hp 1) (by omega) (by omega) (by simp) (by simp)
    · split
      · exact PB.mono (PB.add ih2 hp (-1)) (by omega) (by omega) (by simp) (by simp)
      · exact PB.mono ih2 (by omega) (by omega) (by omega) (by omega)
theorem foxL_trimmed (i : Int) (w : List Int) (h : ∀ x ∈ w, x ≠ 0) : Trimmed (foxL i w) := (foxS_pb i w h).tr

def unitP (n : Int) : LP := ⟨n, [1]⟩
theorem unitP_trimmed (n : Int) : Trimmed (unitP n) := ⟨fun h => (by cases h), fun _ => (by simp [unitP, nth]), fun _ => (by simp [unitP, nth])⟩
end Go.Proofs.Ytmcecmnbdcbehaa

