/- Fox derivatives: plain law. -/
import Derived.Test.YtckopilciekfbaaQColorCounts20
import Derived.Test.YtckopilciekfbaaQColorCounts21
import Derived.Test.YtckopilciekfbaaQColorCounts22
import Derived.Test.YtckopilciekfbaaQColorCounts23
import Derived.Test.YtckopilciekfbaaQColorCounts24
import Derived.Test.YtckopilciekfbaaQColorCounts25
import Derived.Test.YtckopilciekfbaaQColorCounts26
import Derived.Test.YtckopilciekfbaaQColorCounts27
import Derived.Test.YtckopilciekfbaaQColorCounts210
import Derived.Test.YtckopilciekfbaaQColorCounts212

namespace Go.Proofs.Ytckopilciekfbaa
open Go.RowKit Go.Sl

/-- What lies in memory between two rounds of Plus. -/
structure PlusSt (w wr : World) (la lb : Int) (sa sb : Value) (v : Value) (cs : List Int) : Prop where
  p1 : Pair wr w.heap.size 35 (.int .i64 la) sa
  p2 : Pair wr (w.heap.size + 1) 35 (.int .i64 lb) sb
  p3 : Pair wr (w.heap.size + 2) 35 (.int .i64 0) (.slice none 0 0)
  own : OwnI wr (w.heap.size + 3) v cs
  below : Below w.heap.size w wr
theorem PlusSt.set {w wr : World} {la lb : Int} {sa sb : Value} {v : Value} {cs : List Int} (h : PlusSt w wr la lb sa sb v cs) {i : Nat} (hi : i < cs.length) (x : Int) : PlusSt w (wr.setCell (vat v i) (.int .i64 x)) la lb sa sb v (cs.set i x) := by
  have hg : w.heap.size + 3 ≤ vblk v := h.own.ge hi
  exact ⟨h.p1.other (by omega) _ _, h.p2.other (by omega) _ _, h.p3.other (by omega) _ _, h.own.set hi x, h.below.setCell (p := vat v i) (by rw [vat_block]; omega) _⟩

end Go.Proofs.Ytckopilciekfbaa

namespace Go.Proofs.Ytckopilciekfbaa
open Go.RowKit Go.Sl

/-- A polynomial as Check wants it. -/
structure POk (p : LP) : Prop where
  len : p.c.length ≤ 200
  lo1 : -1000 ≤ p.low
  lo2 : p.low ≤ 1000
  tr : Trimmed p
  co : n1 p.c ≤ 1000000000 ∧ ∀ x ∈ p.c, -100000000 ≤ x ∧ x ≤ 100000000
theorem POk.of {p : LP} {lo hi : Int} (ht : Trimmed p) (hw : Within p lo hi) (h1 : -1000 ≤ lo) (h2 : lo ≤ 0) (h3 : hi ≤ lo + 200) (h5 : hi ≤ 1000) (hn : n1 p.c ≤ 100000000) : POk p := by
  rcases hw with h | h
  · have h0 := ht.zero h
    exact ⟨by rw [h]; simp, by omega, by omega, ht, by omega, fun x hx => by rw [h] at hx; cases hx⟩
  · refine ⟨by omega, by omega, ?_, ht, by omega, fun x hx => by have := n1_mem hx; omega⟩
    by_cases e : p.c = []
    · rw [ht.zero e]; omega
    · have := List.length_pos_iff.2 e; omega

end Go.Proofs.Ytckopilciekfbaa

namespace Go.Proofs.Ytckopilciekfbaa
open Go.RowKit Go.Sl

theorem nth_addl (a b : List Int) (k : Int) : ∀ i, nth (addl a b k) i = nth a i + k * nth b i := by
  induction a generalizing b with
  | nil =>
    intro i
    rw [addl, nth_nil]
    rcases Nat.lt_or_ge i b.length with h | h
    · rw [nth_lt (by simpa using h), nth_lt h]; simp
    · rw [nth_ge (by simpa using h), nth_ge h]; simp
  | cons x a ih =>
    intro i
    cases b with
    | nil => rw [addl, nth_nil]; simp; simp
    | cons y b =>
      rw [addl]
      cases i with
      | zero => simp [nth_cons_zero]
      | succ i => rw [nth_cons_succ, nth_cons_succ, nth_cons_succ, ih]
theorem coef_mull (a b : List Int) (M : Nat) (h : ∀ x ∈ a, x.natAbs ≤ M) : ∀ k, (nth (mull a b) k).natAbs ≤ M * n1 (b.take (k + 1)) := by
  induction a with
  | nil => intro k; rw [mull, nth_nil]; simp
  | cons x a ih =>
    intro k
    rw [mull, nth_addl]
    have hx := h x (by simp)
    have ih' := ih fun y hy => h y (by simp [hy])
    have h1 := Int.natAbs_add_le (nth (0 :: mull a b) k) (x * nth b k)
    rw [Int.natAbs_mul] at h1
    have h2 : x.natAbs * (nth b k).natAbs ≤ M * (nth b k).natAbs := Nat.mul_le_mul_right _ hx
    have h3 : n1 (b.take (k + 1)) = n1 (b.take k) + (nth b k).natAbs := by
      rcases Nat.lt_or_ge k b.length with h | h
      · exact n1_take_succ b k h
      · rw [List.take_of_length_le (by omega), List.take_of_length_le h, nth_ge h]; simp
    rw [h3, Nat.mul_add]
    cases k with
    | zero => rw [nth_cons_zero] at h1 ⊢; simp only [Int.natAbs_zero] at h1; omega
    | succ k => rw [nth_cons_succ] at h1 ⊢; have := ih' k; omega
theorem mem_dropZ {l : List Int} {x : Int} (h : x ∈ dropZ l) : x ∈ l := by
  rw [(dropZ_zeros l).2]; exact List.mem_append_right _ h
theorem mem_dropE {l : List Int} {x : Int} (h : x ∈ dropE l) : x ∈ l := by
  rw [(dropE_zeros l).2]; exact List.mem_append_left _ h
theorem mem_trimP {low : Int} {c : List Int} {x : Int} (h : x ∈ (trimP low c).c) : x ∈ c := by
  unfold trimP at h
  split at h
  · cases h
  · exact mem_dropZ (mem_dropE h)

/-- Trimmed, with exponents from lo on before hi, the absolute values' sum at most n, each at most m. -/
structure PB (p : LP) (lo hi : Int) (n m : Nat) : Prop where
  tr : Trimmed p
  wi : Within p lo hi
  sum : n1 p.c ≤ n
  each : ∀ x ∈ p.c, x.natAbs ≤ m
theorem PB.ok {p : LP} {lo hi : Int} {n m : Nat} (h : PB p lo hi n m) (h1 : -1000 ≤ lo) (h2 : lo ≤ 0) (h3 : hi ≤ lo + 200) (h5 : hi ≤ 1000) (hn : n ≤ 1000000000) (hm : m ≤ 100000000) : POk p := by
  rcases h.wi with hc | hc
  · have h0 := h.tr.zero hc
    exact ⟨by rw [hc]; simp, by omega, by omega, h.tr, by have := h.sum; omega, fun x hx => by rw [hc] at hx; cases hx⟩
  · refine ⟨by omega, by omega, ?_, h.tr, by have := h.sum; omega, fun x hx => by have := h.each x hx; omega⟩
    by_cases e : p.c = []
    · rw [h.tr.zero e]; omega
    · have := List.length_pos_iff.2 e; omega
theorem PB.mul {p q : LP} {lo hi lo' hi' : Int} {n m n' m' : Nat} (h : PB p lo hi n m) (k : PB q lo' hi' n' m') : PB (pmul p q) (lo + lo') (hi + hi' - 1) (n * n') (m * n') := by
  refine ⟨pmul_trimmed _ _, within_pmul h.wi k.wi, Nat.le_trans (n1_pmul _ _) (Nat.mul_le_mul h.sum k.sum), fun x hx => ?_⟩
  obtain ⟨i, hi, rfl⟩ := List.getElem_of_mem (mem_trimP hx)
  rw [← nth_lt hi]
  refine Nat.le_trans (coef_mull p.c q.c m h.each i) (Nat.mul_le_mul_left _ (Nat.le_trans (n1_take_le _ _) k.sum))
theorem PB.add {p q : LP} {lo hi : Int} {n m n' m' : Nat} (h : PB p lo hi n m) (k : PB q lo hi n' m') (c : Int) : PB (padd p q c) lo hi (n + c.natAbs * n') (m + c.natAbs * m') := by
  refine ⟨padd_trimmed _ _ _, within_padd h.wi k.wi c, Nat.le_trans (n1_padd _ _ _) (Nat.add_le_add h.sum (Nat.mul_le_mul_left _ k.sum)), fun x hx => ?_⟩
  have hadd : ∀ a b : List Int, (∀ y ∈ a, y.natAbs ≤ m) → (∀ y ∈ b, y.natAbs ≤ m') → ∀ y ∈ addl a b c, y.natAbs ≤ m + c.natAbs * m' := by
    intro a b ha hb y hy
    obtain ⟨i, hi, rfl⟩ := List.getElem_of_mem hy
    rw [← nth_lt hi, nth_addl]
    have h1 := Int.natAbs_add_le (nth a i) (c * nth b i)
    rw [Int.natAbs_mul] at h1
    have h2 : (nth a i).natAbs ≤ m := by
      rcases Nat.lt_or_ge i a.length with h | h
      · rw [nth_lt h]; exact ha _ (List.getElem_mem h)
      · rw [nth_ge h]; simp
    have h3 : (nth b i).natAbs ≤ m' := by
      rcases Nat.lt_or_ge i b.length with h | h
      · rw [nth_lt h]; exact hb _ (List.getElem_mem h)
      · rw [nth_ge h]; simp
    have h4 : c.natAbs * (nth b i).natAbs ≤ c.natAbs * m' := Nat.mul_le_mul_left _ h3
    omega
  have hsh : ∀ (B : Nat) (l : List Int) (d : Nat), (∀ y ∈ l, y.natAbs ≤ B) → ∀ y ∈ shiftl d l, y.natAbs ≤ B := by
    intro B l d hl y hy
    rcases List.mem_append.1 hy with h | h
    · have := (List.mem_replicate.1 h).2; subst this; simp
    · exact hl y h
  unfold padd at hx
  split at hx
  · have h1 := mem_trimP hx
    obtain ⟨y, hy, rfl⟩ := List.mem_map.1 h1
    rw [Int.natAbs_mul]
    have h4 : c.natAbs * y.natAbs ≤ c.natAbs * m' := Nat.mul_le_mul_left _ (k.each y hy)
    omega
  · split at hx
    · have := h.each x (mem_trimP hx); omega
    · exact hadd _ _ (hsh _ _ _ h.each) (hsh _ _ _ k.each) x (mem_trimP hx)
theorem PB.mono {p : LP} {lo hi lo' hi' : Int} {n m n' m' : Nat} (h : PB p lo hi n m) (h1 : lo' ≤ lo) (h2 : hi ≤ hi') (h3 : n ≤ n') (h4 : m ≤ m') : PB p lo' hi' n' m' :=
  ⟨h.tr, h.wi.mono h1 h2, Nat.le_trans h.sum h3, fun x hx => Nat.le_trans (h.each x hx) h4⟩
end Go.Proofs.Ytckopilciekfbaa

namespace Go.Proofs.Ytckopilciekfbaa
open Go.RowKit Go.Sl

/-- The two rows of a letter. -/
def bm (x : Int) (c d : Nat) : LP :=
  if x < 0 then (if c = 0 then (if d = 0 then pzero else pterm 1 0) else (if d = 0 then pterm 1 (-1) else trimP (-1) [-1, 1]))
  else (if c = 0 then (if d = 0 then trimP 0 [1, -1] else pterm 1 1) else (if d = 0 then pterm 1 0 else pzero))
/-- A right word: letters of n strands. -/
def NWord (n : Nat) (xs : List Int) : Prop := ∀ x ∈ xs, x ≠ 0 ∧ x.natAbs < n
end Go.Proofs.Ytckopilciekfbaa

namespace Go.Proofs.Ytckopilciekfbaa
open Go.RowKit Go.Sl

def sg (x : Int) : Int := if 0 < x then 1 else -1
def dv (i : Int) (t : Rat) (x : Int) : Rat := if x = i then 1 else if x = -i then -t⁻¹ else 0
end Go.Proofs.Ytckopilciekfbaa

