/- slices.Delete of one number, Clip, Compare; perm.Identity and Unrank, walked. -/
import Derived.Test.YtckopilciekfbaaQJonesOne0
import Derived.Test.YtckopilciekfbaaQJonesOne1
import Derived.Test.YtckopilciekfbaaQJonesOne2
import Derived.Test.YtckopilciekfbaaQJonesOne5
import Derived.Test.YtckopilciekfbaaQJonesOne6
import Derived.Test.YtckopilciekfbaaQJonesOne7
import Derived.Test.YtckopilciekfbaaQJonesOne8
import Derived.Test.YtckopilciekfbaaQJonesOne9
import Derived.Test.YtckopilciekfbaaQJonesOne10
import Derived.Test.YtckopilciekfbaaQJonesOne11
import Derived.Test.YtckopilciekfbaaQJonesOne13
import Derived.Test.YtckopilciekfbaaQJonesOne14
import Derived.Test.YtckopilciekfbaaQJonesOne15
import Derived.Test.YtckopilciekfbaaQJonesOne16
import Derived.Test.YtckopilciekfbaaQJonesOne17
import Derived.Test.YtckopilciekfbaaQJonesOne18
import Derived.Test.YtckopilciekfbaaQJonesOne19
import Derived.Test.YtckopilciekfbaaQJonesOne20
import Derived.Deep.MidRow
import Derived.Lib.AppendZeros
import Derived.Lib.Walk
import Derived.Lib.SliceRun
import Derived.RangeFuncNested
import Derived.RangeFuncBound
import Derived.RangeFuncCalls
import Derived.RangeFuncLeaves
import Derived.RangeFuncBox
import Derived.Shelf.Abstract
import Derived.Shelf.RegionOpen
import Derived.OwnWalkIn
import Derived.TacticsInMore
import Derived.LoopNIn
import Derived.LoopIn
import Derived.Maps.AppendAt
import Derived.Deep.CutRange
namespace Go.Proofs.Ytckopilciekfbaa
open Go.RowKit Go.Sl

theorem nth_addl (a b : List Int) (k : Int) : ∀ i, nth (addl a b k) i = nth a i + k * nth b i := by
  induction a generalizing b with
  | nil =>
    intro i
    rw [addl, nth_nil]
    rcases Nat.lt_or_ge i b.length with h | h
    · rw [nth_lt (by simpa using h), nth_lt h]; simp
    · rw [nth_ge (by simpa using h), nth_ge h]; simp
  | cons x a ih =>
    intro i
    cases b with
    | nil => rw [addl, nth_nil]; simp; simp
    | cons y b =>
      rw [addl]
      cases i with
      | zero => simp [nth_cons_zero]
      | succ i => rw [nth_cons_succ, nth_cons_succ, nth_cons_succ, ih]
theorem coef_mull (a b : List Int) (M : Nat) (h : ∀ x ∈ a, x.natAbs ≤ M) : ∀ k, (nth (mull a b) k).natAbs ≤ M * n1 (b.take (k + 1)) := by
  induction a with
  | nil => intro k; rw [mull, nth_nil]; simp
  | cons x a ih =>
    intro k
    rw [mull, nth_addl]
    have hx := h x (by simp)
    have ih' := ih fun y hy => h y (by simp [hy])
    have h1 := Int.natAbs_add_le (nth (0 :: mull a b) k) (x * nth b k)
    rw [Int.natAbs_mul] at h1
    have h2 : x.natAbs * (nth b k).natAbs ≤ M * (nth b k).natAbs := Nat.mul_le_mul_right _ hx
    have h3 : n1 (b.take (k + 1)) = n1 (b.take k) + (nth b k).natAbs := by
      rcases Nat.lt_or_ge k b.length with h | h
      · exact n1_take_succ b k h
      · rw [List.take_of_length_le (by omega), List.take_of_length_le h, nth_ge h]; simp
    rw [h3, Nat.mul_add]
    cases k with
    | zero => rw [nth_cons_zero] at h1 ⊢; simp only [Int.natAbs_zero] at h1; omega
    | succ k => rw [nth_cons_succ] at h1 ⊢; have := ih' k; omega
theorem mem_dropZ {l : List Int} {x : Int} (h : x ∈ dropZ l) : x ∈ l := by
  rw [(dropZ_zeros l).2]; exact List.mem_append_right _ h
theorem mem_dropE {l : List Int} {x : Int} (h : x ∈ dropE l) : x ∈ l := by
  rw [(dropE_zeros l).2]; exact List.mem_append_left _ h
theorem mem_trimP {low : Int} {c : List Int} {x : Int} (h : x ∈ (trimP low c).c) : x ∈ c := by
  unfold trimP at h
  split at h
  · cases h
  · exact mem_dropZ (mem_dropE h)

/-- Trimmed, with exponents from lo on before hi, the absolute values' sum at most n, each at most m. -/
structure PB (p : LP) (lo hi : Int) (n m : Nat) : Prop where
  tr : Trimmed p
  wi : Within p lo hi
  sum : n1 p.c ≤ n
  each : ∀ x ∈ p.c, x.natAbs ≤ m
theorem PB.ok {p : LP} {lo hi : Int} {n m : Nat} (h : PB p lo hi n m) (h1 : -1000 ≤ lo) (h2 : lo ≤ 0) (h3 : hi ≤ lo + 200) (_h5 : hi ≤ 1000) (hn : n ≤ 1000000000) (hm : m ≤ 100000000) : POk p := by
  rcases h.wi with hc | hc
  · have h0 := h.tr.zero hc
    exact ⟨by rw [hc]; simp, by omega, by omega, h.tr, by have := h.sum; omega, fun x hx => by rw [hc] at hx; cases hx⟩
  · refine ⟨by omega, by omega, ?_, h.tr, by have := h.sum; omega, fun x hx => by have := h.each x hx; omega⟩
    by_cases e : p.c = []
    · rw [h.tr.zero e]; omega
    · have := List.length_pos_iff.2 e; omega
theorem PB.mul {p q : LP} {lo hi lo' hi' : Int} {n m n' m' : Nat} (h : PB p lo hi n m) (k : PB q lo' hi' n' m') : PB (pmul p q) (lo + lo') (hi + hi' - 1) (n * n') (m * n') := by
  refine ⟨pmul_trimmed _ _, within_pmul h.wi k.wi, Nat.le_trans (n1_pmul _ _) (Nat.mul_le_mul h.sum k.sum), fun x hx => ?_⟩
  obtain ⟨i, hi, rfl⟩ := List.getElem_of_mem (mem_trimP hx)
  rw [← nth_lt hi]
  refine Nat.le_trans (coef_mull p.c q.c m h.each i) (Nat.mul_le_mul_left _ (Nat.le_trans (n1_take_le _ _) k.sum))
theorem PB.add {p q : LP} {lo hi : Int} {n m n' m' : Nat} (h : PB p lo hi n m) (k : PB q lo hi n' m') (c : Int) : PB (padd p q c) lo hi (n + c.natAbs * n') (m + c.natAbs * m') := by
  refine ⟨padd_trimmed _ _ _, within_padd h.wi k.wi c, Nat.le_trans (n1_padd _ _ _) (Nat.add_le_add h.sum (Nat.mul_le_mul_left _ k.sum)), fun x hx => ?_⟩
  have hadd : ∀ a b : List Int, (∀ y ∈ a, y.natAbs ≤ m) → (∀ y ∈ b, y.natAbs ≤ m') → ∀ y ∈ addl a b c, y.natAbs ≤ m + c.natAbs * m' := by
    intro a b ha hb y hy
    obtain ⟨i, hi, rfl⟩ := List.getElem_of_mem hy
    rw [← nth_lt hi, nth_addl]
    have h1 := Int.natAbs_add_le (nth a i) (c * nth b i)
    rw [Int.natAbs_mul] at h1
    have h2 : (nth a i).natAbs ≤ m := by
      rcases Nat.lt_or_ge i a.length with h | h
      · rw [nth_lt h]; exact ha _ (List.getElem_mem h)
      · rw [nth_ge h]; simp
    have h3 : (nth b i).natAbs ≤ m' := by
      rcases Nat.lt_or_ge i b.length with h | h
      · rw [nth_lt h]; exact hb _ (List.getElem_mem h)
      · rw [nth_ge h]; simp
    have h4 : c.natAbs * (nth b i).natAbs ≤ c.natAbs * m' := Nat.mul_le_mul_left _ h3
    omega
  have hsh : ∀ (B : Nat) (l : List Int) (d : Nat), (∀ y ∈ l, y.natAbs ≤ B) → ∀ y ∈ shiftl d l, y.natAbs ≤ B := by
    intro B l d hl y hy
    rcases List.mem_append.1 hy with h | h
    · have := (List.mem_replicate.1 h).2; subst this; simp
    · exact hl y h
  unfold padd at hx
  split at hx
  · have h1 := mem_trimP hx
    obtain ⟨y, hy, rfl⟩ := List.mem_map.1 h1
    rw [Int.natAbs_mul]
    have h4 : c.natAbs * y.natAbs ≤ c.natAbs * m' := Nat.mul_le_mul_left _ (k.each y hy)
    omega
  · split at hx
    · have := h.each x (mem_trimP hx); omega
    · exact hadd _ _ (hsh _ _ _ h.each) (hsh _ _ _ k.each) x (mem_trimP hx)
theorem PB.mono {p : LP} {lo hi lo' hi' : Int} {n m n' m' : Nat} (h : PB p lo hi n m) (h1 : lo' ≤ lo) (h2 : hi ≤ hi') (h3 : n ≤ n') (h4 : m ≤ m') : PB p lo' hi' n' m' :=
  ⟨h.tr, h.wi.mono h1 h2, Nat.le_trans h.sum h3, fun x hx => Nat.le_trans (h.each x hx) h4⟩
end Go.Proofs.Ytckopilciekfbaa

namespace Go.Proofs.Ytckopilciekfbaa
open Go.RowKit Go.Sl

def OwnGI (w : World) (B : Nat) (v : Value) (xs : List Int) : Prop := OwnG w B 3 v (xs.map (Value.int .i64))
section
variable {w w' : World} {B : Nat} {v : Value} {xs : List Int}
theorem OwnGI.ints (h : OwnGI w B v xs) : Ints w v xs := h.sl
theorem OwnGI.isSl (h : OwnGI w B v xs) : IsSl v := h.1
theorem OwnGI.len (h : OwnGI w B v xs) : vlen v = xs.length := by have := OwnG.len h; simpa using this
theorem OwnGI.cap (h : OwnGI w B v xs) : xs.length ≤ vcap v := by have := h.len; have := h.isSl.le; omega
theorem OwnGI.below (h : OwnGI w B v xs) (hb : Below w.heap.size w w') : OwnGI w' B v xs := OwnG.below h hb
theorem OwnGI.lt (h : OwnGI w B v xs) : ∀ k, row v = some k → B ≤ k ∧ k < w.heap.size := OwnG.lt h
theorem OwnGI.low (h : OwnGI w B v xs) {B' : Nat} (hB : B' ≤ B) : OwnGI w B' v xs := OwnG.low h hB
theorem OwnGI.setOther (h : OwnGI w B v xs) {p : Addr} (hp : ∀ k, row v = some k → p.block ≠ k) (u : Value) : OwnGI (w.setCell p u) B v xs := OwnG.setOther h hp u
theorem OwnGI.grown (h : OwnGI w B v xs) {r : Option Nat} (hg : w.grownBy w' r) (hr : ∀ k, row v = some k → r ≠ some k) : OwnGI w' B v xs := OwnG.grown h hg hr
theorem OwnGI.cell (h : OwnGI w B v xs) {k : Nat} (hk : k < xs.length) : w.cell? (vat v k) = some (.int .i64 (nth xs k)) := h.ints.cell hk
theorem ownGI_nil (w : World) (B : Nat) : OwnGI w B (.slice none 0 0) [] := ownG_nil _ _ _
theorem OwnI.g (h : OwnI w B v xs) : OwnGI w B v xs := own_G h
theorem OwnGI.tail {k : Nat} (h : OwnGI w B v (xs.drop k)) (hk : k < xs.length) : OwnGI w B (vcut v 1 (vlen v) (vcap v) 1) (xs.drop (k + 1)) := by
  rw [List.drop_eq_getElem_cons hk] at h
  exact OwnG.tail h
theorem OwnGI.head (h : OwnGI w B v xs) {k : Nat} (hk : k ≤ xs.length) : OwnGI w B (vcut v 0 k (vcap v) 1) (xs.take k) := by
  have := OwnG.head h (k := k) (by simpa using hk)
  rwa [← List.map_take] at this
end

end Go.Proofs.Ytckopilciekfbaa

namespace Go.Proofs.Ytckopilciekfbaa
open Go.RowKit Go.Sl

/-- Row r without column c. -/
def cutR (c : Nat) (r : List LP) : List LP := r.take c ++ r.drop (c + 1)
def restM (c : Nat) (m : List (List LP)) : List (List LP) := (m.drop 1).map (cutR c)
/-- A square matrix. -/
def SqM (n : Nat) (m : List (List LP)) : Prop := m.length = n ∧ ∀ i, i < n → (nthm m i).length = n
theorem restM_length (c : Nat) (m : List (List LP)) : (restM c m).length = m.length - 1 := by simp [restM]
theorem nthm_restM {c i : Nat} {m : List (List LP)} (h : i + 1 < m.length) : nthm (restM c m) i = cutR c (nthm m (i + 1)) := by
  rw [nthm_lt (by rw [restM_length]; omega), nthm_lt h]
  unfold restM
  rw [List.getElem_map, List.getElem_drop]
  congr 2; omega
theorem cutR_length {c : Nat} {r : List LP} (h : c < r.length) : (cutR c r).length = r.length - 1 := by simp [cutR]; omega
theorem SqM.rest {n c : Nat} {m : List (List LP)} (h : SqM (n + 1) m) (hc : c < n + 1) : SqM n (restM c m) := by
  refine ⟨by rw [restM_length, h.1]; omega, fun i hi => ?_⟩
  rw [nthm_restM (by rw [h.1]; omega), cutR_length (by rw [h.2 _ (by omega)]; exact hc), h.2 _ (by omega)]; omega

/-- Small enough for the program's sums and products. -/
def PFit (p : LP) : Prop := p.low.natAbs ≤ 100000 ∧ p.c.length ≤ 100000
end Go.Proofs.Ytckopilciekfbaa

namespace Go.Proofs.Ytckopilciekfbaa
open Go.RowKit Go.Sl

/-- The two rows of a letter. -/
def bm (x : Int) (c d : Nat) : LP :=
  if x < 0 then (if c = 0 then (if d = 0 then pzero else pterm 1 0) else (if d = 0 then pterm 1 (-1) else trimP (-1) [-1, 1]))
  else (if c = 0 then (if d = 0 then trimP 0 [1, -1] else pterm 1 1) else (if d = 0 then pterm 1 0 else pzero))
/-- A right word: letters of n strands. -/
def NWord (n : Nat) (xs : List Int) : Prop := ∀ x ∈ xs, x ≠ 0 ∧ x.natAbs < n
end Go.Proofs.Ytckopilciekfbaa

namespace Go.Proofs.Ytckopilciekfbaa
open Go.RowKit Go.Sl

theorem ints_cells {w : World} {u : Value} {xs : List Int} (h : Ints w u xs) {b : Nat} (hn : 0 < xs.length → vblk u ≠ b) (o : Nat) (vs : List Value) : Ints (w.setCells b o vs) u xs := by
  refine ⟨h.1, h.2.1, fun j x hx => ?_⟩
  have hj : j < xs.length := by have := (List.getElem?_eq_some_iff.1 hx).1; simpa using this
  rw [World.cell?_setCells_out b vs o w (vat u j) (fun e _ => absurd e (hn (by omega)))]
  exact h.2.2 j x hx
theorem below_cells {B b : Nat} {w0 : World} (hb : B ≤ b) : ∀ (vs : List Value) (o : Nat) (w : World), Below B w0 w → Below B w0 (w.setCells b o vs)
  | [], _, _, h => h
  | v :: r, o, _w, h => below_cells hb r (o + 1) _ (h.setCell (p := ⟨b, o, none⟩) hb v)
theorem size_cells (b : Nat) : ∀ (vs : List Value) (o : Nat) (w : World), (w.setCells b o vs).heap.size = w.heap.size
  | [], _, _ => rfl
  | v :: r, o, w => by rw [World.setCells, size_cells b r (o + 1)]; exact World.size_setCell _ _ _
/-- The cells of a letter's rows. -/
def mcs (x : Int) (u00 u01 u10 u11 : Value) : List Value := [.int .i64 (bm x 0 0).low, u00, .int .i64 (bm x 0 1).low, u01, .int .i64 (bm x 1 0).low, u10, .int .i64 (bm x 1 1).low, u11]
/-- The box b holds the rows of the letter x. -/
structure MB (R : Nat → Prop) (W0 W : World) (b : Nat) (x : Int) (u00 u01 u10 u11 : Value) : Prop where
  at_ : W.rangeAt b 0 (mcs x u00 u01 u10 u11)
  th : W.there b 0 8
  i00 : Ints W u00 (bm x 0 0).c
  i01 : Ints W u01 (bm x 0 1).c
  i10 : Ints W u10 (bm x 1 0).c
  i11 : Ints W u11 (bm x 1 1).c
  bel : Below W0.heap.size W0 W
  ge : W0.heap.size ≤ b
  lt : b < W.heap.size
  n00 : 0 < (bm x 0 0).c.length → vblk u00 ≠ b ∧ ¬ R (vblk u00)
  n01 : 0 < (bm x 0 1).c.length → vblk u01 ≠ b ∧ ¬ R (vblk u01)
  n10 : 0 < (bm x 1 0).c.length → vblk u10 ≠ b ∧ ¬ R (vblk u10)
  n11 : 0 < (bm x 1 1).c.length → vblk u11 ≠ b ∧ ¬ R (vblk u11)
theorem MB.make {R : Nat → Prop} {W0 w : World} {b : Nat} {x : Int} {u00 u01 u10 u11 : Value} (hb : Below W0.heap.size W0 w) (hge : W0.heap.size ≤ b) (hlt : b < w.heap.size) (ht : w.there b 0 8)
    (h00 : Ints w u00 (bm x 0 0).c) (h01 : Ints w u01 (bm x 0 1).c) (h10 : Ints w u10 (bm x 1 0).c) (h11 : Ints w u11 (bm x 1 1).c)
    (n00 : 0 < (bm x 0 0).c.length → vblk u00 ≠ b ∧ ¬ R (vblk u00)) (n01 : 0 < (bm x 0 1).c.length → vblk u01 ≠ b ∧ ¬ R (vblk u01)) (n10 : 0 < (bm x 1 0).c.length → vblk u10 ≠ b ∧ ¬ R (vblk u10)) (n11 : 0 < (bm x 1 1).c.length → vblk u11 ≠ b ∧ ¬ R (vblk u11)) :
    MB R W0 (w.setCells b 0 (mcs x u00 u01 u10 u11)) b x u00 u01 u10 u11 :=
  ⟨World.rangeAt_setCells_same w b 0 _ ht, World.there_setCells ht b 0 _, ints_cells h00 (fun h => (n00 h).1) 0 _, ints_cells h01 (fun h => (n01 h).1) 0 _, ints_cells h10 (fun h => (n10 h).1) 0 _, ints_cells h11 (fun h => (n11 h).1) 0 _, below_cells hge _ _ _ hb, hge, by rw [size_cells]; exact hlt, n00, n01, n10, n11⟩
theorem bm_same {x y : Int} (h : x < 0 ↔ y < 0) : bm x = bm y := by
  funext c d
  unfold bm
  by_cases hx : x < 0
  · rw [if_pos hx, if_pos (h.1 hx)]
  · rw [if_neg hx, if_neg (fun e => hx (h.2 e))]
theorem MB.same {R : Nat → Prop} {W0 W : World} {b : Nat} {x y : Int} {u00 u01 u10 u11 : Value} (m : MB R W0 W b x u00 u01 u10 u11) (h : x < 0 ↔ y < 0) : MB R W0 W b y u00 u01 u10 u11 := by
  have e := bm_same h
  obtain ⟨a1, a2, a3, a4, a5, a6, a7, a8, a9, b1, b2, b3, b4⟩ := m
  unfold mcs at a1
  rw [e] at a1 a3 a4 a5 a6 b1 b2 b3 b4
  exact ⟨a1, a2, a3, a4, a5, a6, a7, a8, a9, b1, b2, b3, b4⟩

/-! The numbers stay small. -/
structure Sm (p : LP) (N : Nat) : Prop where
  low : p.low.natAbs ≤ 1000
  len : p.c.length ≤ 1000
  sum : n1 p.c ≤ N
theorem Sm.of {p : LP} {lo hi : Int} {n m N : Nat} (h : PB p lo hi n m) (h1 : -100 ≤ lo) (h2 : hi ≤ 100) (h3 : n ≤ N) : Sm p N := by
  have hs := h.sum
  rcases h.wi with hc | hc
  · have := h.tr.zero hc
    exact ⟨by omega, by rw [hc]; simp, by omega⟩
  · by_cases e : p.c = []
    · have := h.tr.zero e
      exact ⟨by omega, by rw [e]; simp, by omega⟩
    · have := List.length_pos_iff.2 e
      exact ⟨by omega, by omega, by omega⟩
end Go.Proofs.Ytckopilciekfbaa

namespace Go.Proofs.Ytckopilciekfbaa
open Go.RowKit Go.Sl

def nthc (css : List (List Value)) (i : Nat) : List Value := css.getD i []
/-- A slice of slices of polynomials, each with its cells. -/
structure RowsC (w : World) (v : Value) (vs : List Value) (css : List (List Value)) : Prop where
  sl : Sl w v 1 vs
  len : vs.length = css.length
  row : ∀ i, i < css.length → Sl w (nthv vs i) 2 (nthc css i)
  one : ∀ i, i < css.length → ∀ u ∈ nthc css i, u.oneCell' = true
theorem RowsC.vlen {w : World} {v : Value} {vs : List Value} {css : List (List Value)} (h : RowsC w v vs css) : Go.Sl.vlen v = css.length := by have := h.sl.2.1; rw [h.len] at this; omega
theorem RowsC.cell {w : World} {v : Value} {vs : List Value} {css : List (List Value)} (h : RowsC w v vs css) {i : Nat} (hi : i < css.length) : w.cell? (vat v i) = some (nthv vs i) := by
  rw [nthv_lt (by rw [h.len]; exact hi)]; exact h.sl.cell (by rw [h.len]; exact hi)
theorem RowsC.below {w w' : World} {v : Value} {vs : List Value} {css : List (List Value)} (h : RowsC w v vs css) (hb : Below w.heap.size w w') : RowsC w' v vs css :=
  ⟨h.sl.below hb, h.len, fun i hi => (h.row i hi).below hb, h.one⟩
end Go.Proofs.Ytckopilciekfbaa

namespace Go.Proofs.Ytckopilciekfbaa
open Go.RowKit Go.Sl

def low : Nat → Nat → Nat
  | 0, _ => 0
  | f + 1, r => if r % 2 = 1 then 0 else low f (r / 2) + 1
end Go.Proofs.Ytckopilciekfbaa

namespace Go.Proofs.Ytckopilciekfbaa
open Go.RowKit Go.Sl

theorem grown_setCell {w w1 : World} {r : Option Nat} (h : w.grownBy w1 r) {p : Addr} (hp : r = some p.block) (u : Value) : w.grownBy (w1.setCell p u) r :=
  ⟨h.os, h.tape, h.output, by simpa using h.size, fun k hk hr => (Below.heap_setCell w1 p u k (fun e => hr (by rw [hp, e]))).trans (h.block k hk hr)⟩

end Go.Proofs.Ytckopilciekfbaa

