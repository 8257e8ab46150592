/- Rows of ints that are pushed one by one, in blocks of their own. -/
import Derived.Test.YtplekfgadbjgdaaQTopSums0
import Derived.Test.YtplekfgadbjgdaaQTopSums1
import Derived.Test.YtplekfgadbjgdaaQTopSums2
import Derived.Test.YtplekfgadbjgdaaQTopSums3
import Derived.Test.YtplekfgadbjgdaaQTopSums4
import Derived.Test.YtplekfgadbjgdaaQTopSums5
import Derived.Test.YtplekfgadbjgdaaQTopSums6
import Derived.Test.YtplekfgadbjgdaaQTopSums7
import Derived.Test.YtplekfgadbjgdaaQTopSums8
import Derived.Test.YtplekfgadbjgdaaQTopSums9
import Derived.Test.YtplekfgadbjgdaaQTopSums10
import Derived.Test.YtplekfgadbjgdaaQTopSums11
import Derived.Test.YtplekfgadbjgdaaQTopSums12
import Derived.Test.YtplekfgadbjgdaaQTopSums13
import Derived.Test.YtplekfgadbjgdaaQTopSums14
import Derived.Test.YtplekfgadbjgdaaQTopSums17
import Derived.Test.YtplekfgadbjgdaaQTopSums18
import Derived.Deep.MidRow
import Derived.RangeFuncNested
import Derived.RangeFuncBound
import Derived.RangeFuncCalls
import Derived.RangeFuncLeaves
import Derived.RangeFuncBox
import Derived.Shelf.Abstract
import Derived.Shelf.RegionOpen
import Derived.OwnWalkIn
import Derived.TacticsInMore
import Derived.LoopNIn
import Derived.LoopIn
import Derived.Maps.AppendAt
import Derived.Deep.RegionLaw
namespace Go.Proofs.Ytplekfgadbjgdaa
open Go.RowKit Go.Sl

theorem nth_addl (a b : List Int) (k : Int) : ∀ i, nth (addl a b k) i = nth a i + k * nth b i := by
  induction a generalizing b with
  | nil =>
    intro i
    rw [addl, nth_nil]
    rcases Nat.lt_or_ge i b.length with h | h
    · rw [nth_lt (by simpa using h), nth_lt h]; simp
    · rw [nth_ge (by simpa using h), nth_ge h]; simp
  | cons x a ih =>
    intro i
    cases b with
    | nil => rw [addl, nth_nil]; simp; simp
    | cons y b =>
      rw [addl]
      cases i with
      | zero => simp [nth_cons_zero]
      | succ i => rw [nth_cons_succ, nth_cons_succ, nth_cons_succ, ih]
theorem coef_mull (a b : List Int) (M : Nat) (h : ∀ x ∈ a, x.natAbs ≤ M) : ∀ k, (nth (mull a b) k).natAbs ≤ M * n1 (b.take (k + 1)) := by
  induction a with
  | nil => intro k; rw [mull, nth_nil]; simp
  | cons x a ih =>
    intro k
    rw [mull, nth_addl]
    have hx := h x (by simp)
    have ih' := ih fun y hy => h y (by simp [hy])
    have h1 := Int.natAbs_add_le (nth (0 :: mull a b) k) (x * nth b k)
    rw [Int.natAbs_mul] at h1
    have h2 : x.natAbs * (nth b k).natAbs ≤ M * (nth b k).natAbs := Nat.mul_le_mul_right _ hx
    have h3 : n1 (b.take (k + 1)) = n1 (b.take k) + (nth b k).natAbs := by
      rcases Nat.lt_or_ge k b.length with h | h
      · exact n1_take_succ b k h
      · rw [List.take_of_length_le (by omega), List.take_of_length_le h, nth_ge h]; simp
    rw [h3, Nat.mul_add]
    cases k with
    | zero => rw [nth_cons_zero] at h1 ⊢; simp only [Int.natAbs_zero] at h1; omega
    | succ k => rw [nth_cons_succ] at h1 ⊢; have := ih' k; omega
theorem mem_dropZ {l : List Int} {x : Int} (h : x ∈ dropZ l) : x ∈ l := by
  rw [(dropZ_zeros l).2]; exact List.mem_append_right _ h
theorem mem_dropE {l : List Int} {x : Int} (h : x ∈ dropE l) : x ∈ l := by
  rw [(dropE_zeros l).2]; exact List.mem_append_left _ h
theorem mem_trimP {low : Int} {c : List Int} {x : Int} (h : x ∈ (trimP low c).c) : x ∈ c := by
  unfold trimP at h
  split at h
  · cases h
  · exact mem_dropZ (mem_dropE h)

/-- Trimmed, with exponents from lo on before hi, the absolute values' sum at most n, each at most m. -/
structure PB (p : LP) (lo hi : Int) (n m : Nat) : Prop where
  tr : Trimmed p
  wi : Within p lo hi
  sum : n1 p.c ≤ n
  each : ∀ x ∈ p.c, x.natAbs ≤ m
theorem PB.ok {p : LP} {lo hi : Int} {n m : Nat} (h : PB p lo hi n m) (h1 : -1000 ≤ lo) (h2 : lo ≤ 0) (h3 : hi ≤ lo + 200) (_h5 : hi ≤ 1000) (hn : n ≤ 1000000000) (hm : m ≤ 100000000) : POk p := by
  rcases h.wi with hc | hc
  · have h0 := h.tr.zero hc
    exact ⟨by rw [hc]; simp, by omega, by omega, h.tr, by have := h.sum; omega, fun x hx => by rw [hc] at hx; cases hx⟩
  · refine ⟨by omega, by omega, ?_, h.tr, by have := h.sum; omega, fun x hx => by have := h.each x hx; omega⟩
    by_cases e : p.c = []
    · rw [h.tr.zero e]; omega
    · have := List.length_pos_iff.2 e; omega
theorem PB.mul {p q : LP} {lo hi lo' hi' : Int} {n m n' m' : Nat} (h : PB p lo hi n m) (k : PB q lo' hi' n' m') : PB (pmul p q) (lo + lo') (hi + hi' - 1) (n * n') (m * n') := by
  refine ⟨pmul_trimmed _ _, within_pmul h.wi k.wi, Nat.le_trans (n1_pmul _ _) (Nat.mul_le_mul h.sum k.sum), fun x hx => ?_⟩
  obtain ⟨i, hi, rfl⟩ := List.getElem_of_mem (mem_trimP hx)
  rw [← nth_lt hi]
  refine Nat.le_trans (coef_mull p.c q.c m h.each i) (Nat.mul_le_mul_left _ (Nat.le_trans (n1_take_le _ _) k.sum))
theorem PB.add {p q : LP} {lo hi : Int} {n m n' m' : Nat} (h : PB p lo hi n m) (k : PB q lo hi n' m') (c : Int) : PB (padd p q c) lo hi (n + c.natAbs * n') (m + c.natAbs * m') := by
  refine ⟨padd_trimmed _ _ _, within_padd h.wi k.wi c, Nat.le_trans (n1_padd _ _ _) (Nat.add_le_add h.sum (Nat.mul_le_mul_left _ k.sum)), fun x hx => ?_⟩
  have hadd : ∀ a b : List Int, (∀ y ∈ a, y.natAbs ≤ m) → (∀ y ∈ b, y.natAbs ≤ m') → ∀ y ∈ addl a b c, y.natAbs ≤ m + c.natAbs * m' := by
    intro a b ha hb y hy
    obtain ⟨i, hi, rfl⟩ := List.getElem_of_mem hy
    rw [← nth_lt hi, nth_addl]
    have h1 := Int.natAbs_add_le (nth a i) (c * nth b i)
    rw [Int.natAbs_mul] at h1
    have h2 : (nth a i).natAbs ≤ m := by
      rcases Nat.lt_or_ge i a.length with h | h
      · rw [nth_lt h]; exact ha _ (List.getElem_mem h)
      · rw [nth_ge h]; simp
    have h3 : (nth b i).natAbs ≤ m' := by
      rcases Nat.lt_or_ge i b.length with h | h
      · rw [nth_lt h]; exact hb _ (List.getElem_mem h)
      · rw [nth_ge h]; simp
    have h4 : c.natAbs * (nth b i).natAbs ≤ c.natAbs * m' := Nat.mul_le_mul_left _ h3
    omega
  have hsh : ∀ (B : Nat) (l : List Int) (d : Nat), (∀ y ∈ l, y.natAbs ≤ B) → ∀ y ∈ shiftl d l, y.natAbs ≤ B := by
    intro B l d hl y hy
    rcases List.mem_append.1 hy with h | h
    · have := (List.mem_replicate.1 h).2; subst this; simp
    · exact hl y h
  unfold padd at hx
  split at hx
  · have h1 := mem_trimP hx
    obtain ⟨y, hy, rfl⟩ := List.mem_map.1 h1
    rw [Int.natAbs_mul]
    have h4 : c.natAbs * y.natAbs ≤ c.natAbs * m' := Nat.mul_le_mul_left _ (k.each y hy)
    omega
  · split at hx
    · have := h.each x (mem_trimP hx); omega
    · exact hadd _ _ (hsh _ _ _ h.each) (hsh _ _ _ k.each) x (mem_trimP hx)
theorem PB.mono {p : LP} {lo hi lo' hi' : Int} {n m n' m' : Nat} (h : PB p lo hi n m) (h1 : lo' ≤ lo) (h2 : hi ≤ hi') (h3 : n ≤ n') (h4 : m ≤ m') : PB p lo' hi' n' m' :=
  ⟨h.tr, h.wi.mono h1 h2, Nat.le_trans h.sum h3, fun x hx => Nat.le_trans (h.each x hx) h4⟩
theorem pterm_pb (c e : Int) : PB (pterm c e) e (e + 1) c.natAbs c.natAbs :=
  ⟨pterm_trimmed c e, within_pterm c e, n1_pterm c e, fun x hx => by have := mem_trimP hx; simp at this; rw [this]; omega⟩

end Go.Proofs.Ytplekfgadbjgdaa

namespace Go.Proofs.Ytplekfgadbjgdaa
open Go.RowKit Go.Sl

def OwnGI (w : World) (B : Nat) (v : Value) (xs : List Int) : Prop := OwnG w B 3 v (xs.map (Value.int .i64))
section
variable {w w' : World} {B : Nat} {v : Value} {xs : List Int}
theorem OwnGI.ints (h : OwnGI w B v xs) : Ints w v xs := h.sl
theorem OwnGI.isSl (h : OwnGI w B v xs) : IsSl v := h.1
theorem OwnGI.len (h : OwnGI w B v xs) : vlen v = xs.length := by have := OwnG.len h; simpa using this
theorem OwnGI.cap (h : OwnGI w B v xs) : xs.length ≤ vcap v := by have := h.len; have := h.isSl.le; omega
theorem OwnGI.below (h : OwnGI w B v xs) (hb : Below w.heap.size w w') : OwnGI w' B v xs := OwnG.below h hb
theorem OwnGI.lt (h : OwnGI w B v xs) : ∀ k, row v = some k → B ≤ k ∧ k < w.heap.size := OwnG.lt h
theorem OwnGI.low (h : OwnGI w B v xs) {B' : Nat} (hB : B' ≤ B) : OwnGI w B' v xs := OwnG.low h hB
theorem OwnGI.setOther (h : OwnGI w B v xs) {p : Addr} (hp : ∀ k, row v = some k → p.block ≠ k) (u : Value) : OwnGI (w.setCell p u) B v xs := OwnG.setOther h hp u
theorem OwnGI.grown (h : OwnGI w B v xs) {r : Option Nat} (hg : w.grownBy w' r) (hr : ∀ k, row v = some k → r ≠ some k) : OwnGI w' B v xs := OwnG.grown h hg hr
theorem OwnGI.cell (h : OwnGI w B v xs) {k : Nat} (hk : k < xs.length) : w.cell? (vat v k) = some (.int .i64 (nth xs k)) := h.ints.cell hk
theorem ownGI_nil (w : World) (B : Nat) : OwnGI w B (.slice none 0 0) [] := ownG_nil _ _ _
theorem OwnI.g (h : OwnI w B v xs) : OwnGI w B v xs := own_G h
theorem OwnGI.tail {k : Nat} (h : OwnGI w B v (xs.drop k)) (hk : k < xs.length) : OwnGI w B (vcut v 1 (vlen v) (vcap v) 1) (xs.drop (k + 1)) := by
  rw [List.drop_eq_getElem_cons hk] at h
  exact OwnG.tail h
theorem OwnGI.head (h : OwnGI w B v xs) {k : Nat} (hk : k ≤ xs.length) : OwnGI w B (vcut v 0 k (vcap v) 1) (xs.take k) := by
  have := OwnG.head h (k := k) (by simpa using hk)
  rwa [← List.map_take] at this
end

end Go.Proofs.Ytplekfgadbjgdaa

namespace Go.Proofs.Ytplekfgadbjgdaa
open Go.RowKit Go.Sl

/-- The sum of f 0, -f 1, f 2, .. -/
def expTo (f : Nat → LP) : Nat → LP
  | 0 => pzero
  | c + 1 => padd (expTo f c) (f c) (if c % 2 = 0 then 1 else -1)
/-- Row r without column c. -/
def cutR (c : Nat) (r : List LP) : List LP := r.take c ++ r.drop (c + 1)
def restM (c : Nat) (m : List (List LP)) : List (List LP) := (m.drop 1).map (cutR c)
def expandL : Nat → List (List LP) → LP
  | 0, _ => pterm 1 0
  | n + 1, m => expTo (fun c => pmul (nthp (nthm m 0) c) (expandL n (restM c m))) (n + 1)

/-- A square matrix. -/
def SqM (n : Nat) (m : List (List LP)) : Prop := m.length = n ∧ ∀ i, i < n → (nthm m i).length = n
theorem restM_length (c : Nat) (m : List (List LP)) : (restM c m).length = m.length - 1 := by simp [restM]
theorem nthm_restM {c i : Nat} {m : List (List LP)} (h : i + 1 < m.length) : nthm (restM c m) i = cutR c (nthm m (i + 1)) := by
  rw [nthm_lt (by rw [restM_length]; omega), nthm_lt h]
  unfold restM
  rw [List.getElem_map, List.getElem_drop]
  congr 2; omega
theorem cutR_length {c : Nat} {r : List LP} (h : c < r.length) : (cutR c r).length = r.length - 1 := by simp [cutR]; omega
theorem nthp_cutR {c j : Nat} {r : List LP} (h : c < r.length) (_hj : j < r.length - 1) : nthp (cutR c r) j = nthp r (Go.Det.skp c j) := by
  unfold nthp cutR Go.Det.skp
  rw [List.getD_eq_getElem?_getD, List.getD_eq_getElem?_getD]
  by_cases e : j < c
  · rw [if_pos e, List.getElem?_append_left (by rw [List.length_take]; omega), List.getElem?_take, if_pos e]
  · rw [if_neg e, List.getElem?_append_right (by rw [List.length_take]; omega), List.getElem?_drop, List.length_take, show min c r.length = c by omega]
    congr 2; omega
theorem SqM.rest {n c : Nat} {m : List (List LP)} (h : SqM (n + 1) m) (hc : c < n + 1) : SqM n (restM c m) := by
  refine ⟨by rw [restM_length, h.1]; omega, fun i hi => ?_⟩
  rw [nthm_restM (by rw [h.1]; omega), cutR_length (by rw [h.2 _ (by omega)]; exact hc), h.2 _ (by omega)]; omega

theorem expTo_trimmed (f : Nat → LP) (c : Nat) : Trimmed (expTo f c) := by
  cases c with
  | zero => exact ⟨fun _ => rfl, fun h => absurd rfl h, fun h => absurd rfl h⟩
  | succ c => exact padd_trimmed _ _ _
theorem expandL_trimmed (n : Nat) (m : List (List LP)) : Trimmed (expandL n m) := by
  cases n with
  | zero => exact pterm_trimmed _ _
  | succ n => exact expTo_trimmed _ _
theorem ev_expTo {t : Rat} (ht : t ≠ 0) (f : Nat → LP) (c : Nat) : ev (expTo f c) t = Go.Det.sumN (fun k => Go.Det.sgN k * ev (f k) t) c := by
  induction c with
  | zero => exact ev_pzero t
  | succ c ih =>
    rw [expTo, ev_padd _ _ _ ht, ih, Go.Det.sumN]
    unfold Go.Det.sgN
    by_cases h : c % 2 = 0
    · rw [if_pos h, if_pos h]; simp
    · rw [if_neg h, if_neg h]; simp
/-- The values of the entries. -/
def evM (m : List (List LP)) (t : Rat) (i j : Nat) : Rat := ev (nthp (nthm m i) j) t
theorem ev_expandL {t : Rat} (ht : t ≠ 0) (n : Nat) : ∀ m : List (List LP), SqM n m → ev (expandL n m) t = Go.Det.dt n (evM m t) := by
  induction n with
  | zero => intro m _; show ev (pterm 1 0) t = 1; rw [ev_pterm _ _ ht]; simp
  | succ n ih =>
    intro m h
    rw [expandL, ev_expTo ht, Go.Det.dt]
    refine Go.Det.sumN_congr _ fun c hc => ?_
    rw [ev_pmul _ _ ht, ih _ (h.rest hc)]
    rw [show Go.Det.sgN c * evM m t 0 c * Go.Det.dt n (fun i j => evM m t (i + 1) (Go.Det.skp c j)) = Go.Det.sgN c * (ev (nthp (nthm m 0) c) t * Go.Det.dt n (fun i j => evM m t (i + 1) (Go.Det.skp c j))) from Rat.mul_assoc _ _ _]
    congr 2
    refine Go.Det.dt_congr fun i j hi hj => ?_
    unfold evM
    rw [nthm_restM (by rw [h.1]; omega), nthp_cutR (by rw [h.2 _ (by omega)]; exact hc) (by rw [h.2 _ (by omega)]; omega)]

/-- Small enough for the program's sums and products. -/
def PFit (p : LP) : Prop := p.low.natAbs ≤ 100000 ∧ p.c.length ≤ 100000
/-- All that is computed on the way fits. -/
def ExpFit : Nat → List (List LP) → Prop
  | 0, _ => True
  | n + 1, m => ∀ c, c < n + 1 → PFit (nthp (nthm m 0) c) ∧ PFit (expandL n (restM c m)) ∧ n1 (nthp (nthm m 0) c).c * n1 (expandL n (restM c m)).c ≤ 4000000000000000000 ∧
      PFit (expTo (fun c => pmul (nthp (nthm m 0) c) (expandL n (restM c m))) c) ∧ PFit (pmul (nthp (nthm m 0) c) (expandL n (restM c m))) ∧
      n1 (expTo (fun c => pmul (nthp (nthm m 0) c) (expandL n (restM c m))) c).c + 1000 * n1 (pmul (nthp (nthm m 0) c) (expandL n (restM c m))).c ≤ 4000000000000000000 ∧ ExpFit n (restM c m)

end Go.Proofs.Ytplekfgadbjgdaa

namespace Go.Proofs.Ytplekfgadbjgdaa
open Go.RowKit Go.Sl

/-- The two rows of a letter. -/
def bm (x : Int) (c d : Nat) : LP :=
  if x < 0 then (if c = 0 then (if d = 0 then pzero else pterm 1 0) else (if d = 0 then pterm 1 (-1) else trimP (-1) [-1, 1]))
  else (if c = 0 then (if d = 0 then trimP 0 [1, -1] else pterm 1 1) else (if d = 0 then pterm 1 0 else pzero))
def bent (x : Int) (a b : LP) (d : Nat) : LP := padd (pmul a (bm x 0 d)) (pmul b (bm x 1 d)) 1
/-- A letter's step on a row. -/
def brow (x : Int) (ps : List LP) : List LP :=
  (ps.set (x.natAbs - 1) (bent x (nthp ps (x.natAbs - 1)) (nthp ps x.natAbs) 0)).set x.natAbs (bent x (nthp ps (x.natAbs - 1)) (nthp ps x.natAbs) 1)
def urow (n i : Nat) : List LP := (List.replicate n pzero).set i (pterm 1 0)
def unitM (n : Nat) : List (List LP) := (List.range n).map (urow n)
def burauM (n : Nat) (xs : List Int) : List (List LP) := xs.foldl (fun m x => m.map (brow x)) (unitM n)
def rowM (n : Nat) (xs : List Int) (i : Nat) : List LP := xs.foldl (fun r x => brow x r) (urow n i)

theorem burauM_eq (n : Nat) (xs : List Int) : burauM n xs = (List.range n).map (rowM n xs) := by
  have : ∀ (xs : List Int) (f : Nat → List LP), xs.foldl (fun m x => m.map (brow x)) ((List.range n).map f) = (List.range n).map (fun i => xs.foldl (fun r x => brow x r) (f i)) := by
    intro xs
    induction xs with
    | nil => intro f; rfl
    | cons x t ih => intro f; rw [List.foldl_cons, List.map_map, ih]; rfl
  exact this xs _
theorem brow_length (x : Int) (ps : List LP) : (brow x ps).length = ps.length := by simp [brow]
theorem urow_length (n i : Nat) : (urow n i).length = n := by simp [urow]
theorem rowM_length (n : Nat) (xs : List Int) (i : Nat) : (rowM n xs i).length = n := by
  have : ∀ (xs : List Int) (r : List LP), (xs.foldl (fun r x => brow x r) r).length = r.length := by
    intro xs
    induction xs with
    | nil => intro r; rfl
    | cons x t ih => intro r; rw [List.foldl_cons, ih, brow_length]
  rw [rowM, this, urow_length]
theorem burauM_length (n : Nat) (xs : List Int) : (burauM n xs).length = n := by rw [burauM_eq]; simp
theorem nthm_burauM (n : Nat) (xs : List Int) {i : Nat} (h : i < n) : nthm (burauM n xs) i = rowM n xs i := by
  rw [burauM_eq, nthm_lt (by simpa using h)]; simp
theorem nthp_brow {x : Int} {ps : List LP} {k : Nat} (hk : k < ps.length) (_h0 : x ≠ 0) : nthp (brow x ps) k =
    if k = x.natAbs then bent x (nthp ps (x.natAbs - 1)) (nthp ps x.natAbs) 1 else if k = x.natAbs - 1 then bent x (nthp ps (x.natAbs - 1)) (nthp ps x.natAbs) 0 else nthp ps k := by
  unfold brow
  rw [nthp_set (by simpa using hk), nthp_set hk]

/-- The step on the values at t; p is the letter's first column. -/
def bactP (t : Rat) (p : Nat) (f : Nat → Rat) (k : Nat) : Rat := if k = p then f p * (1 - t) + f (p + 1) else if k = p + 1 then f p * t else f k
def bactN (t : Rat) (p : Nat) (f : Nat → Rat) (k : Nat) : Rat := if k = p then f (p + 1) * t⁻¹ else if k = p + 1 then f p + f (p + 1) * (1 - t⁻¹) else f k
def bact (t : Rat) (x : Int) (f : Nat → Rat) : Nat → Rat := if x < 0 then bactN t (x.natAbs - 1) f else bactP t (x.natAbs - 1) f
def bacts (t : Rat) (xs : List Int) (f : Nat → Rat) : Nat → Rat := xs.foldl (fun g x => bact t x g) f
theorem bacts_append (t : Rat) (xs ys : List Int) (f : Nat → Rat) : bacts t (xs ++ ys) f = bacts t ys (bacts t xs f) := by simp [bacts, List.foldl_append]

theorem ev_bm {t : Rat} (ht : t ≠ 0) (x : Int) (c d : Nat) : ev (bm x c d) t =
    if x < 0 then (if c = 0 then (if d = 0 then 0 else 1) else (if d = 0 then t⁻¹ else 1 - t⁻¹)) else (if c = 0 then (if d = 0 then 1 - t else t) else (if d = 0 then 1 else 0)) := by
  have h1 : t ^ (-1 : Int) = t⁻¹ := by rw [Rat.zpow_neg]; simp
  have h2 : t⁻¹ * t = 1 := Rat.inv_mul_cancel t ht
  unfold bm
  have h0 : t ^ (0 : Int) = 1 := Rat.zpow_zero t
  have h3 : t ^ (1 : Int) = t := by simp
  split <;> split <;> split <;> simp only [ev_pzero, ev_pterm _ _ ht, ev_trimP _ _ ht, evL, h1, h0, h3] <;> grind
theorem ev_bent {t : Rat} (ht : t ≠ 0) (x : Int) (a b : LP) (d : Nat) : ev (bent x a b d) t = ev a t * ev (bm x 0 d) t + ev b t * ev (bm x 1 d) t := by
  unfold bent
  rw [ev_padd _ _ _ ht, ev_pmul _ _ ht, ev_pmul _ _ ht]; simp
theorem ev_brow {t : Rat} (ht : t ≠ 0) {x : Int} {ps : List LP} (h0 : x ≠ 0) (k : Nat) (hk : k < ps.length) :
    ev (nthp (brow x ps) k) t = bact t x (fun j => ev (nthp ps j) t) k := by
  obtain ⟨p, hp⟩ : ∃ p : Nat, x.natAbs = p + 1 := ⟨x.natAbs - 1, by omega⟩
  rw [nthp_brow hk h0]
  unfold bact bactP bactN
  rw [hp, Nat.add_sub_cancel]
  by_cases hx : x < 0
  · rw [if_pos hx]
    by_cases h1 : k = p + 1
    · subst h1
      rw [if_pos rfl, if_neg (by omega), if_pos rfl, ev_bent ht, ev_bm ht, ev_bm ht]
      simp [hx]
    · rw [if_neg h1]
      by_cases h2 : k = p
      · subst h2
        rw [if_pos rfl, if_pos rfl, ev_bent ht, ev_bm ht, ev_bm ht]
        simp [hx]; grind
      · rw [if_neg h2, if_neg h2, if_neg h1]
  · rw [if_neg hx]
    by_cases h1 : k = p + 1
    · subst h1
      rw [if_pos rfl, if_neg (by omega), if_pos rfl, ev_bent ht, ev_bm ht, ev_bm ht]
      simp [hx]; grind
    · rw [if_neg h1]
      by_cases h2 : k = p
      · subst h2
        rw [if_pos rfl, if_pos rfl, ev_bent ht, ev_bm ht, ev_bm ht]
        simp [hx]
      · rw [if_neg h2, if_neg h2, if_neg h1]

/-- A right word: letters of n strands. -/
def NWord (n : Nat) (xs : List Int) : Prop := ∀ x ∈ xs, x ≠ 0 ∧ x.natAbs < n
theorem bact_congr {t : Rat} {x : Int} {f g : Nat → Rat} {n : Nat} (h : ∀ k, k < n → f k = g k) (hx : x ≠ 0) (hn : x.natAbs < n) : ∀ k, k < n → bact t x f k = bact t x g k := by
  intro k hk
  have h1 := h (x.natAbs - 1) (by omega)
  have h2 := h (x.natAbs - 1 + 1) (by omega)
  have h3 := h k hk
  unfold bact bactP bactN
  split <;> simp only [h1, h2, h3]
theorem bacts_congr {t : Rat} {n : Nat} : ∀ (xs : List Int) (f g : Nat → Rat), NWord n xs → (∀ k, k < n → f k = g k) → ∀ k, k < n → bacts t xs f k = bacts t xs g k := by
  intro xs
  induction xs with
  | nil => intro f g _ h; exact h
  | cons x s ih =>
    intro f g hw h
    exact ih _ _ (fun y hy => hw y (by simp [hy])) (bact_congr h (hw x (by simp)).1 (hw x (by simp)).2)
theorem ev_rows {t : Rat} (ht : t ≠ 0) {n : Nat} : ∀ (xs : List Int) (r : List LP), r.length = n → NWord n xs → ∀ k, k < n → ev (nthp (xs.foldl (fun r x => brow x r) r) k) t = bacts t xs (fun j => ev (nthp r j) t) k := by
  intro xs
  induction xs with
  | nil => intro r _ _ k _; rfl
  | cons x s ih =>
    intro r hr hw k hk
    have hx := hw x (by simp)
    have hws : NWord n s := fun y hy => hw y (by simp [hy])
    rw [List.foldl_cons, ih _ (by rw [brow_length, hr]) hws k hk]
    exact bacts_congr s _ _ hws (fun j hj => ev_brow ht hx.1 j (by omega)) k hk
def unitV (i : Nat) (k : Nat) : Rat := if k = i then 1 else 0
theorem nthp_urow {n i k : Nat} (hk : k < n) : nthp (urow n i) k = if k = i then pterm 1 0 else pzero := by
  unfold urow
  rw [nthp_set (by simpa using hk)]
  split
  · rfl
  · rw [nthp_lt (by simpa using hk)]; simp
theorem ev_rowM {t : Rat} (ht : t ≠ 0) {n : Nat} {xs : List Int} (hw : NWord n xs) (i k : Nat) (hk : k < n) : ev (nthp (rowM n xs i) k) t = bacts t xs (unitV i) k := by
  unfold rowM
  rw [ev_rows ht xs _ (urow_length n i) hw k hk]
  refine bacts_congr xs _ _ hw (fun j hj => ?_) k hk
  rw [nthp_urow hj]
  unfold unitV
  split
  · rw [ev_pterm _ _ ht]; simp
  · exact ev_pzero t
theorem trimmed_brow {x : Int} {ps : List LP} (h : ∀ k, k < ps.length → Trimmed (nthp ps k)) (h0 : x ≠ 0) : ∀ k, k < ps.length → Trimmed (nthp (brow x ps) k) := by
  intro k hk
  rw [nthp_brow hk h0]
  split
  · exact padd_trimmed _ _ _
  · split
    · exact padd_trimmed _ _ _
    · exact h k hk
theorem trimmed_rowM {n : Nat} {xs : List Int} (hw : NWord n xs) (i : Nat) : ∀ k, k < n → Trimmed (nthp (rowM n xs i) k) := by
  have : ∀ (xs : List Int) (r : List LP), NWord n xs → r.length = n → (∀ k, k < n → Trimmed (nthp r k)) → ∀ k, k < n → Trimmed (nthp (xs.foldl (fun r x => brow x r) r) k) := by
    intro xs
    induction xs with
    | nil => intro r _ _ h; exact h
    | cons x s ih =>
      intro r hw hr h
      exact ih _ (fun y hy => hw y (by simp [hy])) (by rw [brow_length, hr]) (by rw [← hr] at h ⊢; exact trimmed_brow h (hw x (by simp)).1)
  refine this xs _ hw (urow_length n i) fun k hk => ?_
  rw [nthp_urow hk]
  split
  · exact pterm_trimmed _ _
  · exact pzero_trimmed
theorem pb_bm (x : Int) (c d : Nat) : PB (bm x c d) (-1) 2 2 1 := by
  have hz : PB pzero (-1) 2 2 1 := ⟨pzero_trimmed, within_pzero _ _, by simp [pzero, n1], fun x hx => by cases hx⟩
  have ht : ∀ e : Int, -1 ≤ e → e ≤ 1 → PB (pterm 1 e) (-1) 2 2 1 := fun e h1 h2 => (pterm_pb 1 e).mono (by omega) (by omega) (by decide) (by decide)
  have hl : ∀ (e a b : Int), -1 ≤ e → e ≤ 0 → a.natAbs ≤ 1 → b.natAbs ≤ 1 → PB (trimP e [a, b]) (-1) 2 2 1 := fun e a b h1 h2 ha hb =>
    ⟨trimP_trimmed _ _, (within_trimP e [a, b]).mono (by omega) (by simp; omega), Nat.le_trans (n1_trimP _ _) (by simp [n1]; omega), fun x hx => by
      have := mem_trimP hx
      simp at this
      rcases this with rfl | rfl <;> assumption⟩
  unfold bm
  split <;> split <;> split
  · exact hz
  · exact ht 0 (by omega) (by omega)
  · exact ht (-1) (by omega) (by omega)
  · exact hl (-1) (-1) 1 (by omega) (by omega) (by decide) (by decide)
  · exact hl 0 1 (-1) (by omega) (by omega) (by decide) (by decide)
  · exact ht 1 (by omega) (by omega)
  · exact ht 0 (by omega) (by omega)
  · exact hz
theorem pb_bent {x : Int} {a b : LP} {m : Int} {N : Nat} (ha : PB a (-m) (m + 1) N N) (hb : PB b (-m) (m + 1) N N) (d : Nat) : PB (bent x a b d) (-(m + 1)) (m + 1 + 1) (4 * N) (4 * N) :=
  ((ha.mul (pb_bm x 0 d)).add (hb.mul (pb_bm x 1 d)) 1).mono (by omega) (by omega) (by simp; omega) (by simp; omega)
theorem pb_brow {x : Int} {ps : List LP} {m : Int} {N : Nat} (h0 : x ≠ 0) (hx : x.natAbs < ps.length) (h : ∀ k, k < ps.length → PB (nthp ps k) (-m) (m + 1) N N) : ∀ k, k < ps.length → PB (nthp (brow x ps) k) (-(m + 1)) (m + 1 + 1) (4 * N) (4 * N) := by
  intro k hk
  have h1 := h (x.natAbs - 1) (by omega)
  have h2 := h x.natAbs hx
  rw [nthp_brow hk h0]
  split
  · exact pb_bent h1 h2 1
  · split
    · exact pb_bent h1 h2 0
    · exact (h k hk).mono (by omega) (by omega) (by omega) (by omega)
theorem pb_rows {n : Nat} : ∀ (xs : List Int) (r : List LP) (m : Int) (N : Nat), NWord n xs → r.length = n → (∀ k, k < n → PB (nthp r k) (-m) (m + 1) N N) →
    ∀ k, k < n → PB (nthp (xs.foldl (fun r x => brow x r) r) k) (-(m + xs.length)) (m + xs.length + 1) (4 ^ xs.length * N) (4 ^ xs.length * N) := by
  intro xs
  induction xs with
  | nil => intro r m N _ _ h k hk; exact (h k hk).mono (by simp) (by simp) (by simp) (by simp)
  | cons x s ih =>
    intro r m N hw hr h k hk
    have h1 := pb_brow (hw x (by simp)).1 (by rw [hr]; exact (hw x (by simp)).2) (by rw [hr]; exact h)
    rw [hr] at h1
    refine (ih (brow x r) (m + 1) (4 * N) (fun y hy => hw y (by simp [hy])) (by rw [brow_length, hr]) h1 k hk).mono (by simp; omega) (by simp; omega) ?_ ?_ <;>
      (simp only [List.length_cons, Nat.pow_succ]; rw [Nat.mul_assoc]; omega)
theorem pb_rowM {n : Nat} {xs : List Int} (hw : NWord n xs) (i : Nat) {k : Nat} (hk : k < n) : PB (nthp (rowM n xs i) k) (-(xs.length : Int)) (xs.length + 1) (4 ^ xs.length) (4 ^ xs.length) := by
  have := pb_rows xs (urow n i) 0 1 hw (urow_length n i) (fun k hk => by
    rw [nthp_urow hk]
    split
    · exact (pterm_pb 1 0).mono (by omega) (by omega) (by decide) (by decide)
    · exact ⟨pzero_trimmed, within_pzero _ _, by simp [pzero, n1], fun x hx => by cases hx⟩) k hk
  unfold rowM
  simpa using this

/-! The relations. -/
end Go.Proofs.Ytplekfgadbjgdaa

namespace Go.Proofs.Ytplekfgadbjgdaa
open Go.RowKit Go.Sl

theorem keeps_cells {W w : World} {R : Nat → Prop} (h : Keeps W R w) {b : Nat} (hb : R b) (o : Nat) (vs : List Value) : Keeps W R (w.setCells b o vs) := by
  intro p u hp hn
  rw [World.cell?_setCells_out b vs o w p (fun e _ => absurd hb (by rw [← e]; exact hn))]
  exact h p u hp hn
theorem ints_cells {w : World} {u : Value} {xs : List Int} (h : Ints w u xs) {b : Nat} (hn : 0 < xs.length → vblk u ≠ b) (o : Nat) (vs : List Value) : Ints (w.setCells b o vs) u xs := by
  refine ⟨h.1, h.2.1, fun j x hx => ?_⟩
  have hj : j < xs.length := by have := (List.getElem?_eq_some_iff.1 hx).1; simpa using this
  rw [World.cell?_setCells_out b vs o w (vat u j) (fun e _ => absurd e (hn (by omega)))]
  exact h.2.2 j x hx
theorem below_cells {B b : Nat} {w0 : World} (hb : B ≤ b) : ∀ (vs : List Value) (o : Nat) (w : World), Below B w0 w → Below B w0 (w.setCells b o vs)
  | [], _, _, h => h
  | v :: r, o, _w, h => below_cells hb r (o + 1) _ (h.setCell (p := ⟨b, o, none⟩) hb v)
theorem size_cells (b : Nat) : ∀ (vs : List Value) (o : Nat) (w : World), (w.setCells b o vs).heap.size = w.heap.size
  | [], _, _ => rfl
  | v :: r, o, w => by rw [World.setCells, size_cells b r (o + 1)]; exact World.size_setCell _ _ _
theorem there_of {w : World} {b : Nat} {cs : Array Value} {t : TypeId} (h : w.heap[b]? = some (.cells cs t (0, 0))) : w.there b 0 cs.size := by
  intro j hj
  simp [World.cell?, World.frozen?, h, hj]
theorem there_below {w w' : World} {b n : Nat} (h : w.there b 0 n) (hb : Below w.heap.size w w') : w'.there b 0 n := by
  intro j hj
  obtain ⟨h1, h2⟩ := h j hj
  obtain ⟨u, hu⟩ := Option.isSome_iff_exists.1 h1
  exact ⟨by rw [cell_keep hb hu]; rfl, by rw [hb.frozen (World.block_lt_of_cell? w _ hu)]; exact h2⟩

/-- The cells of a letter's rows. -/
def mcs (x : Int) (u00 u01 u10 u11 : Value) : List Value := [.int .i64 (bm x 0 0).low, u00, .int .i64 (bm x 0 1).low, u01, .int .i64 (bm x 1 0).low, u10, .int .i64 (bm x 1 1).low, u11]
/-- The box b holds the rows of the letter x. -/
structure MB (R : Nat → Prop) (W0 W : World) (b : Nat) (x : Int) (u00 u01 u10 u11 : Value) : Prop where
  at_ : W.rangeAt b 0 (mcs x u00 u01 u10 u11)
  th : W.there b 0 8
  i00 : Ints W u00 (bm x 0 0).c
  i01 : Ints W u01 (bm x 0 1).c
  i10 : Ints W u10 (bm x 1 0).c
  i11 : Ints W u11 (bm x 1 1).c
  bel : Below W0.heap.size W0 W
  ge : W0.heap.size ≤ b
  lt : b < W.heap.size
  n00 : 0 < (bm x 0 0).c.length → vblk u00 ≠ b ∧ ¬ R (vblk u00)
  n01 : 0 < (bm x 0 1).c.length → vblk u01 ≠ b ∧ ¬ R (vblk u01)
  n10 : 0 < (bm x 1 0).c.length → vblk u10 ≠ b ∧ ¬ R (vblk u10)
  n11 : 0 < (bm x 1 1).c.length → vblk u11 ≠ b ∧ ¬ R (vblk u11)
theorem MB.make {R : Nat → Prop} {W0 w : World} {b : Nat} {x : Int} {u00 u01 u10 u11 : Value} (hb : Below W0.heap.size W0 w) (hge : W0.heap.size ≤ b) (hlt : b < w.heap.size) (ht : w.there b 0 8)
    (h00 : Ints w u00 (bm x 0 0).c) (h01 : Ints w u01 (bm x 0 1).c) (h10 : Ints w u10 (bm x 1 0).c) (h11 : Ints w u11 (bm x 1 1).c)
    (n00 : 0 < (bm x 0 0).c.length → vblk u00 ≠ b ∧ ¬ R (vblk u00)) (n01 : 0 < (bm x 0 1).c.length → vblk u01 ≠ b ∧ ¬ R (vblk u01)) (n10 : 0 < (bm x 1 0).c.length → vblk u10 ≠ b ∧ ¬ R (vblk u10)) (n11 : 0 < (bm x 1 1).c.length → vblk u11 ≠ b ∧ ¬ R (vblk u11)) :
    MB R W0 (w.setCells b 0 (mcs x u00 u01 u10 u11)) b x u00 u01 u10 u11 :=
  ⟨World.rangeAt_setCells_same w b 0 _ ht, World.there_setCells ht b 0 _, ints_cells h00 (fun h => (n00 h).1) 0 _, ints_cells h01 (fun h => (n01 h).1) 0 _, ints_cells h10 (fun h => (n10 h).1) 0 _, ints_cells h11 (fun h => (n11 h).1) 0 _, below_cells hge _ _ _ hb, hge, by rw [size_cells]; exact hlt, n00, n01, n10, n11⟩
theorem mcs_one {x : Int} {u00 u01 u10 u11 : Value} (h00 : IsSl u00) (h01 : IsSl u01) (h10 : IsSl u10) (h11 : IsSl u11) : (mcs x u00 u01 u10 u11).toArray.all (·.oneCell') = true := by
  refine all_oneCell_toArray fun v hv => ?_
  simp only [mcs, List.mem_cons, List.not_mem_nil, or_false] at hv
  rcases hv with rfl | rfl | rfl | rfl | rfl | rfl | rfl | rfl <;> first | rfl | exact oneCell'_sl (by assumption)
theorem bm_n00 : bm (-1) 0 0 = pzero := by simp [bm]
theorem bm_n01 : bm (-1) 0 1 = pterm 1 0 := by simp [bm]
theorem bm_n10 : bm (-1) 1 0 = pterm 1 (-1) := by simp [bm]
theorem bm_n11 : bm (-1) 1 1 = trimP (-1) [-1, 1] := by simp [bm]
theorem mcs_n (u00 u01 u10 u11 : Value) : mcs (-1) u00 u01 u10 u11 = [.int .i64 0, u00, .int .i64 (pterm 1 0).low, u01, .int .i64 (pterm 1 (-1)).low, u10, .int .i64 (trimP (-1) [-1, 1]).low, u11] := by unfold mcs; rw [bm_n00, bm_n01, bm_n10, bm_n11]; rfl
theorem bm_same {x y : Int} (h : x < 0 ↔ y < 0) : bm x = bm y := by
  funext c d
  unfold bm
  by_cases hx : x < 0
  · rw [if_pos hx, if_pos (h.1 hx)]
  · rw [if_neg hx, if_neg (fun e => hx (h.2 e))]
theorem MB.same {R : Nat → Prop} {W0 W : World} {b : Nat} {x y : Int} {u00 u01 u10 u11 : Value} (m : MB R W0 W b x u00 u01 u10 u11) (h : x < 0 ↔ y < 0) : MB R W0 W b y u00 u01 u10 u11 := by
  have e := bm_same h
  obtain ⟨a1, a2, a3, a4, a5, a6, a7, a8, a9, b1, b2, b3, b4⟩ := m
  unfold mcs at a1
  rw [e] at a1 a3 a4 a5 a6 b1 b2 b3 b4
  exact ⟨a1, a2, a3, a4, a5, a6, a7, a8, a9, b1, b2, b3, b4⟩

/-! The numbers stay small. -/
structure Sm (p : LP) (N : Nat) : Prop where
  low : p.low.natAbs ≤ 1000
  len : p.c.length ≤ 1000
  sum : n1 p.c ≤ N
theorem Sm.of {p : LP} {lo hi : Int} {n m N : Nat} (h : PB p lo hi n m) (h1 : -100 ≤ lo) (h2 : hi ≤ 100) (h3 : n ≤ N) : Sm p N := by
  have hs := h.sum
  rcases h.wi with hc | hc
  · have := h.tr.zero hc
    exact ⟨by omega, by rw [hc]; simp, by omega⟩
  · by_cases e : p.c = []
    · have := h.tr.zero e
      exact ⟨by omega, by rw [e]; simp, by omega⟩
    · have := List.length_pos_iff.2 e
      exact ⟨by omega, by omega, by omega⟩
theorem bm_sm (x : Int) (c d : Nat) : Sm (bm x c d) 2 := Sm.of (pb_bm x c d) (by omega) (by omega) (Nat.le_refl _)
theorem entry_sm {n : Nat} {xs : List Int} (hw : NWord n xs) (hl : xs.length ≤ 20) (i : Nat) {k : Nat} (hk : k < n) : PB (nthp (rowM n xs i) k) (-20) 21 1099511627776 1099511627776 := by
  have h4 : 4 ^ xs.length ≤ 1099511627776 := by
    have := Nat.pow_le_pow_right (show 0 < 4 by decide) hl
    simpa using this
  exact (pb_rowM hw i hk).mono (by omega) (by omega) h4 h4
theorem mul_sm {a : LP} (h : PB a (-20) 21 1099511627776 1099511627776) (x : Int) (c d : Nat) : Sm (pmul a (bm x c d)) 2199023255552 := Sm.of (h.mul (pb_bm x c d)) (by omega) (by omega) (by omega)
theorem times_sm (a b : LP) (sa sb : Value) (w : World) (ha : Ints w sa a.c) (hb : Ints w sb b.c) (h1 : PB a (-20) 21 1099511627776 1099511627776) (h2 : Sm b 2) :
    Calls Try.prog 70 #[.agg #[.int .i64 a.low, sa], .agg #[.int .i64 b.low, sb]] w fun e w' => ∃ s, e = .returned (.agg #[.int .i64 (pmul a b).low, s]) ∧ OwnI w' w.heap.size s (pmul a b).c ∧ Below w.heap.size w w' := by
  have k1 := Sm.of h1 (by omega) (by omega) (Nat.le_refl _)
  have l1 := k1.low; have l2 := h2.low; have c1 := k1.len; have c2 := h2.len
  have := Nat.mul_le_mul k1.sum h2.sum
  exact ltimes_calls a b sa sb w ha hb (by omega) (by omega) (by omega) (by omega) (by omega)
theorem plus_sm (a b : LP) (sa sb : Value) (w : World) (ha : Ints w sa a.c) (hb : Ints w sb b.c) (h1 : Sm a 2199023255552) (h2 : Sm b 2199023255552) :
    Calls Try.prog 77 #[.agg #[.int .i64 a.low, sa], .agg #[.int .i64 b.low, sb], .int .i64 1] w fun e w' => ∃ s, e = .returned (.agg #[.int .i64 (padd a b 1).low, s]) ∧ OwnI w' w.heap.size s (padd a b 1).c ∧ Below w.heap.size w w' := by
  have l1 := h1.low; have l2 := h2.low; have c1 := h1.len; have c2 := h2.len; have n1' := h1.sum; have n2' := h2.sum
  exact plus_calls a b 1 sa sb w ha hb (by omega) (by omega) (by omega) (by omega) (by decide) (by omega)

/-! The rows one after the other. -/
def rst (x : Int) (p : Nat) (row : List LP) (A B : LP) (k : Nat) : List LP :=
  if k = 0 then row else if k = 1 then row.set p (bent x A B 0) else (row.set p (bent x A B 0)).set (p + 1) (bent x A B 1)
theorem rst_length (x : Int) (p : Nat) (row : List LP) (A B : LP) (k : Nat) : (rst x p row A B k).length = row.length := by
  unfold rst; split
  · rfl
  · split <;> simp
theorem rst_step0 {x : Int} {p : Nat} {row : List LP} {A B : LP} {M : List (List LP)} {r : Nat} (hr : r < M.length) :
    (M.set r (rst x p row A B 0)).set r ((nthm (M.set r (rst x p row A B 0)) r).set p (bent x A B 0)) = M.set r (rst x p row A B 1) := by
  rw [nthm_set hr, if_pos rfl, List.set_set]; rfl
theorem rst_step1 {x : Int} {p : Nat} {row : List LP} {A B : LP} {M : List (List LP)} {r : Nat} (hr : r < M.length) :
    (M.set r (rst x p row A B 1)).set r ((nthm (M.set r (rst x p row A B 1)) r).set (p + 1) (bent x A B 1)) = M.set r (rst x p row A B 2) := by
  rw [nthm_set hr, if_pos rfl, List.set_set]; rfl
theorem set_nthm {M : List (List LP)} {r : Nat} (hr : r < M.length) : M.set r (nthm M r) = M := by
  rw [nthm_lt hr]; simp
theorem rst_last {x : Int} {p : Nat} (hp : x.natAbs = p + 1) (row : List LP) : rst x p row (nthp row p) (nthp row (p + 1)) 2 = brow x row := by
  unfold rst brow
  rw [hp]; rfl
theorem rows_next (f : List LP → List LP) (M : List (List LP)) (r : Nat) (hr : r < M.length) : ((M.take r).map f ++ M.drop r).set r (f (nthm M r)) = (M.take (r + 1)).map f ++ M.drop (r + 1) := by
  rw [List.set_append_right _ _ (by simp; omega), List.drop_eq_getElem_cons hr]
  have e : r - ((M.take r).map f).length = 0 := by simp; omega
  rw [e, List.set_cons_zero, ← List.take_append_getElem (h := hr), nthm_lt hr, List.map_append]
  simp only [List.map_cons, List.map_nil, List.append_assoc, List.cons_append, List.nil_append]
theorem burauM_succ (n : Nat) (xs : List Int) {m : Nat} (hm : m < xs.length) : burauM n (xs.take (m + 1)) = (burauM n (xs.take m)).map (brow (nth xs m)) := by
  rw [← List.take_append_getElem (h := hm), nth_lt hm]
  unfold burauM
  rw [List.foldl_append]
  rfl

end Go.Proofs.Ytplekfgadbjgdaa

namespace Go.Proofs.Ytplekfgadbjgdaa
open Go.RowKit Go.Sl

/-- A matrix of polynomials that may be read. -/
structure MRead (W : World) (v : Value) (vs : List Value) (m : List (List LP)) : Prop where
  sl : Sl W v 1 vs
  len : vs.length = m.length
  row : ∀ i, i < m.length → ∃ us, PRead W (nthv vs i) us (nthm m i)
theorem PMat.mread {W : World} {B : Nat} {v : Value} {vs : List Value} {m : List (List LP)} (h : PMat W B v vs m) (hl : vs.length = m.length) : MRead W v vs m :=
  ⟨h.own.sl, hl, fun i hi => let ⟨us, k⟩ := h.row i hi; ⟨us, k.read⟩⟩
theorem MRead.isSl {W : World} {v : Value} {vs : List Value} {m : List (List LP)} (h : MRead W v vs m) : IsSl v := h.sl.1
theorem MRead.vlen {W : World} {v : Value} {vs : List Value} {m : List (List LP)} (h : MRead W v vs m) : Go.Sl.vlen v = m.length := by have := h.sl.2.1; rw [h.len] at this; omega
theorem MRead.below {W W' : World} {v : Value} {vs : List Value} {m : List (List LP)} (h : MRead W v vs m) (hb : Below W.heap.size W W') : MRead W' v vs m :=
  ⟨h.sl.below hb, h.len, fun i hi => let ⟨us, k⟩ := h.row i hi; ⟨us, k.below hb⟩⟩
theorem MRead.cell {W : World} {v : Value} {vs : List Value} {m : List (List LP)} (h : MRead W v vs m) {i : Nat} (hi : i < m.length) : W.cell? (vat v i) = some (nthv vs i) := by
  have hi' : i < vs.length := by rw [h.len]; exact hi
  rw [nthv_lt hi']; exact h.sl.cell hi'

end Go.Proofs.Ytplekfgadbjgdaa

namespace Go.Proofs.Ytplekfgadbjgdaa
open Go.RowKit Go.Sl

def sg (x : Int) : Int := if 0 < x then 1 else -1
def dv (i : Int) (t : Rat) (x : Int) : Rat := if x = i then 1 else if x = -i then -t⁻¹ else 0
end Go.Proofs.Ytplekfgadbjgdaa

namespace Go.Proofs.Ytplekfgadbjgdaa
open Go.RowKit Go.Sl

theorem IsWord.small {xs : List Int} (h : IsWord xs) : ∀ x ∈ xs, -1000 ≤ x ∧ x ≤ 1000 := fun x hx => by have := h x hx; omega
theorem IsWord.inv {xs : List Int} (h : IsWord xs) : IsWord (invL xs) := by
  intro x hx
  simp only [invL, List.mem_reverse, List.mem_map] at hx
  obtain ⟨y, hy, rfl⟩ := hx
  have := h y hy
  omega
theorem IsWord.red {xs : List Int} (h : IsWord xs) : IsWord (redL xs) := fun x hx => h x (redL_mem hx)
theorem IsWord.append {xs ys : List Int} (h : IsWord xs) (k : IsWord ys) : IsWord (xs ++ ys) := fun x hx => (List.mem_append.1 hx).elim (h x) (k x)
end Go.Proofs.Ytplekfgadbjgdaa

namespace Go.Proofs.Ytplekfgadbjgdaa
open Go.RowKit Go.Sl

def s4 (a b c d e f g h : Int) : Int := a * e + b * f + c * g + d * h
end Go.Proofs.Ytplekfgadbjgdaa

namespace Go.Proofs.Ytplekfgadbjgdaa
open Go.RowKit Go.Sl

theorem take_succ_nth (xs : List Int) (k : Nat) (h : k < xs.length) : xs.take (k + 1) = xs.take k ++ [nth xs k] := by
  rw [List.take_succ_eq_append_getElem h, nth_lt h]
end Go.Proofs.Ytplekfgadbjgdaa

namespace Go.Proofs.Ytplekfgadbjgdaa
open Go.RowKit Go.Sl

/-- The slice is the call's own, and holds these marks. -/
def OwnB (w : World) (B : Nat) (v : Value) (D : List Bool) : Prop := Go.Sl.Own w B 4 1 v (D.map Value.bool)
section
variable {w w' : World} {v : Value} {D : List Bool} {B : Nat}
theorem OwnB.isSl (h : OwnB w B v D) : IsSl v := h.1
theorem OwnB.len (h : OwnB w B v D) : vlen v = D.length := by have := h.2.1; simp at this; omega
theorem OwnB.cell (h : OwnB w B v D) {k : Nat} (hk : k < D.length) : w.cell? (vat v k) = some (.bool (at? D k)) := by
  have := Own.cell h (j := k) (by simpa using hk)
  rw [this]
  simp [at?, hk]
theorem OwnB.frozen (h : OwnB w B v D) {k : Nat} (hk : k < D.length) : w.frozen? (vat v k) = false := Go.Sl.Own.frozen h (by simpa using hk)
theorem OwnB.set (h : OwnB w B v D) {k : Nat} (hk : k < D.length) (x : Bool) : OwnB (w.setCell (vat v k) (.bool x)) B v (D.set k x) := by
  have := Go.Sl.Own.set h (j := k) (by simpa using hk) (.bool x)
  unfold OwnB
  rwa [List.map_set]
theorem OwnB.below (h : OwnB w B v D) (hb : Below w.heap.size w w') : OwnB w' B v D := Go.Sl.Own.below h hb
theorem OwnB.grown (h : OwnB w B v D) {r : Option Nat} (hg : w.grownBy w' r) (hr : ∀ k, row v = some k → r ≠ some k) : OwnB w' B v D := Go.Sl.Own.grown h hg hr
theorem OwnB.alloc (h : OwnB w B v D) (o : Obj) : OwnB (w.alloc o) B v D := Go.Sl.Own.alloc h o
end
end Go.Proofs.Ytplekfgadbjgdaa

namespace Go.Proofs.Ytplekfgadbjgdaa
open Go.RowKit Go.Sl

theorem ints_ne_int : (22 : TypeId) ≠ 3 := by decide
/-- The call's own slice of rows; each row in a block of ints of the call's own. -/
structure LRows (W : World) (B : Nat) (v : Value) (vs : List Value) (C : List (List Int)) : Prop where
  own : Go.Sl.Own W B 22 1 v vs
  len : vs.length = C.length
  row : ∀ i, i < C.length → OwnI W B (nthv vs i) (nthr C i)
/-- Own blocks of different types are different ones. -/
theorem own_twoT {W : World} {B B' : Nat} {e e' : TypeId} (hne : e ≠ e') {s s' : Nat} {u v : Value} {cs ds : List Value} (h : Go.Sl.Own W B e s u cs) (k : Go.Sl.Own W B' e' s' v ds) : ∀ b, Go.Sl.row u = some b → Go.Sl.row v ≠ some b := by
  intro b hb hb'
  obtain ⟨h0, rfl⟩ := row_eq hb
  obtain ⟨k0, e1⟩ := row_eq hb'
  obtain ⟨_, _, c1, x1, _⟩ := h.2.2 h0
  obtain ⟨_, _, c2, x2, _⟩ := k.2.2 k0
  rw [e1, x1] at x2
  injection x2 with x2
  injection x2 with _ x3
  exact hne x3
theorem nthv_snocL (us : List Value) (c : Value) (j : Nat) : nthv (us ++ [c]) j = if j = us.length then c else nthv us j := by
  unfold nthv
  by_cases e : j = us.length
  · subst e; simp
  · rw [if_neg e, List.getD_eq_getElem?_getD, List.getD_eq_getElem?_getD]
    rcases Nat.lt_or_ge j us.length with h | h
    · rw [List.getElem?_append_left h]
    · rw [List.getElem?_append_right h, List.getElem?_eq_none (by simp; omega), List.getElem?_eq_none h]
theorem nthr_snocL (C : List (List Int)) (r : List Int) (j : Nat) : nthr (C ++ [r]) j = if j = C.length then r else nthr C j := by
  unfold nthr
  by_cases e : j = C.length
  · subst e; simp
  · rw [if_neg e, List.getD_eq_getElem?_getD, List.getD_eq_getElem?_getD]
    rcases Nat.lt_or_ge j C.length with h | h
    · rw [List.getElem?_append_left h]
    · rw [List.getElem?_append_right h, List.getElem?_eq_none (by simp; omega), List.getElem?_eq_none h]
section
variable {w w1 w2 : World} {D : Nat}
theorem Kp.below (h : w.grownBy w1 (some D)) (hb : Below w.heap.size w1 w2) : w.grownBy w2 (some D) :=
  ⟨hb.os.trans h.os, hb.tape.trans h.tape, hb.output.trans h.output, Nat.le_trans h.size hb.size, fun k hk hr => (hb.block k hk).trans (h.block k hk hr)⟩
theorem Kp.grown (h : w.grownBy w1 (some D)) {r : Option Nat} (hg : w1.grownBy w2 r) (hr : ∀ k, r = some k → w.heap.size ≤ k) : w.grownBy w2 (some D) :=
  ⟨hg.os.trans h.os, hg.tape.trans h.tape, hg.output.trans h.output, Nat.le_trans h.size hg.size, fun k hk hr2 => (hg.block k (Nat.lt_of_lt_of_le hk h.size) fun e => by have := hr k e.symm; omega).trans (h.block k hk hr2)⟩
end
section
variable {W W' : World} {B : Nat} {v : Value} {vs : List Value} {C : List (List Int)}
theorem LRows.below (h : LRows W B v vs C) (hb : Below W.heap.size W W') : LRows W' B v vs C := ⟨h.own.below hb, h.len, fun i hi => (h.row i hi).below hb⟩
theorem LRows.but (h : LRows W B v vs C) {D : Nat} (hD : D < B) (hg : W.grownBy W' (some D)) : LRows W' B v vs C :=
  ⟨h.own.grown hg fun k hk e => by have := (h.own.lt k hk).1; injection e; omega, h.len, fun i hi => (h.row i hi).grown hg fun k hk e => by have := ((h.row i hi).lt k hk).1; injection e; omega⟩
theorem LRows.push (h : LRows W B v vs C) {r v' : Value} {ys : List Int} (hr : OwnI W B r ys) (ho : Go.Sl.Own W' B 22 1 v' (vs ++ [r])) (hg : W.grownBy W' (Go.Sl.row v)) : LRows W' B v' (vs ++ [r]) (C ++ [ys]) := by
  refine ⟨ho, by simp [h.len], fun i hi => ?_⟩
  rw [nthv_snocL, nthr_snocL, h.len]
  by_cases e : i = C.length
  · rw [if_pos e, if_pos e]; exact OwnI.grown hr hg (own_twoT (Ne.symm ints_ne_int) hr h.own)
  · rw [if_neg e, if_neg e]
    have hi' : i < C.length := by simp at hi; omega
    exact OwnI.grown (h.row i hi') hg (own_twoT (Ne.symm ints_ne_int) (h.row i hi') h.own)
theorem LRows.rows (h : LRows W B v vs C) : RowsV W v vs C := ⟨h.own.sl, h.len, fun i hi => (h.row i hi).ints⟩
end

end Go.Proofs.Ytplekfgadbjgdaa

