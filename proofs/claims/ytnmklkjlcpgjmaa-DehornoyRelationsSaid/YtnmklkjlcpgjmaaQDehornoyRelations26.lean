/- artin.Images walked. -/
import Derived.Test.YtnmklkjlcpgjmaaQDehornoyRelations0
import Derived.Test.YtnmklkjlcpgjmaaQDehornoyRelations1
import Derived.Test.YtnmklkjlcpgjmaaQDehornoyRelations2
import Derived.Test.YtnmklkjlcpgjmaaQDehornoyRelations3
import Derived.Test.YtnmklkjlcpgjmaaQDehornoyRelations8
import Derived.Test.YtnmklkjlcpgjmaaQDehornoyRelations9
import Derived.Test.YtnmklkjlcpgjmaaQDehornoyRelations10
import Derived.Test.YtnmklkjlcpgjmaaQDehornoyRelations11
import Derived.Test.YtnmklkjlcpgjmaaQDehornoyRelations12
import Derived.Test.YtnmklkjlcpgjmaaQDehornoyRelations13
import Derived.Test.YtnmklkjlcpgjmaaQDehornoyRelations15
import Derived.Test.YtnmklkjlcpgjmaaQDehornoyRelations18
import Derived.Test.YtnmklkjlcpgjmaaQDehornoyRelations19
import Derived.Deep.RegionHeld3
import Derived.RangeFuncNested
import Derived.RangeFuncCalls
import Derived.OrdersIn
import Derived.OrdersHeld
import Derived.Deep.RegionHeld
import Derived.Deep.RegionLaw
namespace Go.Proofs.Ytnmklkjlcpgjmaa
open Go.RowKit Go.Sl
attribute [local go_sem] Oper.semAt_some

/-- The call's own slice of slices, its rows by name; no row lies in its own block. -/
def OR (W : World) (B : Nat) (u : Value) (vs : List Value) (xss : List (List Int)) : Prop :=
  Go.Sl.Own W B 22 1 u vs ∧ vs.length = xss.length ∧ (∀ i, i < xss.length → Ints W (nthv vs i) (nthr xss i)) ∧ ∀ i, i < xss.length → 0 < (nthr xss i).length → row u ≠ some (vblk (nthv vs i))

section
variable {W W' : World} {B : Nat} {u r : Value} {vs : List Value} {xss : List (List Int)} {ys : List Int} {j : Nat}
theorem OR.rows (h : OR W B u vs xss) : RowsV W u vs xss := ⟨h.1.sl, h.2.1, h.2.2.1⟩
theorem OR.below (h : OR W B u vs xss) (hb : Below W.heap.size W W') : OR W' B u vs xss := ⟨h.1.below hb, h.2.1, fun i hi => (h.2.2.1 i hi).below hb, h.2.2.2⟩
theorem OR.frozen (h : OR W B u vs xss) (hj : j < xss.length) : W.frozen? (vat u j) = false := h.1.frozen (by rw [h.2.1]; exact hj)
theorem OR.ge (h : OR W B u vs xss) (hj : j < xss.length) : B ≤ vblk u := h.1.ge (j := j) (by rw [h.2.1]; exact hj)
theorem OR.row_of (h : OR W B u vs xss) (hj : j < xss.length) : row u = some (vblk u) := row_some (h.1.cap_of (j := j) (by rw [h.2.1]; exact hj))
theorem OR.lt (h : OR W B u vs xss) (hj : j < xss.length) : vblk u < W.heap.size := (h.1.lt _ (h.row_of hj)).2
theorem OR.apart (h : OR W B u vs xss) : OwnR.apart W B u xss := ⟨vs, h.1, h.2.1, h.2.2.1, h.2.2.2⟩
theorem ints_keep (h : OR W B u vs xss) (hj : j < xss.length) (hy : Ints W r ys) (hap : 0 < ys.length → row u ≠ some (vblk r)) (x : Value) : Ints (W.setCell (vat u j) x) r ys := by
  rcases Nat.eq_zero_or_pos ys.length with h0 | h0
  · obtain rfl := List.eq_nil_of_length_eq_zero h0
    exact ⟨hy.1, hy.2.1, by simp⟩
  · exact hy.setOther (fun e => hap h0 (by rw [h.row_of hj, ← e]; rfl)) x
theorem OR.set (h : OR W B u vs xss) (hj : j < xss.length) (hy : Ints W r ys) (hap : 0 < ys.length → row u ≠ some (vblk r)) : OR (W.setCell (vat u j) r) B u (vs.set j r) (xss.set j ys) := by
  have hvl := h.2.1
  refine ⟨h.1.set (by omega) r, by simp [hvl], fun i hi => ?_, fun i hi h0 => ?_⟩
  · rw [List.length_set] at hi
    by_cases e : j = i
    · subst e
      have e1 : nthv (vs.set j r) j = r := by rw [nthv_lt (by simp; omega)]; simp
      have e2 : nthr (xss.set j ys) j = ys := by rw [nthr_lt (by simp; omega)]; simp
      rw [e1, e2]
      exact ints_keep h hj hy hap r
    · have e1 : nthv (vs.set j r) i = nthv vs i := by simp [nthv, List.getElem?_set_ne e]
      have e2 : nthr (xss.set j ys) i = nthr xss i := by simp [nthr, List.getElem?_set_ne e]
      rw [e1, e2]
      exact ints_keep h hj (h.2.2.1 i hi) (h.2.2.2 i hi) r
  · rw [List.length_set] at hi
    by_cases e : j = i
    · subst e
      have e1 : nthv (vs.set j r) j = r := by rw [nthv_lt (by simp; omega)]; simp
      have e2 : nthr (xss.set j ys) j = ys := by rw [nthr_lt (by simp; omega)]; simp
      rw [e1]; rw [e2] at h0
      exact hap h0
    · have e1 : nthv (vs.set j r) i = nthv vs i := by simp [nthv, List.getElem?_set_ne e]
      have e2 : nthr (xss.set j ys) i = nthr xss i := by simp [nthr, List.getElem?_set_ne e]
      rw [e1]; rw [e2] at h0
      exact h.2.2.2 i hi h0
end

theorem ints_kept {W W' : World} {r : Value} {ys : List Int} {row : Option Nat} (h : Ints W r ys) (hg : W.grownBy W' row) (hr : ∀ k, row = some k → ∃ o : Obj, W.heap[k]? = some o ∧ o.isCells = false) : Ints W' r ys := by
  refine h.keep hg fun h0 e => ?_
  obtain ⟨o, ho, hc⟩ := hr _ e
  have := h.cell h0
  simp only [World.cell?, vat_block] at this
  rw [ho] at this
  cases o <;> simp_all [Obj.isCells]
theorem or_kept {W W' : World} {B : Nat} {u : Value} {vs : List Value} {xss : List (List Int)} {rw0 : Option Nat} (h : OR W B u vs xss) (hg : W.grownBy W' rw0) (hr : ∀ k, rw0 = some k → ∃ o : Obj, W.heap[k]? = some o ∧ o.isCells = false) : OR W' B u vs xss := by
  refine ⟨h.1.grown hg fun k hk e => ?_, h.2.1, fun i hi => ints_kept (h.2.2.1 i hi) hg hr, h.2.2.2⟩
  obtain ⟨o, ho, hc⟩ := hr _ e
  obtain ⟨h0, hb⟩ := row_eq hk
  obtain ⟨_, _, cur, hh, _⟩ := h.1.2.2 h0
  rw [hb, ho] at hh
  cases hh
  cases hc

theorem sl_threeA (w : World) (u v x : Value) (e : TypeId) : Sl (w.alloc (.cells #[u, v, x] e)) (.slice (some ⟨w.heap.size, 0, none⟩) 3 3) 1 [u, v, x] := by
  refine ⟨isSl_mk _ _ _ _ (Nat.le_refl _) (by unfold maxLen; omega), by simp, fun j y hj => ?_⟩
  match j, hj with
  | 0, hj =>
    simp at hj; subst hj
    exact cell_of_row (w.alloc (.cells #[u, v, x] e)) w.heap.size 0 #[u, v, x] e (0, 0) (heap_alloc_new w (.cells #[u, v, x] e))
  | 1, hj =>
    simp at hj; subst hj
    exact cell_of_row (w.alloc (.cells #[u, v, x] e)) w.heap.size 1 #[u, v, x] e (0, 0) (heap_alloc_new w (.cells #[u, v, x] e))
  | 2, hj =>
    simp at hj; subst hj
    exact cell_of_row (w.alloc (.cells #[u, v, x] e)) w.heap.size 2 #[u, v, x] e (0, 0) (heap_alloc_new w (.cells #[u, v, x] e))
  | j + 3, hj => simp at hj
theorem rowsV_3A {w : World} {u v x : Value} {xs ys zs : List Int} (h : Ints w u xs) (k : Ints w v ys) (l : Ints w x zs) : RowsV (w.alloc (.cells #[u, v, x] 22)) (.slice (some ⟨w.heap.size, 0, none⟩) 3 3) [u, v, x] [xs, ys, zs] := by
  refine ⟨sl_threeA w u v x _, rfl, fun i hi => ?_⟩
  simp only [List.length_cons, List.length_nil] at hi
  rcases (show i = 0 ∨ i = 1 ∨ i = 2 by omega) with rfl | rfl | rfl
  · exact h.alloc _
  · exact k.alloc _
  · exact l.alloc _


theorem OR.putObj {W : World} {B D : Nat} {u : Value} {vs : List Value} {xss : List (List Int)} {o : Obj} (h : OR W B u vs xss) (o' : Obj) (hD : W.heap[D]? = some o) (ho : o.isCells = false) : OR (W.putObj D o') B u vs xss :=
  or_kept h (grownBy_putObj' W D o') (fun k e => by cases e; exact ⟨_, hD, ho⟩)
theorem OR.low {W : World} {B B' : Nat} {u : Value} {vs : List Value} {xss : List (List Int)} (h : OR W B u vs xss) (hB : B' ≤ B) : OR W B' u vs xss := ⟨h.1.low hB, h.2⟩
end Go.Proofs.Ytnmklkjlcpgjmaa

