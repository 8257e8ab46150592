/- ColorLetters: for every input the statement returns true, and nothing that was there has changed. -/
import Derived.Test.YtmcecmnbdcbehaaQMarkovLocal0
import Derived.Test.YtmcecmnbdcbehaaQMarkovLocal1
import Derived.Test.YtmcecmnbdcbehaaQMarkovLocal2
import Derived.Test.YtmcecmnbdcbehaaQMarkovLocal3
import Derived.Test.YtmcecmnbdcbehaaQMarkovLocal4
import Derived.Test.YtmcecmnbdcbehaaQMarkovLocal5
import Derived.Test.YtmcecmnbdcbehaaQMarkovLocal6
import Derived.Test.YtmcecmnbdcbehaaQMarkovLocal7
import Derived.Test.YtmcecmnbdcbehaaQMarkovLocal9
import Derived.Test.YtmcecmnbdcbehaaQMarkovLocal10
import Derived.Test.YtmcecmnbdcbehaaQMarkovLocal11
import Derived.Test.YtmcecmnbdcbehaaQMarkovLocal12
import Derived.Test.YtmcecmnbdcbehaaQMarkovLocal13
import Derived.Test.YtmcecmnbdcbehaaQMarkovLocal14
import Derived.RangeFuncNested
import Derived.RangeFuncBound
import Derived.RangeFuncCalls
import Derived.RangeFuncLeaves
import Derived.RangeFuncBox
import Derived.Shelf.Abstract
import Derived.Shelf.RegionOpen
import Derived.OwnWalkIn
import Derived.TacticsInMore
import Derived.LoopNIn
import Derived.LoopIn
import Derived.Maps.AppendAt
import Derived.Deep.RegionLaw
namespace Go.Proofs.Ytmcecmnbdcbehaa
open Go.RowKit Go.Sl

theorem IsWord.small {xs : List Int} (h : IsWord xs) : ∀ x ∈ xs, -1000 ≤ x ∧ x ≤ 1000 := fun x hx => by have := h x hx; omega
theorem IsWord.inv {xs : List Int} (h : IsWord xs) : IsWord (invL xs) := by
  intro x hx
  simp only [invL, List.mem_reverse, List.mem_map] at hx
  obtain ⟨y, hy, rfl⟩ := hx
  have := h y hy
  omega
theorem IsWord.red {xs : List Int} (h : IsWord xs) : IsWord (redL xs) := fun x hx => h x (redL_mem hx)
theorem IsWord.append {xs ys : List Int} (h : IsWord xs) (k : IsWord ys) : IsWord (xs ++ ys) := fun x hx => (List.mem_append.1 hx).elim (h x) (k x)
theorem sl_two (w : World) (u v : Value) (e : TypeId) : Sl (w.alloc (.cells #[u, v] e)) (.slice (some ⟨w.heap.size, 0, none⟩) 2 2) 1 [u, v] := by
  refine ⟨isSl_mk _ _ _ _ (Nat.le_refl _) (by unfold maxLen; omega), by simp, fun j x hx => ?_⟩
  match j, hx with
  | 0, hx =>
    simp at hx; subst hx
    exact cell_of_row (w.alloc (.cells #[u, v] e)) w.heap.size 0 #[u, v] e (0, 0) (heap_alloc_new w (.cells #[u, v] e))
  | 1, hx =>
    simp at hx; subst hx
    exact cell_of_row (w.alloc (.cells #[u, v] e)) w.heap.size 1 #[u, v] e (0, 0) (heap_alloc_new w (.cells #[u, v] e))
theorem rowsV_2 {w : World} {u v : Value} {xs ys : List Int} (h : Ints w u xs) (k : Ints w v ys) : RowsV (w.alloc (.cells #[u, v] 25)) (.slice (some ⟨w.heap.size, 0, none⟩) 2 2) [u, v] [xs, ys] := by
  refine ⟨sl_two w u v _, rfl, fun i hi => ?_⟩
  simp only [List.length_cons, List.length_nil] at hi
  rcases (show i = 0 ∨ i = 1 by omega) with rfl | rfl
  · exact h.alloc _
  · exact k.alloc _

end Go.Proofs.Ytmcecmnbdcbehaa

namespace Go.Proofs.Ytmcecmnbdcbehaa
open Go.RowKit Go.Sl

def low : Nat → Nat → Nat
  | 0, _ => 0
  | f + 1, r => if r % 2 = 1 then 0 else low f (r / 2) + 1
end Go.Proofs.Ytmcecmnbdcbehaa

namespace Go.Proofs.Ytmcecmnbdcbehaa
open Go.RowKit Go.Sl

def s4 (a b c d e f g h : Int) : Int := a * e + b * f + c * g + d * h
end Go.Proofs.Ytmcecmnbdcbehaa

namespace Go.Proofs.Ytmcecmnbdcbehaa
open Go.RowKit Go.Sl

theorem own_ne {w : World} {B B' : Nat} {e e' : TypeId} {v u : Value} {cs ds : List Value} (h : Go.Sl.Own w B e 1 v cs) (k : Go.Sl.Own w B' e' 1 u ds) (hc : 0 < cs.length) (hd : 0 < ds.length) (he : e ≠ e') : vblk v ≠ vblk u := by
  intro heq
  obtain ⟨cur, hg, -⟩ := Go.Sl.Own.getCell h hc
  obtain ⟨cur', hg', -⟩ := Go.Sl.Own.getCell k hd
  rw [heq, hg'] at hg
  injection hg with hg
  injection hg with h1 h2
  exact he h2.symm
theorem zero_set {w : World} {B B' : Nat} {v u : Value} {j : Nat} (h : OwnI w B v [0, 0]) (k : OwnI w B' u [0, 0]) (hj : j < 2) : OwnI (w.setCell (vat u j) (.int .i64 0)) B v [0, 0] := by
  by_cases hb : vblk v = vblk u
  · have e : vat u j = vat v j := by
      obtain ⟨_, _, _, h0, -⟩ := Go.Sl.Own.getCell h (j := 0) (by simp)
      obtain ⟨_, _, _, k0, -⟩ := Go.Sl.Own.getCell k (j := 0) (by simp)
      unfold vat
      rw [hb, h0, k0]
    rw [e]
    have := h.set (k := j) (by simpa using hj) 0
    have e2 : [0, 0].set j (0 : Int) = [0, 0] := by
      have : j = 0 ∨ j = 1 := by omega
      rcases this with rfl | rfl <;> rfl
    rwa [e2] at this
  · exact h.setOther (fun k hk e => hb (by rw [vat_block] at e; rw [e]; exact (row_eq hk).2)) _

/-- A matrix of two rows of two zeros, all of the call's own. -/
structure ZM (w : World) (B0 B2 : Nat) (mv : Value) (vs : List Value) : Prop where
  own : Go.Sl.Own w B0 25 1 mv vs
  len : vs.length = 2
  rows : ∀ j, j < 2 → OwnI w B0 (nthv vs j) [0, 0]
  blk : ∀ j, j < 2 → vblk (nthv vs j) < B2
theorem ZM.below {w w' : World} {B0 B2 : Nat} {mv : Value} {vs : List Value} (h : ZM w B0 B2 mv vs) (hb : Below w.heap.size w w') : ZM w' B0 B2 mv vs :=
  ⟨h.own.below hb, h.len, fun j hj => (h.rows j hj).below hb, h.blk⟩
theorem ZM.store {w : World} {B0 B2 : Nat} {mv : Value} {vs : List Value} (h : ZM w B0 B2 mv vs) {j k : Nat} (hj : j < 2) (hk : k < 2) : ZM (w.setCell (vat (nthv vs j) k) (.int .i64 0)) B0 B2 mv vs :=
  ⟨h.own.setOther (fun b hb e => own_ne h.own (h.rows j hj) (by rw [h.len]; decide) (by simp) (by decide) (by rw [vat_block] at e; rw [e]; exact (row_eq hb).2)) _, h.len,
    fun i hi => zero_set (h.rows i hi) (h.rows j hj) hk, h.blk⟩
end Go.Proofs.Ytmcecmnbdcbehaa

namespace Go.Proofs.Ytmcecmnbdcbehaa
open Go.RowKit Go.Sl

theorem letterOf_bounds {top : Int} (h : 0 < top) (x : Int) : letterOf top x ≠ 0 ∧ -top ≤ letterOf top x ∧ letterOf top x ≤ top := by
  have h1 := Int.emod_nonneg x (b := 2 * top) (by omega)
  have h2 := Int.emod_lt_of_pos x (b := 2 * top) (by omega)
  unfold letterOf
  split <;> omega
theorem wordL_bword {n : Int} (h : 1 < n) (raw : List Int) (most : Nat) : BWord n (wordL (n - 1) raw most) := by
  intro x hx
  obtain ⟨y, _, rfl⟩ := List.mem_map.1 hx
  have := letterOf_bounds (top := n - 1) (by omega) y
  omega

end Go.Proofs.Ytmcecmnbdcbehaa

