/- Square matrices of ints made row by row. -/
import Derived.Test.YtmcecmnbdcbehaaQLinkSums0
import Derived.Test.YtmcecmnbdcbehaaQLinkSums1
import Derived.Test.YtmcecmnbdcbehaaQLinkSums2
import Derived.Test.YtmcecmnbdcbehaaQLinkSums3
import Derived.Test.YtmcecmnbdcbehaaQLinkSums4
import Derived.Test.YtmcecmnbdcbehaaQLinkSums5
import Derived.Test.YtmcecmnbdcbehaaQLinkSums6
import Derived.Test.YtmcecmnbdcbehaaQLinkSums7
import Derived.Test.YtmcecmnbdcbehaaQLinkSums8
import Derived.Test.YtmcecmnbdcbehaaQLinkSums9
import Derived.Test.YtmcecmnbdcbehaaQLinkSums10
import Derived.Test.YtmcecmnbdcbehaaQLinkSums11
import Derived.Test.YtmcecmnbdcbehaaQLinkSums12
import Derived.Test.YtmcecmnbdcbehaaQLinkSums13
import Derived.Test.YtmcecmnbdcbehaaQLinkSums14
import Derived.Test.YtmcecmnbdcbehaaQLinkSums15
import Derived.Test.YtmcecmnbdcbehaaQLinkSums16
import Derived.Test.YtmcecmnbdcbehaaQLinkSums17
import Derived.Test.YtmcecmnbdcbehaaQLinkSums18
import Derived.Test.YtmcecmnbdcbehaaQLinkSums19
import Derived.Test.YtmcecmnbdcbehaaQLinkSums20
import Derived.Test.YtmcecmnbdcbehaaQLinkSums21
import Derived.Test.YtmcecmnbdcbehaaQLinkSums22
import Derived.Test.YtmcecmnbdcbehaaQLinkSums27
import Derived.Test.YtmcecmnbdcbehaaQLinkSums28
import Derived.Shelf.Strings.Builder1
import Derived.RangeFuncNested
import Derived.RangeFuncCalls
import Derived.OrdersIn
import Derived.OrdersHeld
import Derived.Deep.RegionHeld
namespace Go.Proofs.Ytmcecmnbdcbehaa
open Go.RowKit Go.Sl

def matI (N : Nat) (F : Nat → Nat → Int) : List (List Int) := (List.range N).map fun u => (List.range N).map fun v => F u v
theorem matI_length (N : Nat) (F : Nat → Nat → Int) : (matI N F).length = N := by simp [matI]
theorem nthr_matI {N : Nat} {F : Nat → Nat → Int} {u : Nat} (h : u < N) : nthr (matI N F) u = (List.range N).map fun v => F u v := by
  rw [nthr_lt (by rw [matI_length]; exact h)]; simp [matI]
theorem nth_row {N : Nat} {f : Nat → Int} {v : Nat} (h : v < N) : nth ((List.range N).map fun v => f v) v = f v := by rw [nth_lt (by simpa using h)]; simp
theorem row_matI_length {N : Nat} {F : Nat → Nat → Int} {u : Nat} (h : u < N) : (nthr (matI N F) u).length = N := by rw [nthr_matI h]; simp
theorem matI_set {N : Nat} {F : Nat → Nat → Int} {a b : Nat} (ha : a < N) (x : Int) : (matI N F).set a ((nthr (matI N F) a).set b x) = matI N (fun u v => if u = a ∧ v = b then x else F u v) := by
  rw [nthr_matI ha]
  refine List.ext_getElem (by simp [matI]) fun i h1 h2 => ?_
  have hi : i < N := by simpa [matI] using h2
  rw [List.getElem_set]
  by_cases e : a = i
  · subst e
    rw [if_pos rfl]
    refine List.ext_getElem (by simp [matI]) fun j h3 h4 => ?_
    rw [List.getElem_set]
    by_cases e2 : b = j
    · subst e2; simp [matI]
    · simp [matI, e2, Ne.symm e2]
  · rw [if_neg e]; simp [matI, Ne.symm e]
theorem matI_congr {N : Nat} {F G : Nat → Nat → Int} (h : ∀ u v, u < N → v < N → F u v = G u v) : matI N F = matI N G := by
  unfold matI
  refine List.map_congr_left fun u hu => List.map_congr_left fun v hv => h u v (List.mem_range.1 hu) (List.mem_range.1 hv)
/-- One crossing counted. -/
theorem matI_bump_ne {N : Nat} {F : Nat → Nat → Int} {a b : Nat} (s : Int) (hab : a ≠ b) : matI N (fun u v => if u = b ∧ v = a then (fun u v => if u = a ∧ v = b then F a b + s else F u v) b a + s else (fun u v => if u = a ∧ v = b then F a b + s else F u v) u v) = matI N (bump F a b s) := by
  refine matI_congr fun u v _ _ => ?_
  unfold bump
  by_cases h1 : u = b ∧ v = a
  · obtain ⟨rfl, rfl⟩ := h1
    have e1 : ¬ (u = v ∧ v = u) := fun h => hab h.2
    simp [hab, Ne.symm hab]
  · rw [if_neg h1]
    by_cases h2 : u = a ∧ v = b
    · obtain ⟨rfl, rfl⟩ := h2; simp [hab]
    · have h3 : ¬ (a ≠ b ∧ u = b ∧ v = a) := fun h => h1 h.2
      simp only [if_neg h2, if_neg h3]; omega
theorem matI_bump_eq {N : Nat} {F : Nat → Nat → Int} {a : Nat} (s : Int) : matI N (fun u v => if u = a ∧ v = a then F a a + s else F u v) = matI N (bump F a a s) := by
  refine matI_congr fun u v _ _ => ?_
  unfold bump
  by_cases h2 : u = a ∧ v = a
  · obtain ⟨rfl, rfl⟩ := h2; simp
  · simp [h2]
/-- The entries ahead of (a, b) are linking numbers already. -/
def halfF (F : Nat → Nat → Int) (a b : Nat) : Nat → Nat → Int := fun u v => if u < a ∨ u = a ∧ v < b then lkN F u v else F u v
theorem half_start (N : Nat) (F : Nat → Nat → Int) : matI N (halfF F 0 0) = matI N F := matI_congr fun u v _ _ => by unfold halfF; rw [if_neg (by omega)]
theorem half_end (N : Nat) (F : Nat → Nat → Int) : matI N (halfF F N 0) = matI N (lkN F) := matI_congr fun u v hu _ => by unfold halfF; rw [if_pos (.inl hu)]
theorem half_row (N : Nat) (F : Nat → Nat → Int) (a : Nat) : matI N (halfF F a N) = matI N (halfF F (a + 1) 0) := matI_congr fun u v _ hv => by
  unfold halfF
  by_cases h : u < a ∨ u = a ∧ v < N
  · rw [if_pos h, if_pos (by omega)]
  · rw [if_neg h, if_neg (by omega)]
theorem half_at (F : Nat → Nat → Int) (a b : Nat) : halfF F a b a b = F a b := by unfold halfF; rw [if_neg (by omega)]
theorem half_step {N : Nat} {F : Nat → Nat → Int} {a b : Nat} (hab : a ≠ b) : matI N (fun u v => if u = a ∧ v = b then (F a b).tdiv 2 else halfF F a b u v) = matI N (halfF F a (b + 1)) := matI_congr fun u v _ _ => by
  unfold halfF
  by_cases h : u = a ∧ v = b
  · obtain ⟨rfl, rfl⟩ := h; rw [if_pos ⟨rfl, rfl⟩, if_pos (by omega), lkN, if_neg hab]
  · rw [if_neg h]
    by_cases h2 : u < a ∨ u = a ∧ v < b
    · rw [if_pos h2, if_pos (by omega)]
    · rw [if_neg h2, if_neg (by omega)]
theorem half_same {N : Nat} {F : Nat → Nat → Int} {a : Nat} : matI N (halfF F a a) = matI N (halfF F a (a + 1)) := matI_congr fun u v _ _ => by
  unfold halfF
  by_cases h2 : u < a ∨ u = a ∧ v < a
  · rw [if_pos h2, if_pos (by omega)]
  · rw [if_neg h2]
    by_cases h : u = a ∧ v = a
    · obtain ⟨rfl, rfl⟩ := h; rw [if_pos (by omega), lkN, if_pos rfl]
    · rw [if_neg (by omega)]

/-- Rows stored one by one into a slice that is there. -/
structure IPart (W : World) (B : Nat) (v : Value) (vs : List Value) (xss : List (List Int)) : Prop where
  own : Go.Sl.Own W B 25 1 v vs
  len : xss.length ≤ vs.length
  row : ∀ i, i < xss.length → OwnI W B (nthv vs i) (nthr xss i)
  pos : ∀ i, i < xss.length → 0 < (nthr xss i).length
  each : ∀ i j, i < j → j < xss.length → vblk (nthv vs i) ≠ vblk (nthv vs j)
section
variable {W W' : World} {B : Nat} {v : Value} {vs : List Value} {xss : List (List Int)}
theorem IPart.below (h : IPart W B v vs xss) (hb : Below W.heap.size W W') : IPart W' B v vs xss := ⟨h.own.below hb, h.len, fun i hi => (h.row i hi).below hb, h.pos, h.each⟩
theorem IPart.but (h : IPart W B v vs xss) {D : Nat} (hD : D < B) (hg : W.grownBy W' (some D)) : IPart W' B v vs xss :=
  ⟨h.own.grown hg fun k hk e => by have := (h.own.lt k hk).1; injection e; omega, h.len, fun i hi => (h.row i hi).grown hg fun k hk e => by have := ((h.row i hi).lt k hk).1; injection e; omega, h.pos, h.each⟩
theorem iPart_start (h : Go.Sl.Own W B 25 1 v vs) : IPart W B v vs [] := ⟨h, by simp, fun i hi => absurd hi (by simp), fun i hi => absurd hi (by simp), fun i j _ hj => absurd hj (by simp)⟩
theorem nthv_setL {vs : List Value} {i j : Nat} {q : Value} (h : i < vs.length) : nthv (vs.set j q) i = if i = j then q else nthv vs i := by
  rw [nthv_lt (by simp; exact h), nthv_lt h, List.getElem_set]
  by_cases e : j = i
  · rw [if_pos e, if_pos e.symm]
  · rw [if_neg e, if_neg (Ne.symm e)]
theorem IPart.setRow (h : IPart W B v vs xss) {r : Value} {ys : List Int} (hl : xss.length < vs.length) (hr : OwnI W B r ys) (h0 : 0 < ys.length) (hnew : ∀ i, i < xss.length → vblk (nthv vs i) ≠ vblk r) :
    IPart (W.setCell (vat v xss.length) r) B v (vs.set xss.length r) (xss ++ [ys]) := by
  have hrv : Go.Sl.row v = some (vblk v) := row_some (by have := h.own.2.1; have := h.own.1.le; omega)
  have keep : ∀ {x : Value} {zs : List Int}, OwnI W B x zs → OwnI (W.setCell (vat v xss.length) r) B x zs := fun {x zs} hx =>
    hx.setOther (fun k hk e => own_twoT (Ne.symm ints_ne_int) hx h.own k hk (by rw [hrv, ← e, vat_block])) _
  refine ⟨h.own.set hl r, by simp; omega, fun i hi => ?_, fun i hi => ?_, fun i j hij hj => ?_⟩
  · rw [List.length_append] at hi; simp only [List.length_cons, List.length_nil] at hi
    rw [nthv_setL (by omega), nthr_snocL]
    by_cases e : i = xss.length
    · rw [if_pos e, if_pos e]; exact keep hr
    · rw [if_neg e, if_neg e]; exact keep (h.row i (by omega))
  · rw [List.length_append] at hi; simp only [List.length_cons, List.length_nil] at hi
    rw [nthr_snocL]
    by_cases e : i = xss.length
    · rw [if_pos e]; exact h0
    · rw [if_neg e]; exact h.pos i (by omega)
  · rw [List.length_append] at hj; simp only [List.length_cons, List.length_nil] at hj
    rw [nthv_setL (by omega), nthv_setL (by omega), if_neg (by omega)]
    by_cases e : j = xss.length
    · rw [if_pos e]; exact hnew i (by omega)
    · rw [if_neg e]; exact h.each i j hij (by omega)
theorem IPart.ro (h : IPart W B v vs xss) (hl : vs.length = xss.length) : RO W B v vs xss := by
  refine ⟨h.own, hl, h.row, h.pos, fun i hi e => ?_, h.each⟩
  have hrow : Go.Sl.row (nthv vs i) = some (vblk (nthv vs i)) := row_some (by have := (h.row i hi).ints.cap; have := h.pos i hi; omega)
  exact own_twoT (Ne.symm ints_ne_int) (h.row i hi) h.own _ hrow e
end
theorem RO.setFree {W : World} {B : Nat} {u : Value} {vs : List Value} {xss : List (List Int)} (h : RO W B u vs xss) {p : Addr} (hu : ∀ b, Go.Sl.row u = some b → p.block ≠ b) (hr : ∀ i, i < xss.length → p.block ≠ vblk (nthv vs i)) (x : Value) : RO (W.setCell p x) B u vs xss :=
  ⟨h.own.setOther hu _, h.len, fun i hi => (h.row i hi).setOther (fun b hb e => by rw [h.rowAt hi] at hb; exact hr i hi (by rw [e]; exact (Option.some.inj hb).symm)) _, h.pos, h.apart, h.each⟩
theorem zeros_matI (N k : Nat) (hk : k < N) : (matI N fun _ _ => 0).take k ++ [List.replicate N 0] = (matI N fun _ _ => 0).take (k + 1) := by
  rw [List.take_succ_eq_append_getElem (by rw [matI_length]; exact hk)]
  congr 2
  simp [matI, List.map_const']

end Go.Proofs.Ytmcecmnbdcbehaa

