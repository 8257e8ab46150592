/- Square matrices of ints made row by row. -/
import Derived.Test.YtckopilciekfbaaQColorCounts20
import Derived.Test.YtckopilciekfbaaQColorCounts21
import Derived.Test.YtckopilciekfbaaQColorCounts22
import Derived.Test.YtckopilciekfbaaQColorCounts23
import Derived.Test.YtckopilciekfbaaQColorCounts24
import Derived.Test.YtckopilciekfbaaQColorCounts25
import Derived.Test.YtckopilciekfbaaQColorCounts26
import Derived.Test.YtckopilciekfbaaQColorCounts27
import Derived.Test.YtckopilciekfbaaQColorCounts29
import Derived.Test.YtckopilciekfbaaQColorCounts210
import Derived.Test.YtckopilciekfbaaQColorCounts211
import Derived.Test.YtckopilciekfbaaQColorCounts213
import Derived.Test.YtckopilciekfbaaQColorCounts214
import Derived.Test.YtckopilciekfbaaQColorCounts215
import Derived.Test.YtckopilciekfbaaQColorCounts217
import Derived.Test.YtckopilciekfbaaQColorCounts224
import Derived.Test.YtckopilciekfbaaQColorCounts225
import Derived.Test.YtckopilciekfbaaQColorCounts236
import Derived.Test.YtckopilciekfbaaQColorCounts237
import Derived.Test.YtckopilciekfbaaQColorCounts238
import Derived.Test.YtckopilciekfbaaQColorCounts239
import Derived.Test.YtckopilciekfbaaQColorCounts242
import Derived.Shelf.Strings.Builder1
import Derived.RangeFuncNested
import Derived.RangeFuncBound
import Derived.RangeFuncCalls
import Derived.RangeFuncLeaves
import Derived.RangeFuncBox
import Derived.Shelf.Abstract
import Derived.Shelf.RegionOpen
import Derived.OwnWalkIn
import Derived.TacticsInMore
import Derived.LoopNIn
import Derived.LoopIn
import Derived.Maps.AppendAt
import Derived.OrdersIn
import Derived.OrdersHeld
import Derived.Deep.RegionHeld
namespace Go.Proofs.Ytckopilciekfbaa
open Go.RowKit Go.Sl

def matI (N : Nat) (F : Nat → Nat → Int) : List (List Int) := (List.range N).map fun u => (List.range N).map fun v => F u v
theorem matI_length (N : Nat) (F : Nat → Nat → Int) : (matI N F).length = N := by simp [matI]
theorem nthr_matI {N : Nat} {F : Nat → Nat → Int} {u : Nat} (h : u < N) : nthr (matI N F) u = (List.range N).map fun v => F u v := by
  rw [nthr_lt (by rw [matI_length]; exact h)]; simp [matI]
theorem nth_row {N : Nat} {f : Nat → Int} {v : Nat} (h : v < N) : nth ((List.range N).map fun v => f v) v = f v := by rw [nth_lt (by simpa using h)]; simp
theorem row_matI_length {N : Nat} {F : Nat → Nat → Int} {u : Nat} (h : u < N) : (nthr (matI N F) u).length = N := by rw [nthr_matI h]; simp
theorem matI_set {N : Nat} {F : Nat → Nat → Int} {a b : Nat} (ha : a < N) (x : Int) : (matI N F).set a ((nthr (matI N F) a).set b x) = matI N (fun u v => if u = a ∧ v = b then x else F u v) := by
  rw [nthr_matI ha]
  refine List.ext_getElem (by simp [matI]) fun i h1 h2 => ?_
  have hi : i < N := by simpa [matI] using h2
  rw [List.getElem_set]
  by_cases e : a = i
  · subst e
    rw [if_pos rfl]
    refine List.ext_getElem (by simp [matI]) fun j h3 h4 => ?_
    rw [List.getElem_set]
    by_cases e2 : b = j
    · subst e2; simp [matI]
    · simp [matI, e2, Ne.symm e2]
  · rw [if_neg e]; simp [matI, Ne.symm e]
theorem matI_congr {N : Nat} {F G : Nat → Nat → Int} (h : ∀ u v, u < N → v < N → F u v = G u v) : matI N F = matI N G := by
  unfold matI
  refine List.map_congr_left fun u hu => List.map_congr_left fun v hv => h u v (List.mem_range.1 hu) (List.mem_range.1 hv)
/-- Rows stored one by one into a slice that is there. -/
structure IPart (W : World) (B : Nat) (v : Value) (vs : List Value) (xss : List (List Int)) : Prop where
  own : Go.Sl.Own W B 22 1 v vs
  len : xss.length ≤ vs.length
  row : ∀ i, i < xss.length → OwnI W B (nthv vs i) (nthr xss i)
  pos : ∀ i, i < xss.length → 0 < (nthr xss i).length
  each : ∀ i j, i < j → j < xss.length → vblk (nthv vs i) ≠ vblk (nthv vs j)
section
variable {W W' : World} {B : Nat} {v : Value} {vs : List Value} {xss : List (List Int)}
theorem IPart.below (h : IPart W B v vs xss) (hb : Below W.heap.size W W') : IPart W' B v vs xss := ⟨h.own.below hb, h.len, fun i hi => (h.row i hi).below hb, h.pos, h.each⟩
theorem IPart.but (h : IPart W B v vs xss) {D : Nat} (hD : D < B) (hg : W.grownBy W' (some D)) : IPart W' B v vs xss :=
  ⟨h.own.grown hg fun k hk e => by have := (h.own.lt k hk).1; injection e; omega, h.len, fun i hi => (h.row i hi).grown hg fun k hk e => by have := ((h.row i hi).lt k hk).1; injection e; omega, h.pos, h.each⟩
theorem iPart_start (h : Go.Sl.Own W B 22 1 v vs) : IPart W B v vs [] := ⟨h, by simp, fun i hi => absurd hi (by simp), fun i hi => absurd hi (by simp), fun i j _ hj => absurd hj (by simp)⟩
theorem nthv_setL {vs : List Value} {i j : Nat} {q : Value} (h : i < vs.length) : nthv (vs.set j q) i = if i = j then q else nthv vs i := by
  rw [nthv_lt (by simp; exact h), nthv_lt h, List.getElem_set]
  by_cases e : j = i
  · rw [if_pos e, if_pos e.symm]
  · rw [if_neg e, if_neg (Ne.symm e)]
theorem IPart.setRow (h : IPart W B v vs xss) {r : Value} {ys : List Int} (hl : xss.length < vs.length) (hr : OwnI W B r ys) (h0 : 0 < ys.length) (hnew : ∀ i, i < xss.length → vblk (nthv vs i) ≠ vblk r) :
    IPart (W.setCell (vat v xss.length) r) B v (vs.set xss.length r) (xss ++ [ys]) := by
  have hrv : Go.Sl.row v = some (vblk v) := row_some (by have := h.own.2.1; have := h.own.1.le; omega)
  have keep : ∀ {x : Value} {zs : List Int}, OwnI W B x zs → OwnI (W.setCell (vat v xss.length) r) B x zs := fun {x zs} hx =>
    hx.setOther (fun k hk e => own_twoT (Ne.symm ints_ne_int) hx h.own k hk (by rw [hrv, ← e, vat_block])) _
  refine ⟨h.own.set hl r, by simp; omega, fun i hi => ?_, fun i hi => ?_, fun i j hij hj => ?_⟩
  · rw [List.length_append] at hi; simp only [List.length_cons, List.length_nil] at hi
    rw [nthv_setL (by omega), nthr_snocL]
    by_cases e : i = xss.length
    · rw [if_pos e, if_pos e]; exact keep hr
    · rw [if_neg e, if_neg e]; exact keep (h.row i (by omega))
  · rw [List.length_append] at hi; simp only [List.length_cons, List.length_nil] at hi
    rw [nthr_snocL]
    by_cases e : i = xss.length
    · rw [if_pos e]; exact h0
    · rw [if_neg e]; exact h.pos i (by omega)
  · rw [List.length_append] at hj; simp only [List.length_cons, List.length_nil] at hj
    rw [nthv_setL (by omega), nthv_setL (by omega), if_neg (by omega)]
    by_cases e : j = xss.length
    · rw [if_pos e]; exact hnew i (by omega)
    · rw [if_neg e]; exact h.each i j hij (by omega)
theorem IPart.ro (h : IPart W B v vs xss) (hl : vs.length = xss.length) : RO W B v vs xss := by
  refine ⟨h.own, hl, h.row, h.pos, fun i hi e => ?_, h.each⟩
  have hrow : Go.Sl.row (nthv vs i) = some (vblk (nthv vs i)) := row_some (by have := (h.row i hi).ints.cap; have := h.pos i hi; omega)
  exact own_twoT (Ne.symm ints_ne_int) (h.row i hi) h.own _ hrow e
end
theorem RO.setFree {W : World} {B : Nat} {u : Value} {vs : List Value} {xss : List (List Int)} (h : RO W B u vs xss) {p : Addr} (hu : ∀ b, Go.Sl.row u = some b → p.block ≠ b) (hr : ∀ i, i < xss.length → p.block ≠ vblk (nthv vs i)) (x : Value) : RO (W.setCell p x) B u vs xss :=
  ⟨h.own.setOther hu _, h.len, fun i hi => (h.row i hi).setOther (fun b hb e => by rw [h.rowAt hi] at hb; exact hr i hi (by rw [e]; exact (Option.some.inj hb).symm)) _, h.pos, h.apart, h.each⟩
theorem zeros_matI (N k : Nat) (hk : k < N) : (matI N fun _ _ => 0).take k ++ [List.replicate N 0] = (matI N fun _ _ => 0).take (k + 1) := by
  rw [List.take_succ_eq_append_getElem (by rw [matI_length]; exact hk)]
  congr 2
  simp [matI, List.map_const']

end Go.Proofs.Ytckopilciekfbaa

