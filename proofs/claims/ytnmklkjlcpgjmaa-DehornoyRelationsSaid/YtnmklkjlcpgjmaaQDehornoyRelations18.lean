/- A block of two cells (a struct of two fields in its box): read, stored into, kept. -/
import Derived.Test.YtnmklkjlcpgjmaaQDehornoyRelations0
import Derived.Test.YtnmklkjlcpgjmaaQDehornoyRelations1
import Derived.Test.YtnmklkjlcpgjmaaQDehornoyRelations2

namespace Go.Proofs.Ytnmklkjlcpgjmaa
open Go.RowKit Go.Sl

@[go_sem ↓ high] theorem run_store_sl {P : Program} (w : World) {v : Value} {a : Addr} (hv : IsSl v) (hc : (w.cell? a).isSome = true) (hf : w.frozen? a = false) :
    (store a v).run P w = .ok () (w.setCell a v) := by
  obtain ⟨ad, n, c, rfl, -⟩ := hv.cases
  obtain ⟨u, hu⟩ := Option.isSome_iff_exists.1 hc
  simp [store, Sem.run, hu, hf]

/-- A block of two cells. -/
def Pair (w : World) (B : Nat) (t : TypeId) (x y : Value) : Prop := w.heap[B]? = some (.cells #[x, y] t (0, 0))
section
variable {w w' : World} {B : Nat} {t : TypeId} {x y : Value}
theorem Pair.lt (h : Pair w B t x y) : B < w.heap.size := (Array.getElem?_eq_some_iff.1 h).1
theorem Pair.under {n : Nat} (h : Pair w B t x y) (hb : Below n w w') (hn : B < n) : Pair w' B t x y := (hb.block _ hn).trans h
theorem Pair.below (h : Pair w B t x y) (hb : Below w.heap.size w w') : Pair w' B t x y := h.under hb h.lt
theorem Pair.set (h : Pair w B t x y) (u v : Value) : Pair ((w.setCell ⟨B, 0, none⟩ u).setCell ⟨B, 1, none⟩ v) B t u v := by
  unfold Pair at *
  simp [World.setCell, Array.getElem?_modify, h]
theorem Pair.other (h : Pair w B t x y) {C : Nat} (hc : C ≠ B) (o : Nat) (u : Value) : Pair (w.setCell ⟨C, o, none⟩ u) B t x y := (Below.heap_setCell w ⟨C, o, none⟩ u B (Ne.symm hc)).trans h
theorem Pair.alloc (h : Pair w B t x y) (o : Obj) : Pair (w.alloc o) B t x y := (Below.heap_alloc w o _ h.lt).trans h
theorem pair_new (w : World) (t : TypeId) (x y : Value) : Pair (w.alloc (.cells #[x, y] t)) w.heap.size t x y := heap_alloc_new w _
end

theorem three (w : World) (t : TypeId) (x1 y1 x2 y2 x3 y3 : Value) (W3 : World) (h : W3 = ((w.alloc (.cells #[x1, y1] t)).alloc (.cells #[x2, y2] t)).alloc (.cells #[x3, y3] t)) :
    Pair W3 w.heap.size t x1 y1 ∧ Pair W3 (w.heap.size + 1) t x2 y2 ∧ Pair W3 (w.heap.size + 2) t x3 y3 ∧ Below w.heap.size w W3 ∧ W3.heap.size = w.heap.size + 3 := by
  subst h
  refine ⟨((pair_new w _ _ _).alloc _).alloc _, ?_, ?_, (((Below.refl _ _).alloc (Nat.le_refl _) _).alloc (by simp) _).alloc (by simp; omega) _, by simp⟩
  · have := (pair_new (w.alloc (.cells #[x1, y1] t)) t x2 y2).alloc (.cells #[x3, y3] t); rwa [World.size_alloc] at this
  · have := pair_new ((w.alloc (.cells #[x1, y1] t)).alloc (.cells #[x2, y2] t)) t x3 y3; rwa [World.size_alloc, World.size_alloc] at this
theorem two (w : World) (t : TypeId) (x1 y1 x2 y2 : Value) (W3 : World) (h : W3 = (w.alloc (.cells #[x1, y1] t)).alloc (.cells #[x2, y2] t)) :
    Pair W3 w.heap.size t x1 y1 ∧ Pair W3 (w.heap.size + 1) t x2 y2 ∧ Below w.heap.size w W3 ∧ W3.heap.size = w.heap.size + 2 := by
  subst h
  refine ⟨(pair_new w _ _ _).alloc _, ?_, ((Below.refl _ _).alloc (Nat.le_refl _) _).alloc (by simp) _, by simp⟩
  have := pair_new (w.alloc (.cells #[x1, y1] t)) t x2 y2; rwa [World.size_alloc] at this

end Go.Proofs.Ytnmklkjlcpgjmaa

