/- Facts about many slices at once, carried from world to world. -/
import Derived.Test.YtkimbhmijgfhnaaSlices
namespace Go.Proofs.Ytkimbhmijgfhnaa
open Go.RowKit Go.Sl

def Live (w : World) (L : List (Value × List Int)) : Prop := ∀ p, p ∈ L → Ints w p.1 p.2
theorem Live.below {w w' : World} {L : List (Value × List Int)} (h : Live w L) (hb : Below w.heap.size w w') : Live w' L := fun p hp => (h p hp).below hb
theorem Live.cons {w : World} {L : List (Value × List Int)} {v : Value} {xs : List Int} (h : Live w L) (k : Ints w v xs) : Live w ((v, xs) :: L) := fun p hp => by
  rcases List.mem_cons.1 hp with rfl | h1
  · exact k
  · exact h p h1
theorem Live.get {w : World} {L : List (Value × List Int)} {v : Value} {xs : List Int} (h : Live w L) (k : (v, xs) ∈ L) : Ints w v xs := h _ k
theorem live_nil (w : World) : Live w [] := fun p hp => by cases hp

end Go.Proofs.Ytkimbhmijgfhnaa
