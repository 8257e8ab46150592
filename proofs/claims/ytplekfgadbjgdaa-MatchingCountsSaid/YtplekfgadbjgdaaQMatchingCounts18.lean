/- timbmake.Poly walked once more: its coefficients lie in a block of the call's own, of the type int. -/
import Derived.Test.YtplekfgadbjgdaaQMatchingCounts0
import Derived.Test.YtplekfgadbjgdaaQMatchingCounts1
import Derived.Test.YtplekfgadbjgdaaQMatchingCounts10
import Derived.Test.YtplekfgadbjgdaaQMatchingCounts11
import Derived.Test.YtplekfgadbjgdaaQMatchingCounts12
import Derived.Test.YtplekfgadbjgdaaQMatchingCounts13
import Derived.Test.YtplekfgadbjgdaaQMatchingCounts14
import Derived.Test.YtplekfgadbjgdaaQMatchingCounts15
import Derived.Test.YtplekfgadbjgdaaQMatchingCounts16

namespace Go.Proofs.Ytplekfgadbjgdaa
open Go.RowKit Go.Sl

/-- What lies in memory between two rounds of Plus. -/
structure PlusSt (w wr : World) (la lb : Int) (sa sb : Value) (v : Value) (cs : List Int) : Prop where
  p1 : Pair wr w.heap.size 40 (.int .i64 la) sa
  p2 : Pair wr (w.heap.size + 1) 40 (.int .i64 lb) sb
  p3 : Pair wr (w.heap.size + 2) 40 (.int .i64 0) (.slice none 0 0)
  own : OwnI wr (w.heap.size + 3) v cs
  below : Below w.heap.size w wr
theorem PlusSt.set {w wr : World} {la lb : Int} {sa sb : Value} {v : Value} {cs : List Int} (h : PlusSt w wr la lb sa sb v cs) {i : Nat} (hi : i < cs.length) (x : Int) : PlusSt w (wr.setCell (vat v i) (.int .i64 x)) la lb sa sb v (cs.set i x) := by
  have hg : w.heap.size + 3 ≤ vblk v := h.own.ge hi
  exact ⟨h.p1.other (by omega) _ _, h.p2.other (by omega) _ _, h.p3.other (by omega) _ _, h.own.set hi x, h.below.setCell (p := vat v i) (by rw [vat_block]; omega) _⟩

end Go.Proofs.Ytplekfgadbjgdaa

namespace Go.Proofs.Ytplekfgadbjgdaa
open Go.RowKit Go.Sl

/-- A polynomial as Check wants it. -/
structure POk (p : LP) : Prop where
  len : p.c.length ≤ 200
  lo1 : -1000 ≤ p.low
  lo2 : p.low ≤ 1000
  tr : Trimmed p
  co : n1 p.c ≤ 1000000000 ∧ ∀ x ∈ p.c, -100000000 ≤ x ∧ x ≤ 100000000
theorem POk.of {p : LP} {lo hi : Int} (ht : Trimmed p) (hw : Within p lo hi) (h1 : -1000 ≤ lo) (h2 : lo ≤ 0) (h3 : hi ≤ lo + 200) (_h5 : hi ≤ 1000) (hn : n1 p.c ≤ 100000000) : POk p := by
  rcases hw with h | h
  · have h0 := ht.zero h
    exact ⟨by rw [h]; simp, by omega, by omega, ht, by omega, fun x hx => by rw [h] at hx; cases hx⟩
  · refine ⟨by omega, by omega, ?_, ht, by omega, fun x hx => by have := n1_mem hx; omega⟩
    by_cases e : p.c = []
    · rw [ht.zero e]; omega
    · have := List.length_pos_iff.2 e; omega

end Go.Proofs.Ytplekfgadbjgdaa

namespace Go.Proofs.Ytplekfgadbjgdaa
open Go.RowKit Go.Sl

def OwnGI (w : World) (B : Nat) (v : Value) (xs : List Int) : Prop := OwnG w B 3 v (xs.map (Value.int .i64))
section
variable {w w' : World} {B : Nat} {v : Value} {xs : List Int}
theorem OwnGI.ints (h : OwnGI w B v xs) : Ints w v xs := h.sl
theorem OwnGI.isSl (h : OwnGI w B v xs) : IsSl v := h.1
theorem OwnGI.len (h : OwnGI w B v xs) : vlen v = xs.length := by have := OwnG.len h; simpa using this
theorem OwnGI.cap (h : OwnGI w B v xs) : xs.length ≤ vcap v := by have := h.len; have := h.isSl.le; omega
theorem OwnGI.below (h : OwnGI w B v xs) (hb : Below w.heap.size w w') : OwnGI w' B v xs := OwnG.below h hb
theorem OwnGI.lt (h : OwnGI w B v xs) : ∀ k, row v = some k → B ≤ k ∧ k < w.heap.size := OwnG.lt h
theorem OwnGI.low (h : OwnGI w B v xs) {B' : Nat} (hB : B' ≤ B) : OwnGI w B' v xs := OwnG.low h hB
theorem OwnGI.setOther (h : OwnGI w B v xs) {p : Addr} (hp : ∀ k, row v = some k → p.block ≠ k) (u : Value) : OwnGI (w.setCell p u) B v xs := OwnG.setOther h hp u
theorem OwnGI.grown (h : OwnGI w B v xs) {r : Option Nat} (hg : w.grownBy w' r) (hr : ∀ k, row v = some k → r ≠ some k) : OwnGI w' B v xs := OwnG.grown h hg hr
theorem OwnGI.cell (h : OwnGI w B v xs) {k : Nat} (hk : k < xs.length) : w.cell? (vat v k) = some (.int .i64 (nth xs k)) := h.ints.cell hk
theorem ownGI_nil (w : World) (B : Nat) : OwnGI w B (.slice none 0 0) [] := ownG_nil _ _ _
theorem OwnI.g (h : OwnI w B v xs) : OwnGI w B v xs := own_G h
theorem OwnGI.tail {k : Nat} (h : OwnGI w B v (xs.drop k)) (hk : k < xs.length) : OwnGI w B (vcut v 1 (vlen v) (vcap v) 1) (xs.drop (k + 1)) := by
  rw [List.drop_eq_getElem_cons hk] at h
  exact OwnG.tail h
theorem OwnGI.head (h : OwnGI w B v xs) {k : Nat} (hk : k ≤ xs.length) : OwnGI w B (vcut v 0 k (vcap v) 1) (xs.take k) := by
  have := OwnG.head h (k := k) (by simpa using hk)
  rwa [← List.map_take] at this
end

end Go.Proofs.Ytplekfgadbjgdaa

