/- The box of a letter's two rows: eight cells. -/
import Derived.Test.YtckopilciekfbaaQColorCounts20
import Derived.Test.YtckopilciekfbaaQColorCounts21
import Derived.Test.YtckopilciekfbaaQColorCounts22
import Derived.Test.YtckopilciekfbaaQColorCounts23
import Derived.Test.YtckopilciekfbaaQColorCounts24
import Derived.Test.YtckopilciekfbaaQColorCounts25
import Derived.Test.YtckopilciekfbaaQColorCounts26
import Derived.Test.YtckopilciekfbaaQColorCounts27
import Derived.Test.YtckopilciekfbaaQColorCounts28
import Derived.Test.YtckopilciekfbaaQColorCounts210
import Derived.Test.YtckopilciekfbaaQColorCounts212
import Derived.Test.YtckopilciekfbaaQColorCounts219
import Derived.Deep.MidRow
namespace Go.Proofs.Ytckopilciekfbaa
open Go.RowKit Go.Sl

theorem ints_cells {w : World} {u : Value} {xs : List Int} (h : Ints w u xs) {b : Nat} (hn : 0 < xs.length → vblk u ≠ b) (o : Nat) (vs : List Value) : Ints (w.setCells b o vs) u xs := by
  refine ⟨h.1, h.2.1, fun j x hx => ?_⟩
  have hj : j < xs.length := by have := (List.getElem?_eq_some_iff.1 hx).1; simpa using this
  rw [World.cell?_setCells_out b vs o w (vat u j) (fun e _ => absurd e (hn (by omega)))]
  exact h.2.2 j x hx
theorem below_cells {B b : Nat} {w0 : World} (hb : B ≤ b) : ∀ (vs : List Value) (o : Nat) (w : World), Below B w0 w → Below B w0 (w.setCells b o vs)
  | [], _, _, h => h
  | v :: r, o, w, h => below_cells hb r (o + 1) _ (h.setCell (p := ⟨b, o, none⟩) hb v)
theorem size_cells (b : Nat) : ∀ (vs : List Value) (o : Nat) (w : World), (w.setCells b o vs).heap.size = w.heap.size
  | [], _, _ => rfl
  | v :: r, o, w => by rw [World.setCells, size_cells b r (o + 1)]; exact World.size_setCell _ _ _
/-- The cells of a letter's rows. -/
def mcs (x : Int) (u00 u01 u10 u11 : Value) : List Value := [.int .i64 (bm x 0 0).low, u00, .int .i64 (bm x 0 1).low, u01, .int .i64 (bm x 1 0).low, u10, .int .i64 (bm x 1 1).low, u11]
/-- The box b holds the rows of the letter x. -/
structure MB (R : Nat → Prop) (W0 W : World) (b : Nat) (x : Int) (u00 u01 u10 u11 : Value) : Prop where
  at_ : W.rangeAt b 0 (mcs x u00 u01 u10 u11)
  th : W.there b 0 8
  i00 : Ints W u00 (bm x 0 0).c
  i01 : Ints W u01 (bm x 0 1).c
  i10 : Ints W u10 (bm x 1 0).c
  i11 : Ints W u11 (bm x 1 1).c
  bel : Below W0.heap.size W0 W
  ge : W0.heap.size ≤ b
  lt : b < W.heap.size
  n00 : 0 < (bm x 0 0).c.length → vblk u00 ≠ b ∧ ¬ R (vblk u00)
  n01 : 0 < (bm x 0 1).c.length → vblk u01 ≠ b ∧ ¬ R (vblk u01)
  n10 : 0 < (bm x 1 0).c.length → vblk u10 ≠ b ∧ ¬ R (vblk u10)
  n11 : 0 < (bm x 1 1).c.length → vblk u11 ≠ b ∧ ¬ R (vblk u11)
theorem MB.make {R : Nat → Prop} {W0 w : World} {b : Nat} {x : Int} {u00 u01 u10 u11 : Value} (hb : Below W0.heap.size W0 w) (hge : W0.heap.size ≤ b) (hlt : b < w.heap.size) (ht : w.there b 0 8)
    (h00 : Ints w u00 (bm x 0 0).c) (h01 : Ints w u01 (bm x 0 1).c) (h10 : Ints w u10 (bm x 1 0).c) (h11 : Ints w u11 (bm x 1 1).c)
    (n00 : 0 < (bm x 0 0).c.length → vblk u00 ≠ b ∧ ¬ R (vblk u00)) (n01 : 0 < (bm x 0 1).c.length → vblk u01 ≠ b ∧ ¬ R (vblk u01)) (n10 : 0 < (bm x 1 0).c.length → vblk u10 ≠ b ∧ ¬ R (vblk u10)) (n11 : 0 < (bm x 1 1).c.length → vblk u11 ≠ b ∧ ¬ R (vblk u11)) :
    MB R W0 (w.setCells b 0 (mcs x u00 u01 u10 u11)) b x u00 u01 u10 u11 :=
  ⟨World.rangeAt_setCells_same w b 0 _ ht, World.there_setCells ht b 0 _, ints_cells h00 (fun h => (n00 h).1) 0 _, ints_cells h01 (fun h => (n01 h).1) 0 _, ints_cells h10 (fun h => (n10 h).1) 0 _, ints_cells h11 (fun h => (n11 h).1) 0 _, below_cells hge _ _ _ hb, hge, by rw [size_cells]; exact hlt, n00, n01, n10, n11⟩
theorem bm_same {x y : Int} (h : x < 0 ↔ y < 0) : bm x = bm y := by
  funext c d
  unfold bm
  by_cases hx : x < 0
  · rw [if_pos hx, if_pos (h.1 hx)]
  · rw [if_neg hx, if_neg (fun e => hx (h.2 e))]
theorem MB.same {R : Nat → Prop} {W0 W : World} {b : Nat} {x y : Int} {u00 u01 u10 u11 : Value} (m : MB R W0 W b x u00 u01 u10 u11) (h : x < 0 ↔ y < 0) : MB R W0 W b y u00 u01 u10 u11 := by
  have e := bm_same h
  obtain ⟨a1, a2, a3, a4, a5, a6, a7, a8, a9, b1, b2, b3, b4⟩ := m
  unfold mcs at a1
  rw [e] at a1 a3 a4 a5 a6 b1 b2 b3 b4
  exact ⟨a1, a2, a3, a4, a5, a6, a7, a8, a9, b1, b2, b3, b4⟩

/-! The numbers stay small. -/
structure Sm (p : LP) (N : Nat) : Prop where
  low : p.low.natAbs ≤ 1000
  len : p.c.length ≤ 1000
  sum : n1 p.c ≤ N
theorem Sm.of {p : LP} {lo hi : Int} {n m N : Nat} (h : PB p lo hi n m) (h1 : -100 ≤ lo) (h2 : hi ≤ 100) (h3 : n ≤ N) : Sm p N := by
  have hs := h.sum
  rcases h.wi with hc | hc
  · have := h.tr.zero hc
    exact ⟨by omega, by rw [hc]; simp, by omega⟩
  · by_cases e : p.c = []
    · have := h.tr.zero e
      exact ⟨by omega, by rw [e]; simp, by omega⟩
    · have := List.length_pos_iff.2 e
      exact ⟨by omega, by omega, by omega⟩
end Go.Proofs.Ytckopilciekfbaa

