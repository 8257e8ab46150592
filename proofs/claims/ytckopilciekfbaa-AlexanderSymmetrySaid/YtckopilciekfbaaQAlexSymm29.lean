/- The box of a letter's two rows: eight cells. -/
import Derived.Test.YtckopilciekfbaaQAlexSymm0
import Derived.Test.YtckopilciekfbaaQAlexSymm1
import Derived.Test.YtckopilciekfbaaQAlexSymm2
import Derived.Test.YtckopilciekfbaaQAlexSymm3
import Derived.Test.YtckopilciekfbaaQAlexSymm4
import Derived.Test.YtckopilciekfbaaQAlexSymm5
import Derived.Test.YtckopilciekfbaaQAlexSymm6
import Derived.Test.YtckopilciekfbaaQAlexSymm7
import Derived.Test.YtckopilciekfbaaQAlexSymm8
import Derived.Test.YtckopilciekfbaaQAlexSymm10
import Derived.Test.YtckopilciekfbaaQAlexSymm11
import Derived.Test.YtckopilciekfbaaQAlexSymm12
import Derived.Test.YtckopilciekfbaaQAlexSymm13
import Derived.Test.YtckopilciekfbaaQAlexSymm14
import Derived.Test.YtckopilciekfbaaQAlexSymm20
import Derived.Deep.MidRow
namespace Go.Proofs.Ytckopilciekfbaa
open Go.RowKit Go.Sl

theorem keeps_cells {W w : World} {R : Nat → Prop} (h : Keeps W R w) {b : Nat} (hb : R b) (o : Nat) (vs : List Value) : Keeps W R (w.setCells b o vs) := by
  intro p u hp hn
  rw [World.cell?_setCells_out b vs o w p (fun e _ => absurd hb (by rw [← e]; exact hn))]
  exact h p u hp hn
theorem ints_cells {w : World} {u : Value} {xs : List Int} (h : Ints w u xs) {b : Nat} (hn : 0 < xs.length → vblk u ≠ b) (o : Nat) (vs : List Value) : Ints (w.setCells b o vs) u xs := by
  refine ⟨h.1, h.2.1, fun j x hx => ?_⟩
  have hj : j < xs.length := by have := (List.getElem?_eq_some_iff.1 hx).1; simpa using this
  rw [World.cell?_setCells_out b vs o w (vat u j) (fun e _ => absurd e (hn (by omega)))]
  exact h.2.2 j x hx
theorem below_cells {B b : Nat} {w0 : World} (hb : B ≤ b) : ∀ (vs : List Value) (o : Nat) (w : World), Below B w0 w → Below B w0 (w.setCells b o vs)
  | [], _, _, h => h
  | v :: r, o, w, h => below_cells hb r (o + 1) _ (h.setCell (p := ⟨b, o, none⟩) hb v)
theorem size_cells (b : Nat) : ∀ (vs : List Value) (o : Nat) (w : World), (w.setCells b o vs).heap.size = w.heap.size
  | [], _, _ => rfl
  | v :: r, o, w => by rw [World.setCells, size_cells b r (o + 1)]; exact World.size_setCell _ _ _
theorem there_of {w : World} {b : Nat} {cs : Array Value} {t : TypeId} (h : w.heap[b]? = some (.cells cs t (0, 0))) : w.there b 0 cs.size := by
  intro j hj
  simp [World.cell?, World.frozen?, h, hj]
theorem there_below {w w' : World} {b n : Nat} (h : w.there b 0 n) (hb : Below w.heap.size w w') : w'.there b 0 n := by
  intro j hj
  obtain ⟨h1, h2⟩ := h j hj
  obtain ⟨u, hu⟩ := Option.isSome_iff_exists.1 h1
  exact ⟨by rw [cell_keep hb hu]; rfl, by rw [hb.frozen (World.block_lt_of_cell? w _ hu)]; exact h2⟩

/-- The cells of a letter's rows. -/
def mcs (x : Int) (u00 u01 u10 u11 : Value) : List Value := [.int .i64 (bm x 0 0).low, u00, .int .i64 (bm x 0 1).low, u01, .int .i64 (bm x 1 0).low, u10, .int .i64 (bm x 1 1).low, u11]
/-- The box b holds the rows of the letter x. -/
structure MB (R : Nat → Prop) (W0 W : World) (b : Nat) (x : Int) (u00 u01 u10 u11 : Value) : Prop where
  at_ : W.rangeAt b 0 (mcs x u00 u01 u10 u11)
  th : W.there b 0 8
  i00 : Ints W u00 (bm x 0 0).c
  i01 : Ints W u01 (bm x 0 1).c
  i10 : Ints W u10 (bm x 1 0).c
  i11 : Ints W u11 (bm x 1 1).c
  bel : Below W0.heap.size W0 W
  ge : W0.heap.size ≤ b
  lt : b < W.heap.size
  n00 : 0 < (bm x 0 0).c.length → vblk u00 ≠ b ∧ ¬ R (vblk u00)
  n01 : 0 < (bm x 0 1).c.length → vblk u01 ≠ b ∧ ¬ R (vblk u01)
  n10 : 0 < (bm x 1 0).c.length → vblk u10 ≠ b ∧ ¬ R (vblk u10)
  n11 : 0 < (bm x 1 1).c.length → vblk u11 ≠ b ∧ ¬ R (vblk u11)
theorem MB.make {R : Nat → Prop} {W0 w : World} {b : Nat} {x : Int} {u00 u01 u10 u11 : Value} (hb : Below W0.heap.size W0 w) (hge : W0.heap.size ≤ b) (hlt : b < w.heap.size) (ht : w.there b 0 8)
    (h00 : Ints w u00 (bm x 0 0).c) (h01 : Ints w u01 (bm x 0 1).c) (h10 : Ints w u10 (bm x 1 0).c) (h11 : Ints w u11 (bm x 1 1).c)
    (n00 : 0 < (bm x 0 0).c.length → vblk u00 ≠ b ∧ ¬ R (vblk u00)) (n01 : 0 < (bm x 0 1).c.length → vblk u01 ≠ b ∧ ¬ R (vblk u01)) (n10 : 0 < (bm x 1 0).c.length → vblk u10 ≠ b ∧ ¬ R (vblk u10)) (n11 : 0 < (bm x 1 1).c.length → vblk u11 ≠ b ∧ ¬ R (vblk u11)) :
    MB R W0 (w.setCells b 0 (mcs x u00 u01 u10 u11)) b x u00 u01 u10 u11 :=
  ⟨World.rangeAt_setCells_same w b 0 _ ht, World.there_setCells ht b 0 _, ints_cells h00 (fun h => (n00 h).1) 0 _, ints_cells h01 (fun h => (n01 h).1) 0 _, ints_cells h10 (fun h => (n10 h).1) 0 _, ints_cells h11 (fun h => (n11 h).1) 0 _, below_cells hge _ _ _ hb, hge, by rw [size_cells]; exact hlt, n00, n01, n10, n11⟩
theorem mcs_one {x : Int} {u00 u01 u10 u11 : Value} (h00 : IsSl u00) (h01 : IsSl u01) (h10 : IsSl u10) (h11 : IsSl u11) : (mcs x u00 u01 u10 u11).toArray.all (·.oneCell') = true := by
  refine all_oneCell_toArray fun v hv => ?_
  simp only [mcs, List.mem_cons, List.not_mem_nil, or_false] at hv
  rcases hv with rfl | rfl | rfl | rfl | rfl | rfl | rfl | rfl <;> first | rfl | exact oneCell'_sl (by assumption)
theorem bm_n00 : bm (-1) 0 0 = pzero := by simp [bm]
theorem bm_n01 : bm (-1) 0 1 = pterm 1 0 := by simp [bm]
theorem bm_n10 : bm (-1) 1 0 = pterm 1 (-1) := by simp [bm]
theorem bm_n11 : bm (-1) 1 1 = trimP (-1) [-1, 1] := by simp [bm]
theorem mcs_n (u00 u01 u10 u11 : Value) : mcs (-1) u00 u01 u10 u11 = [.int .i64 0, u00, .int .i64 (pterm 1 0).low, u01, .int .i64 (pterm 1 (-1)).low, u10, .int .i64 (trimP (-1) [-1, 1]).low, u11] := by unfold mcs; rw [bm_n00, bm_n01, bm_n10, bm_n11]; rfl
theorem bm_same {x y : Int} (h : x < 0 ↔ y < 0) : bm x = bm y := by
  funext c d
  unfold bm
  by_cases hx : x < 0
  · rw [if_pos hx, if_pos (h.1 hx)]
  · rw [if_neg hx, if_neg (fun e => hx (h.2 e))]
theorem MB.same {R : Nat → Prop} {W0 W : World} {b : Nat} {x y : Int} {u00 u01 u10 u11 : Value} (m : MB R W0 W b x u00 u01 u10 u11) (h : x < 0 ↔ y < 0) : MB R W0 W b y u00 u01 u10 u11 := by
  have e := bm_same h
  obtain ⟨a1, a2, a3, a4, a5, a6, a7, a8, a9, b1, b2, b3, b4⟩ := m
  unfold mcs at a1
  rw [e] at a1 a3 a4 a5 a6 b1 b2 b3 b4
  exact ⟨a1, a2, a3, a4, a5, a6, a7, a8, a9, b1, b2, b3, b4⟩

/-! The numbers stay small. -/
structure Sm (p : LP) (N : Nat) : Prop where
  low : p.low.natAbs ≤ 1000
  len : p.c.length ≤ 1000
  sum : n1 p.c ≤ N
theorem Sm.of {p : LP} {lo hi : Int} {n m N : Nat} (h : PB p lo hi n m) (h1 : -100 ≤ lo) (h2 : hi ≤ 100) (h3 : n ≤ N) : Sm p N := by
  have hs := h.sum
  rcases h.wi with hc | hc
  · have := h.tr.zero hc
    exact ⟨by omega, by rw [hc]; simp, by omega⟩
  · by_cases e : p.c = []
    · have := h.tr.zero e
      exact ⟨by omega, by rw [e]; simp, by omega⟩
    · have := List.length_pos_iff.2 e
      exact ⟨by omega, by omega, by omega⟩
theorem bm_sm (x : Int) (c d : Nat) : Sm (bm x c d) 2 := Sm.of (pb_bm x c d) (by omega) (by omega) (Nat.le_refl _)
theorem entry_sm {n : Nat} {xs : List Int} (hw : NWord n xs) (hl : xs.length ≤ 20) (i : Nat) {k : Nat} (hk : k < n) : PB (nthp (rowM n xs i) k) (-20) 21 1099511627776 1099511627776 := by
  have h4 : 4 ^ xs.length ≤ 1099511627776 := by
    have := Nat.pow_le_pow_right (show 0 < 4 by decide) hl
    simpa using this
  exact (pb_rowM hw i hk).mono (by omega) (by omega) h4 h4
theorem mul_sm {a : LP} (h : PB a (-20) 21 1099511627776 1099511627776) (x : Int) (c d : Nat) : Sm (pmul a (bm x c d)) 2199023255552 := Sm.of (h.mul (pb_bm x c d)) (by omega) (by omega) (by omega)
theorem times_sm (a b : LP) (sa sb : Value) (w : World) (ha : Ints w sa a.c) (hb : Ints w sb b.c) (h1 : PB a (-20) 21 1099511627776 1099511627776) (h2 : Sm b 2) :
    Calls Try.prog 82 #[.agg #[.int .i64 a.low, sa], .agg #[.int .i64 b.low, sb]] w fun e w' => ∃ s, e = .returned (.agg #[.int .i64 (pmul a b).low, s]) ∧ OwnI w' w.heap.size s (pmul a b).c ∧ Below w.heap.size w w' := by
  have k1 := Sm.of h1 (by omega) (by omega) (Nat.le_refl _)
  have l1 := k1.low; have l2 := h2.low; have c1 := k1.len; have c2 := h2.len
  have := Nat.mul_le_mul k1.sum h2.sum
  exact ltimes_calls a b sa sb w ha hb (by omega) (by omega) (by omega) (by omega) (by omega)
theorem plus_sm (a b : LP) (sa sb : Value) (w : World) (ha : Ints w sa a.c) (hb : Ints w sb b.c) (h1 : Sm a 2199023255552) (h2 : Sm b 2199023255552) :
    Calls Try.prog 65 #[.agg #[.int .i64 a.low, sa], .agg #[.int .i64 b.low, sb], .int .i64 1] w fun e w' => ∃ s, e = .returned (.agg #[.int .i64 (padd a b 1).low, s]) ∧ OwnI w' w.heap.size s (padd a b 1).c ∧ Below w.heap.size w w' := by
  have l1 := h1.low; have l2 := h2.low; have c1 := h1.len; have c2 := h2.len; have n1' := h1.sum; have n2' := h2.sum
  exact plus_calls a b 1 sa sb w ha hb (by omega) (by omega) (by omega) (by omega) (by decide) (by omega)

/-! The rows one after the other. -/
def rst (x : Int) (p : Nat) (row : List LP) (A B : LP) (k : Nat) : List LP :=
  if k = 0 then row else if k = 1 then row.set p (bent x A B 0) else (row.set p (bent x A B 0)).set (p + 1) (bent x A B 1)
theorem rst_length (x : Int) (p : Nat) (row : List LP) (A B : LP) (k : Nat) : (rst x p row A B k).length = row.length := by
  unfold rst; split
  · rfl
  · split <;> simp
theorem rst_step0 {x : Int} {p : Nat} {row : List LP} {A B : LP} {M : List (List LP)} {r : Nat} (hr : r < M.length) :
    (M.set r (rst x p row A B 0)).set r ((nthm (M.set r (rst x p row A B 0)) r).set p (bent x A B 0)) = M.set r (rst x p row A B 1) := by
  rw [nthm_set hr, if_pos rfl, List.set_set]; rfl
theorem rst_step1 {x : Int} {p : Nat} {row : List LP} {A B : LP} {M : List (List LP)} {r : Nat} (hr : r < M.length) :
    (M.set r (rst x p row A B 1)).set r ((nthm (M.set r (rst x p row A B 1)) r).set (p + 1) (bent x A B 1)) = M.set r (rst x p row A B 2) := by
  rw [nthm_set hr, if_pos rfl, List.set_set]; rfl
theorem set_nthm {M : List (List LP)} {r : Nat} (hr : r < M.length) : M.set r (nthm M r) = M := by
  rw [nthm_lt hr]; simp
theorem rst_last {x : Int} {p : Nat} (hp : x.natAbs = p + 1) (row : List LP) : rst x p row (nthp row p) (nthp row (p + 1)) 2 = brow x row := by
  unfold rst brow
  rw [hp]; rfl
theorem rows_next (f : List LP → List LP) (M : List (List LP)) (r : Nat) (hr : r < M.length) : ((M.take r).map f ++ M.drop r).set r (f (nthm M r)) = (M.take (r + 1)).map f ++ M.drop (r + 1) := by
  rw [List.set_append_right _ _ (by simp; omega), List.drop_eq_getElem_cons hr]
  have e : r - ((M.take r).map f).length = 0 := by simp; omega
  rw [e, List.set_cons_zero, ← List.take_append_getElem (h := hr), nthm_lt hr, List.map_append]
  simp only [List.map_cons, List.map_nil, List.append_assoc, List.cons_append, List.nil_append]
theorem burauM_succ (n : Nat) (xs : List Int) {m : Nat} (hm : m < xs.length) : burauM n (xs.take (m + 1)) = (burauM n (xs.take m)).map (brow (nth xs m)) := by
  rw [← List.take_append_getElem (h := hm), nth_lt hm]
  unfold burauM
  rw [List.foldl_append]
  rfl

end Go.Proofs.Ytckopilciekfbaa

