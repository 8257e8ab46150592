/- PolyDetRows: the swapped matrix, and the lengths of a polynomial and its opposite. -/
import Derived.Test.YtmcecmnbdcbehaaQPolyDetRows0
import Derived.Test.YtmcecmnbdcbehaaQPolyDetRows1
import Derived.Test.YtmcecmnbdcbehaaQPolyDetRows2
import Derived.Test.YtmcecmnbdcbehaaQPolyDetRows3
import Derived.Test.YtmcecmnbdcbehaaQPolyDetRows4
import Derived.Test.YtmcecmnbdcbehaaQPolyDetRows5
import Derived.Test.YtmcecmnbdcbehaaQPolyDetRows6
import Derived.Test.YtmcecmnbdcbehaaQPolyDetRows7
import Derived.Test.YtmcecmnbdcbehaaQPolyDetRows8
import Derived.Test.YtmcecmnbdcbehaaQPolyDetRows9
import Derived.Test.YtmcecmnbdcbehaaQPolyDetRows10
import Derived.Test.YtmcecmnbdcbehaaQPolyDetRows11
import Derived.Test.YtmcecmnbdcbehaaQPolyDetRows12
import Derived.Test.YtmcecmnbdcbehaaQPolyDetRows13
import Derived.Test.YtmcecmnbdcbehaaQPolyDetRows14
import Derived.Test.YtmcecmnbdcbehaaQPolyDetRows15
import Derived.Test.YtmcecmnbdcbehaaQPolyDetRows16
import Derived.Test.YtmcecmnbdcbehaaQPolyDetRows17
import Derived.Test.YtmcecmnbdcbehaaQPolyDetRows18
import Derived.Test.YtmcecmnbdcbehaaQPolyDetRows19
import Derived.Test.YtmcecmnbdcbehaaQPolyDetRows20
import Derived.Test.YtmcecmnbdcbehaaQPolyDetRows21
import Derived.Test.YtmcecmnbdcbehaaQPolyDetRows22
import Derived.Test.YtmcecmnbdcbehaaQPolyDetRows23
import Derived.Test.YtmcecmnbdcbehaaQPolyDetRows24
import Derived.Test.YtmcecmnbdcbehaaQPolyDetRows25
import Derived.Test.YtmcecmnbdcbehaaQPolyDetRows26
import Derived.Test.YtmcecmnbdcbehaaQPolyDetRows27
import Derived.Test.YtmcecmnbdcbehaaQPolyDetRows28
import Derived.Test.YtmcecmnbdcbehaaQPolyDetRows29
import Derived.Test.YtmcecmnbdcbehaaQPolyDetRows30
import Derived.Deep.RegionLaw
import Derived.RangeFuncNested
import Derived.RangeFuncBound
import Derived.RangeFuncCalls
import Derived.RangeFuncLeaves
import Derived.RangeFuncBox
import Derived.Shelf.Abstract
import Derived.Shelf.RegionOpen
import Derived.OwnWalkIn
import Derived.TacticsInMore
import Derived.LoopNIn
import Derived.LoopIn
import Derived.Maps.AppendAt
namespace Go.Proofs.Ytmcecmnbdcbehaa
open Go.RowKit Go.Sl

theorem OwnGI.off_pair {w : World} {B X : Nat} {x a b : Value} {xs : List Int} (h : OwnGI w B x xs) (hp : Pair w X 27 a b) : ∀ k, Go.Sl.row x = some k → X ≠ k := by
  intro k hk e
  obtain ⟨h0, rfl⟩ := row_eq hk
  obtain ⟨_, c1, x1, _⟩ := h.2.2 h0
  subst e
  have hp' : w.heap[vblk x]? = some (.cells #[a, b] 27 (0, 0)) := hp
  rw [hp'] at x1
  injection x1 with x1
  injection x1 with _ x3
  exact poly_ne_int x3
theorem OwnGI.setPair {w : World} {B X : Nat} {x a b : Value} {xs : List Int} (h : OwnGI w B x xs) (hp : Pair w X 27 a b) (c d : Value) : OwnGI ((w.setCell ⟨X, 0, none⟩ c).setCell ⟨X, 1, none⟩ d) B x xs :=
  (OwnGI.setOther h (p := ⟨X, 0, none⟩) (h.off_pair hp) c).setOther (p := ⟨X, 1, none⟩) (h.off_pair hp) d
theorem TRow.setPair {w : World} {B X : Nat} {v a b : Value} {us : List Value} {ps : List LP} (h : TRow w B v us ps) (hp : Pair w X 27 a b) (hX : ∀ k, Go.Sl.row v = some k → X ≠ k) (c d : Value) : TRow ((w.setCell ⟨X, 0, none⟩ c).setCell ⟨X, 1, none⟩ d) B v us ps :=
  ⟨(h.own.setOther (p := ⟨X, 0, none⟩) hX c).setOther (p := ⟨X, 1, none⟩) hX d, h.len, fun j hj => (h.each j hj).setPair hp c d⟩
theorem Pair.keepSet {w : World} {B X : Nat} {t : TypeId} {a b : Value} (h : Pair w B t a b) (hX : X ≠ B) (c d : Value) : Pair ((w.setCell ⟨X, 0, none⟩ c).setCell ⟨X, 1, none⟩ d) B t a b :=
  (Below.heap_setCell _ _ _ B (fun e => hX e.symm)).trans ((Below.heap_setCell _ _ _ B (fun e => hX e.symm)).trans h)
theorem Pair.keepGrown {w w' : World} {B : Nat} {t : TypeId} {a b : Value} (h : Pair w B t a b) {r : Option Nat} (hg : w.grownBy w' r) (hr : ∀ k, r = some k → B ≠ k) : Pair w' B t a b :=
  (hg.block B h.lt (fun e => hr B e.symm rfl)).trans h

/-- The state inside a round. -/
structure Rnd (Wo w : World) (b0 D X : Nat) (r low : Value) (us ls : List Value) (R L : List LP) (p : LP) (pc : Value) (d : LP) (dc : Value) : Prop where
  trow : TRow w Wo.heap.size r us R
  tlow : TRow w Wo.heap.size low ls L
  ap : ∀ k, Go.Sl.row r = some k → Go.Sl.row low ≠ some k
  box : Pair w X 27 (.int .i64 p.low) pc
  pcs : OwnGI w Wo.heap.size pc p.c
  diag : Pair w D 27 (.int .i64 d.low) dc
  dcs : OwnGI w b0 dc d.c
  keep : Wo.grownBy w (some D)
  rx : ∀ k, Go.Sl.row r = some k → X ≠ k
  lx : ∀ k, Go.Sl.row low = some k → X ≠ k
  hX : Wo.heap.size ≤ X
  hD : D < Wo.heap.size
section
variable {Wo w w' : World} {b0 D X : Nat} {r low : Value} {us ls : List Value} {R L : List LP} {p : LP} {pc : Value} {d : LP} {dc : Value}
theorem Rnd.size (h : Rnd Wo w b0 D X r low us ls R L p pc d dc) : Wo.heap.size ≤ w.heap.size := h.keep.size
theorem Rnd.below (h : Rnd Wo w b0 D X r low us ls R L p pc d dc) (hb : Below w.heap.size w w') : Rnd Wo w' b0 D X r low us ls R L p pc d dc :=
  ⟨h.trow.below hb, h.tlow.below hb, h.ap, h.box.below hb, h.pcs.below hb, h.diag.below hb, h.dcs.below hb, Keep.below h.keep (hb.mono h.size), h.rx, h.lx, h.hX, h.hD⟩
theorem Rnd.pushRow (h : Rnd Wo w b0 D X r low us ls R L p pc d dc) {v' : Value} (ho : Go.Sl.Own w' Wo.heap.size 27 2 v' (Go.Proofs.Ytmcecmnbdcbehaa.pcs us R ++ [.int .i64 p.low, pc])) (hg : w.grownBy w' (Go.Sl.row r))
    (hr : ∀ k, Go.Sl.row v' = some k → Go.Sl.row r = some k ∨ w.heap.size ≤ k) : Rnd Wo w' b0 D X v' low (us ++ [pc]) ls (R ++ [p]) L p pc d dc := by
  refine ⟨h.trow.push h.pcs ho hg, h.tlow.grownP h.trow.own (fun k hk e => h.ap k e hk) hg, fun k hk e => ?_, h.box.keepGrown hg h.rx, h.pcs.grown hg (apart_GI poly_ne_int h.pcs h.trow.own),
    h.diag.keepGrown hg fun k hk e => ?_, h.dcs.grown hg (apart_GI poly_ne_int h.dcs h.trow.own), Keep.grown h.keep hg fun k hk => (h.trow.own.lt k hk).1, fun k hk e => ?_, h.lx, h.hX, h.hD⟩
  · rcases hr k hk with h1 | h1
    · exact h.ap k h1 e
    · have := (h.tlow.own.lt k e).2; omega
  · have := (h.trow.own.lt k hk).1; have := h.hD; omega
  · rcases hr k hk with h1 | h1
    · exact h.rx k h1 e
    · have := h.box.lt; omega
theorem Rnd.pushLow (h : Rnd Wo w b0 D X r low us ls R L p pc d dc) {v' : Value} (ho : Go.Sl.Own w' Wo.heap.size 27 2 v' (Go.Proofs.Ytmcecmnbdcbehaa.pcs ls L ++ [.int .i64 p.low, pc])) (hg : w.grownBy w' (Go.Sl.row low))
    (hr : ∀ k, Go.Sl.row v' = some k → Go.Sl.row low = some k ∨ w.heap.size ≤ k) : Rnd Wo w' b0 D X r v' us (ls ++ [pc]) R (L ++ [p]) p pc d dc := by
  refine ⟨h.trow.grownP h.tlow.own h.ap hg, h.tlow.push h.pcs ho hg, fun k hk e => ?_, h.box.keepGrown hg h.lx, h.pcs.grown hg (apart_GI poly_ne_int h.pcs h.tlow.own),
    h.diag.keepGrown hg fun k hk e => ?_, h.dcs.grown hg (apart_GI poly_ne_int h.dcs h.tlow.own), Keep.grown h.keep hg fun k hk => (h.tlow.own.lt k hk).1, h.rx, fun k hk e => ?_, h.hX, h.hD⟩
  · rcases hr k e with h1 | h1
    · exact h.ap k hk h1
    · have := (h.trow.own.lt k hk).2; omega
  · have := (h.tlow.own.lt k hk).1; have := h.hD; omega
  · rcases hr k hk with h1 | h1
    · exact h.lx k h1 e
    · have := h.box.lt; omega
/-- The box is written. -/
theorem Rnd.put (h : Rnd Wo w b0 D X r low us ls R L p pc d dc) {q : LP} {qc : Value} (hq : OwnGI w Wo.heap.size qc q.c) :
    Rnd Wo ((w.setCell ⟨X, 0, none⟩ (.int .i64 q.low)).setCell ⟨X, 1, none⟩ qc) b0 D X r low us ls R L q qc d dc :=
  ⟨h.trow.setPair h.box h.rx _ _, h.tlow.setPair h.box h.lx _ _, h.ap, h.box.set _ _, hq.setPair h.box _ _, h.diag.keepSet (by have := h.hX; have := h.hD; omega) _ _, h.dcs.setPair h.box _ _,
    Keep.setNew (Keep.setNew h.keep (p := ⟨X, 0, none⟩) h.hX _) (p := ⟨X, 1, none⟩) h.hX _, h.rx, h.lx, h.hX, h.hD⟩
/-- The diagonal's product is written. -/
theorem Rnd.mul (h : Rnd Wo w b0 D X r low us ls R L p pc d dc) {q : LP} {qc : Value} (hq : OwnGI w b0 qc q.c) :
    Rnd Wo ((w.setCell ⟨D, 0, none⟩ (.int .i64 q.low)).setCell ⟨D, 1, none⟩ qc) b0 D X r low us ls R L p pc q qc :=
  ⟨h.trow.setPair h.diag (fun k hk e => by have := (h.trow.own.lt k hk).1; have := h.hD; omega) _ _, h.tlow.setPair h.diag (fun k hk e => by have := (h.tlow.own.lt k hk).1; have := h.hD; omega) _ _, h.ap,
    h.box.keepSet (by have := h.hX; have := h.hD; omega) _ _, h.pcs.setPair h.diag _ _, h.diag.set _ _, hq.setPair h.diag _ _, Keep.set (Keep.set h.keep _ 0) _ 1, h.rx, h.lx, h.hX, h.hD⟩
end

/-- The entry at this place of the raw numbers. -/
def pAt (xss : List (List Int)) (a : Nat) : LP := if a < xss.length then polyL a ((nthr xss a).take 4) else pzero
theorem pAt_eb (xss : List (List Int)) (a : Nat) : EB (pAt xss a) := by
  unfold pAt
  split
  · exact eb_polyL _ _ (by simp; omega)
  · exact EB.zero
theorem lowM_eb {P : Nat → Nat → LP} (h : ∀ i j, EB (P i j)) (i j : Nat) : EB (lowM P i j) := by
  unfold lowM; split
  · exact EB.zero
  · exact h i j
def rowOf (P : Nat → Nat → LP) (n i : Nat) : List LP := (List.range n).map fun j => P i j
theorem rowOf_length (P : Nat → Nat → LP) (n i : Nat) : (rowOf P n i).length = n := by simp [rowOf]
theorem rowOf_take {P : Nat → Nat → LP} {n i j : Nat} (h : j < n) : (rowOf P n i).take j ++ [P i j] = (rowOf P n i).take (j + 1) := by
  rw [List.take_succ_eq_append_getElem (by rw [rowOf_length]; exact h)]; simp [rowOf]
theorem matM_take {P : Nat → Nat → LP} {n i : Nat} (h : i < n) : (matM n P).take i ++ [rowOf P n i] = (matM n P).take (i + 1) := by
  rw [List.take_succ_eq_append_getElem (by simpa [matM] using h)]; simp [matM, rowOf]

end Go.Proofs.Ytmcecmnbdcbehaa

namespace Go.Proofs.Ytmcecmnbdcbehaa
open Go.RowKit Go.Sl

def negP (p : LP) : LP := ⟨p.low, p.c.map fun x => -x⟩
theorem nth_neg (l : List Int) (i : Nat) : nth (l.map fun x => -x) i = -nth l i := by
  rcases Nat.lt_or_ge i l.length with h | h
  · rw [nth_lt (by simpa using h), nth_lt h]; simp
  · rw [nth_ge (by simpa using h), nth_ge h]; rfl
theorem negP_trimmed {p : LP} (h : Trimmed p) : Trimmed (negP p) := by
  refine ⟨fun hc => h.zero (by simpa [negP] using hc), fun hc => ?_, fun hc => ?_⟩
  · have := h.first (by simpa [negP] using hc)
    show nth (p.c.map fun x => -x) 0 ≠ 0
    rw [nth_neg]; omega
  · have := h.last (by simpa [negP] using hc)
    show nth (p.c.map fun x => -x) ((p.c.map fun x => -x).length - 1) ≠ 0
    rw [nth_neg, List.length_map]; omega
theorem evL_neg (l : List Int) (t : Rat) : evL (l.map fun x => -x) t = -evL l t := by
  induction l with
  | nil => simp [evL]
  | cons x l ih =>
    simp only [List.map_cons, evL, ih]
    have : ((-x : Int) : Rat) = -(x : Rat) := by simp
    rw [this]; grind
theorem ev_negP (p : LP) (t : Rat) : ev (negP p) t = -ev p t := by
  simp only [ev, negP, evL_neg]; grind
theorem sum_zero_len {p q : LP} (hp : Trimmed p) (hq : Trimmed q) (h : padd p q 1 = pzero) : p.c.length = q.c.length := by
  have : q = negP p := ev_ext hq (negP_trimmed hp) fun t ht => by
    have := ev_padd p q 1 ht
    rw [h, ev_pzero] at this
    rw [ev_negP]; simp at this; grind
  rw [this]; simp [negP]
theorem swap_read {W : World} {B : Nat} {u v : Value} {vs : List Value} {P : Nat → Nat → LP} {n x y : Nat} (hm : MRead W v vs (matM n P)) (hx : x < n) (hy : y < n)
    (ho : Go.Sl.Own W B 28 1 u ((vs.set x (nthv vs y)).set y (nthv vs x))) : MRead W u ((vs.set x (nthv vs y)).set y (nthv vs x)) (matM n (swapM x y P)) := by
  have hl : vs.length = n := by rw [hm.len]; simp [matM]
  refine ⟨ho.sl, by simp [hl, matM], fun i hi => ?_⟩
  have hi' : i < n := by simpa [matM] using hi
  have key : ∀ k, k < n → ∃ us, PRead W (nthv vs k) us ((List.range n).map fun j => P k j) := fun k hk => by
    obtain ⟨us, h⟩ := hm.row k (by simpa [matM] using hk)
    rw [nthm_matM hk] at h
    exact ⟨us, h⟩
  rw [nthm_matM hi']
  rw [nthv_set (by simp; omega), nthv_set (by omega)]
  unfold swapM
  by_cases e1 : i = y
  · subst e1
    rw [if_pos rfl]
    by_cases e2 : i = x
    · subst e2; simp only [if_true]; exact key i hi'
    · simp only [if_neg e2, if_true]; exact key x hx
  · rw [if_neg e1]
    by_cases e2 : i = x
    · simp only [if_pos e2]; exact key y hy
    · simp only [if_neg e2, if_neg e1]; exact key i hi'
theorem swapM_eb {P : Nat → Nat → LP} (h : ∀ i j, EB (P i j)) (x y i j : Nat) : EB (swapM x y P i j) := by
  unfold swapM; split
  · exact h _ _
  · split <;> exact h _ _
theorem matM_eb {n : Nat} {P : Nat → Nat → LP} (h : ∀ i j, EB (P i j)) : ∀ i j, i < n → j < n → EB (nthp (nthm (matM n P) i) j) := fun i j hi hj => by rw [nthp_matM hi hj]; exact h i j

end Go.Proofs.Ytmcecmnbdcbehaa

