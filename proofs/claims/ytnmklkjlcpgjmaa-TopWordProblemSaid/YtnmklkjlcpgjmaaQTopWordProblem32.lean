/- artin.Images walked. -/
import Derived.Test.YtnmklkjlcpgjmaaQTopWordProblem0
import Derived.Test.YtnmklkjlcpgjmaaQTopWordProblem1
import Derived.Test.YtnmklkjlcpgjmaaQTopWordProblem3
import Derived.Test.YtnmklkjlcpgjmaaQTopWordProblem5
import Derived.Test.YtnmklkjlcpgjmaaQTopWordProblem6
import Derived.Test.YtnmklkjlcpgjmaaQTopWordProblem7
import Derived.Test.YtnmklkjlcpgjmaaQTopWordProblem8
import Derived.Test.YtnmklkjlcpgjmaaQTopWordProblem9
import Derived.Test.YtnmklkjlcpgjmaaQTopWordProblem10
import Derived.Test.YtnmklkjlcpgjmaaQTopWordProblem11
import Derived.Test.YtnmklkjlcpgjmaaQTopWordProblem15
import Derived.Test.YtnmklkjlcpgjmaaQTopWordProblem16
import Derived.Test.YtnmklkjlcpgjmaaQTopWordProblem17
import Derived.Test.YtnmklkjlcpgjmaaQTopWordProblem18
import Derived.Test.YtnmklkjlcpgjmaaQTopWordProblem19
import Derived.Test.YtnmklkjlcpgjmaaQTopWordProblem20
import Derived.Test.YtnmklkjlcpgjmaaQTopWordProblem31
import Derived.Deep.RegionHeld3
namespace Go.Proofs.Ytnmklkjlcpgjmaa
open Go.RowKit Go.Sl
attribute [local go_sem] Oper.semAt_some

/-- The call's own slice of slices, its rows by name; no row lies in its own block. -/
def OR (W : World) (B : Nat) (u : Value) (vs : List Value) (xss : List (List Int)) : Prop :=
  Go.Sl.Own W B 22 1 u vs ∧ vs.length = xss.length ∧ (∀ i, i < xss.length → Ints W (nthv vs i) (nthr xss i)) ∧ ∀ i, i < xss.length → 0 < (nthr xss i).length → row u ≠ some (vblk (nthv vs i))

section
variable {W W' : World} {B : Nat} {u r : Value} {vs : List Value} {xss : List (List Int)} {ys : List Int} {j : Nat}
theorem OR.rows (h : OR W B u vs xss) : RowsV W u vs xss := ⟨h.1.sl, h.2.1, h.2.2.1⟩
theorem OR.below (h : OR W B u vs xss) (hb : Below W.heap.size W W') : OR W' B u vs xss := ⟨h.1.below hb, h.2.1, fun i hi => (h.2.2.1 i hi).below hb, h.2.2.2⟩
theorem OR.frozen (h : OR W B u vs xss) (hj : j < xss.length) : W.frozen? (vat u j) = false := h.1.frozen (by rw [h.2.1]; exact hj)
theorem OR.ge (h : OR W B u vs xss) (hj : j < xss.length) : B ≤ vblk u := h.1.ge (j := j) (by rw [h.2.1]; exact hj)
theorem OR.row_of (h : OR W B u vs xss) (hj : j < xss.length) : row u = some (vblk u) := row_some (h.1.cap_of (j := j) (by rw [h.2.1]; exact hj))
theorem OR.lt (h : OR W B u vs xss) (hj : j < xss.length) : vblk u < W.heap.size := (h.1.lt _ (h.row_of hj)).2
theorem OR.apart (h : OR W B u vs xss) : OwnR.apart W B u xss := ⟨vs, h.1, h.2.1, h.2.2.1, h.2.2.2⟩
theorem ints_keep (h : OR W B u vs xss) (hj : j < xss.length) (hy : Ints W r ys) (hap : 0 < ys.length → row u ≠ some (vblk r)) (x : Value) : Ints (W.setCell (vat u j) x) r ys := by
  rcases Nat.eq_zero_or_pos ys.length with h0 | h0
  · obtain rfl := List.eq_nil_of_length_eq_zero h0
    exact ⟨hy.1, hy.2.1, by simp⟩
  · exact hy.setOther (fun e => hap h0 (by rw [h.row_of hj, ← e]; rfl)) x
theorem OR.set (h : OR W B u vs xss) (hj : j < xss.length) (hy : Ints W r ys) (hap : 0 < ys.length → row u ≠ some (vblk r)) : OR (W.setCell (vat u j) r) B u (vs.set j r) (xss.set j ys) := by
  have hvl := h.2.1
  refine ⟨h.1.set (by omega) r, by simp [hvl], fun i hi => ?_, fun i hi h0 => ?_⟩
  · rw [List.length_set] at hi
    by_cases e : j = i
    · subst e
      have e1 : nthv (vs.set j r) j = r := by rw [nthv_lt (by simp; omega)]; simp
      have e2 : nthr (xss.set j ys) j = ys := by rw [nthr_lt (by simp; omega)]; simp
      rw [e1, e2]
      exact ints_keep h hj hy hap r
    · have e1 : nthv (vs.set j r) i = nthv vs i := by simp [nthv, List.getElem?_set_ne e]
      have e2 : nthr (xss.set j ys) i = nthr xss i := by simp [nthr, List.getElem?_set_ne e]
      rw [e1, e2]
      exact ints_keep h hj (h.2.2.1 i hi) (h.2.2.2 i hi) r
  · rw [List.length_set] at hi
    by_cases e : j = i
    · subst e
      have e1 : nthv (vs.set j r) j = r := by rw [nthv_lt (by simp; omega)]; simp
      have e2 : nthr (xss.set j ys) j = ys := by rw [nthr_lt (by simp; omega)]; simp
      rw [e1]; rw [e2] at h0
      exact hap h0
    · have e1 : nthv (vs.set j r) i = nthv vs i := by simp [nthv, List.getElem?_set_ne e]
      have e2 : nthr (xss.set j ys) i = nthr xss i := by simp [nthr, List.getElem?_set_ne e]
      rw [e1]; rw [e2] at h0
      exact h.2.2.2 i hi h0
theorem own_apart (h : OR W B u vs xss) (hj : j < xss.length) (hr : OwnI W' W.heap.size r ys) : 0 < ys.length → row u ≠ some (vblk r) := fun h0 e => by
  have h1 := (hr.lt (vblk r) (row_some (by have := hr.ints.cap; omega))).1
  rw [h.row_of hj] at e
  have h2 := h.lt hj
  have h3 : vblk u = vblk r := Option.some.inj e
  omega
end

theorem ints_kept {W W' : World} {r : Value} {ys : List Int} {row : Option Nat} (h : Ints W r ys) (hg : W.grownBy W' row) (hr : ∀ k, row = some k → ∃ o : Obj, W.heap[k]? = some o ∧ o.isCells = false) : Ints W' r ys := by
  refine h.keep hg fun h0 e => ?_
  obtain ⟨o, ho, hc⟩ := hr _ e
  have := h.cell h0
  simp only [World.cell?, vat_block] at this
  rw [ho] at this
  cases o <;> simp_all [Obj.isCells]
theorem or_kept {W W' : World} {B : Nat} {u : Value} {vs : List Value} {xss : List (List Int)} {rw0 : Option Nat} (h : OR W B u vs xss) (hg : W.grownBy W' rw0) (hr : ∀ k, rw0 = some k → ∃ o : Obj, W.heap[k]? = some o ∧ o.isCells = false) : OR W' B u vs xss := by
  refine ⟨h.1.grown hg fun k hk e => ?_, h.2.1, fun i hi => ints_kept (h.2.2.1 i hi) hg hr, h.2.2.2⟩
  obtain ⟨o, ho, hc⟩ := hr _ e
  obtain ⟨h0, hb⟩ := row_eq hk
  obtain ⟨_, _, cur, hh, _⟩ := h.1.2.2 h0
  rw [hb, ho] at hh
  cases hh
  cases hc

theorem sl_threeA (w : World) (u v x : Value) (e : TypeId) : Sl (w.alloc (.cells #[u, v, x] e)) (.slice (some ⟨w.heap.size, 0, none⟩) 3 3) 1 [u, v, x] := by
  refine ⟨isSl_mk _ _ _ _ (Nat.le_refl _) (by unfold maxLen; omega), by simp, fun j y hj => ?_⟩
  match j, hj with
  | 0, hj =>
    simp at hj; subst hj
    exact cell_of_row (w.alloc (.cells #[u, v, x] e)) w.heap.size 0 #[u, v, x] e (0, 0) (heap_alloc_new w (.cells #[u, v, x] e))
  | 1, hj =>
    simp at hj; subst hj
    exact cell_of_row (w.alloc (.cells #[u, v, x] e)) w.heap.size 1 #[u, v, x] e (0, 0) (heap_alloc_new w (.cells #[u, v, x] e))
  | 2, hj =>
    simp at hj; subst hj
    exact cell_of_row (w.alloc (.cells #[u, v, x] e)) w.heap.size 2 #[u, v, x] e (0, 0) (heap_alloc_new w (.cells #[u, v, x] e))
  | j + 3, hj => simp at hj
theorem rowsV_3A {w : World} {u v x : Value} {xs ys zs : List Int} (h : Ints w u xs) (k : Ints w v ys) (l : Ints w x zs) : RowsV (w.alloc (.cells #[u, v, x] 22)) (.slice (some ⟨w.heap.size, 0, none⟩) 3 3) [u, v, x] [xs, ys, zs] := by
  refine ⟨sl_threeA w u v x _, rfl, fun i hi => ?_⟩
  simp only [List.length_cons, List.length_nil] at hi
  rcases (show i = 0 ∨ i = 1 ∨ i = 2 by omega) with rfl | rfl | rfl
  · exact h.alloc _
  · exact k.alloc _
  · exact l.alloc _


theorem run_build3 {P : Program} (w : World) (t e : TypeId) (i : TypeInfo) (z : Value) (ht : P.underlying t = some (.slice e)) (hi : P.info? e = some i) (hz : i.zero = some z) (hsize : i.size = 1) (hzs : z.cells = #[z])
    {v u r : Value} (hv : v.cells = #[v]) (hu : u.cells = #[u]) (hr : r.cells = #[r]) :
    (Instr.buildSlice t 3 #[(0, v), (1, u), (2, r)]).run P w = .ok (.slice (some ⟨w.heap.size, 0, none⟩) 3 3) (w.alloc (.cells #[v, u, r] e)) := by
  simp [Instr.buildSlice, run_underlying ht, sizeOf, typeInfo, hi, hsize, zeroValue, hz, hzs, newRow, Instr.fill, hv, hu, hr, show Array.range 3 = #[0, 1, 2] from by decide]
theorem wp_build3 {w : World} {o : Oper} {a : Act} {K : Act → World → Prop} {Q : Exit → Act → World → Prop} (x y z : Operand) (ho : o.op = Op.buildSlice 41 3 #[(0, x), (1, y), (2, z)])
    {v u r : Value} (hx : a.eval x = v) (hy : a.eval y = u) (hz : a.eval z = r) (hv : IsSl v) (hu : IsSl u) (hr : IsSl r)
    (h : K (a.put o.dst (.slice (some ⟨w.heap.size, 0, none⟩) 3 3)) (w.alloc (.cells #[v, u, r] 22))) : Oper.wp Try.prog o a w K Q := by
  obtain ⟨i, hi, hz0, hz1, hz2⟩ := info_parts info_slice
  have hrn := run_build3 (P := Try.prog) w 41 22 i _ Try.underlying41 hi hz0 hz1 rfl (cells_of_sl hv) (cells_of_sl hu) (cells_of_sl hr)
  unfold Oper.wp execOp
  simp only [ho, Sem.run_bind, List.map_toArray, List.map_cons, List.map_nil, hx, hy, hz, hrn, Result.andThen_ok]
  exact h
theorem keepsFrom_of_below {B : Nat} {W W' : World} (h : Below W.heap.size W W') : KeepsFrom B W W' :=
  ⟨h.size, fun k _o _ hk _ => (h.block k (Array.getElem?_eq_some_iff.1 hk).1).trans hk⟩

theorem keepsFrom_set {B : Nat} {W E : World} (h : KeepsFrom B W E) (a : Addr) (x : Value) : KeepsFrom B W (E.setCell a x) := h.trans ((KeepsOthers.setCell _ _ _).from _)
theorem keepsFrom_drew {B : Nat} {W E : World} (h : KeepsFrom B W E) : KeepsFrom B W E.drew := h.trans (keepsFrom_of_below (Below.refl _ _).drew)
theorem boxed_below {W W' : World} {B : Nat} {t : TypeId} {v : Value} (h : Boxed W B t v) (hb : Below W.heap.size W W') : Boxed W' B t v := (hb.block B h.lt).trans h
theorem ints_notBox {W : World} {B : Nat} {t : TypeId} {u r : Value} {ys : List Int} (h : Ints W r ys) (hb : Boxed W B t u) (hu : IsSl u) (h0 : 0 < ys.length) : vblk r ≠ B := by
  intro e
  have hc := h.cell h0
  obtain ⟨a, m, c, rfl, -⟩ := hu.cases
  simp only [World.cell?, vat_block, e] at hc
  rw [show W.heap[B]? = _ from hb] at hc
  simp only [vat] at hc
  rcases Nat.eq_zero_or_pos (voff r + 0) with h1 | h1
  · rw [h1] at hc; simp at hc
  · rw [Array.getElem?_eq_none (by simp; omega)] at hc; simp at hc
theorem ownRA_box {W : World} {B b : Nat} {t : TypeId} {u x : Value} {xss : List (List Int)} (h : OwnR.apart W B u xss) (hb : Boxed W b t x) (hx : IsSl x) (hB : b < B) (y : Value) : OwnR.apart (W.setCell ⟨b, 0, none⟩ y) B u xss := by
  obtain ⟨vs, h1, h2, h3, h4⟩ := h
  refine ⟨vs, h1.setOther (fun k hk e => ?_) y, h2, fun i hi => ?_, h4⟩
  · have := (h1.lt k hk).1
    simp only at e
    omega
  · rcases Nat.eq_zero_or_pos (nthr xss i).length with h0 | h0
    · have := h3 i hi
      rw [List.eq_nil_of_length_eq_zero h0] at this ⊢
      exact ⟨this.1, this.2.1, by simp⟩
    · exact (h3 i hi).setOther (fun e => ints_notBox (h3 i hi) hb hx h0 e.symm) y

theorem wpList_pushRowAt {w : World} {ops : Array Oper} {rest : List Oper} {o : Oper} {a : Act} {Q : Exit → Act → World → Prop} (hgd : o.guard = none) (s x : Operand)
    (ho : o.op = .call { callee := .builtin .append, args := #[s, x], argTypes := #[41, 41] })
    {B b : Nat} {v r : Value} {xss : List (List Int)} {ys : List Int} (hb : b = w.heap.size) (hs : a.eval s = v) (hx : a.eval x = .slice (some ⟨b, 0, none⟩) 1 1) (hown : OwnR.apart w B v xss) (hy : Ints w r ys) (hB : B ≤ w.heap.size) (hlen : xss.length ≤ 1000000000000)
    (hap : 0 < ys.length → row v ≠ some (vblk r))
    (h : ∀ v' w', OwnR.apart w' B v' (xss ++ [ys]) → w.grownBy w' (row v) → (∀ k, row v' = some k → row v = some k ∨ w.heap.size ≤ k) → wpList Try.prog ops Q rest (a.put o.dst v') w') :
    wpList Try.prog ops Q (o :: rest) a (w.alloc (.cells #[r] 22)) := by
  subst hb
  exact wpList_pushRow hgd s x ho hs hx hown hy hB hlen hap h

theorem or_from {B B' : Nat} {u : Value} {F : List Nat → List (List Int)} : OwnFrom B' (fun (pre : List Nat) W => ∃ vs, OR W B u vs (F pre)) :=
  fun _ _ _ _ ⟨vs, h⟩ hg hr => ⟨vs, or_kept h hg (fun k e => (hr k e).2)⟩
theorem foldA_length (ys : List Int) : ∀ X : List (List Int), (ys.foldl stepA X).length = X.length := by
  induction ys with
  | nil => exact fun _ => rfl
  | cons y t ih => exact fun X => by rw [List.foldl_cons, ih, stepA_length]
theorem invL_len' (xs : List Int) : (invL xs).length = xs.length := by simp [invL]
theorem invL_small {xs : List Int} (h : ∀ x ∈ xs, -1000 ≤ x ∧ x ≤ 1000) : ∀ x ∈ invL xs, -1000 ≤ x ∧ x ≤ 1000 := by
  intro x hx
  unfold invL at hx
  obtain ⟨y, hy, rfl⟩ := List.mem_map.1 (List.mem_reverse.1 hx)
  have := h y hy
  omega
theorem small3 {xs ys : List Int} (h : (∀ x ∈ xs, -1000 ≤ x ∧ x ≤ 1000) ∧ xs.length ≤ 3000) (k : (∀ x ∈ ys, -1000 ≤ x ∧ x ≤ 1000) ∧ ys.length ≤ 3000) :
    ((∀ zs ∈ [xs, ys, invL xs], ∀ x ∈ zs, -1000 ≤ x ∧ x ≤ 1000) ∧ [xs, ys, invL xs].flatten.length ≤ 20000) ∧ (∀ zs ∈ [invL ys, xs, ys], ∀ x ∈ zs, -1000 ≤ x ∧ x ≤ 1000) ∧ [invL ys, xs, ys].flatten.length ≤ 20000 := by
  have hx := invL_small h.1
  have hy := invL_small k.1
  have h1 := h.1
  have k1 := k.1
  have lx := invL_len' xs
  have ly := invL_len' ys
  have h2 := h.2
  have k2 := k.2
  refine ⟨⟨fun zs hz => ?_, by simp only [List.flatten_cons, List.flatten_nil, List.length_append, List.length_nil]; omega⟩, fun zs hz => ?_, by simp only [List.flatten_cons, List.flatten_nil, List.length_append, List.length_nil]; omega⟩
  · simp only [List.mem_cons, List.not_mem_nil, or_false] at hz
    rcases hz with rfl | rfl | rfl <;> assumption
  · simp only [List.mem_cons, List.not_mem_nil, or_false] at hz
    rcases hz with rfl | rfl | rfl <;> assumption
theorem small_set {X : List (List Int)} {i : Nat} {r : List Int} (h : SmallA X) (hr : (∀ x ∈ r, -1000 ≤ x ∧ x ≤ 1000) ∧ r.length ≤ 3000) : SmallA (X.set i r) := fun s hs =>
  (List.mem_or_eq_of_mem_set hs).elim (h s) (fun e => by rw [e]; exact hr)
theorem red_small {xss : List (List Int)} (h : ∀ zs ∈ xss, ∀ x ∈ zs, -1000 ≤ x ∧ x ≤ 1000) : ∀ x ∈ redL xss.flatten, -1000 ≤ x ∧ x ≤ 1000 := fun x hx => by
  obtain ⟨zs, hz, hxz⟩ := List.mem_flatten.1 (redL_mem hx)
  exact h zs hz x hxz
theorem long_set {X : List (List Int)} {i : Nat} {p q : List Int} (hi : i + 1 < X.length) (h : ¬(p.length ≤ 3000 ∧ q.length ≤ 3000)) : ∃ r ∈ (X.set i p).set (i + 1) q, 3000 < r.length := by
  by_cases hp : p.length ≤ 3000
  · refine ⟨_, List.getElem_mem (n := i + 1) (by simp; omega), ?_⟩
    simp
    omega
  · refine ⟨_, List.getElem_mem (n := i) (by simp; omega), ?_⟩
    simp
    omega
theorem downs_take {n k : Nat} (h : k ≤ n) : downs n k = (downs n n).take k := by
  unfold downs; rw [← List.map_take, List.take_range, Nat.min_eq_left h]
theorem downs_g (xs : List Int) (g : Nat → Int) (hg : ∀ j, j < xs.length → g j = nth xs j) : (downs xs.length xs.length).map g = xs.reverse := by
  have h := downs_map xs id
  rw [List.map_id] at h
  rw [← h]
  refine List.map_congr_left fun j hj => ?_
  unfold downs at hj
  obtain ⟨m, hm, rfl⟩ := List.mem_map.1 hj
  have := List.mem_range.1 hm
  exact hg _ (by omega)
theorem stepA_pos {X : List (List Int)} {c : Int} {i : Nat} (h : 0 < c) (hi : c.natAbs = i + 1) : stepA X c = (X.set i (redL [nthr X i, nthr X (i + 1), invL (nthr X i)].flatten)).set (i + 1) (nthr X i) := by
  unfold stepA
  rw [if_pos h, hi]
  simp
theorem stepA_neg {X : List (List Int)} {c : Int} {i : Nat} (h : ¬ 0 < c) (hi : c.natAbs = i + 1) : stepA X c = (X.set i (nthr X (i + 1))).set (i + 1) (redL [invL (nthr X (i + 1)), nthr X i, nthr X (i + 1)].flatten) := by
  unfold stepA
  rw [if_neg h, hi]
  simp
/-- An image of a rest of the word is longer than the program allows. -/
def TooLong (n : Nat) (xs : List Int) : Prop := ∃ j, j ≤ xs.length ∧ ∃ r ∈ (xs.reverse.take j).foldl stepA (gensA n), 3000 < r.length
theorem gensA_small (n : Nat) (hn : n ≤ 6) : SmallA (gensA n) := by
  intro r hr
  obtain ⟨i, hi, rfl⟩ := List.mem_map.1 hr
  have := List.mem_range.1 hi
  refine ⟨fun x hx => ?_, by simp⟩
  simp only [List.mem_singleton] at hx
  omega

theorem cell_same {w : World} {a p : Addr} {x : Value} (h : w.cell? a = some x) : (w.setCell a x).cell? p = w.cell? p := by
  by_cases e : a = p
  · subst e
    rw [h]
    exact World.cell?_setCell_same' _ _ _ (by rw [h]; rfl)
  · exact World.cell?_setCell_other _ _ _ _ e
theorem ints_same {w : World} {a : Addr} {x r : Value} {ys : List Int} (h : Ints w r ys) (hc : w.cell? a = some x) : Ints (w.setCell a x) r ys := ⟨h.1, h.2.1, fun j y hj => by rw [cell_same hc]; exact h.2.2 j y hj⟩
theorem OR.setBox {W : World} {B b : Nat} {t : TypeId} {u x : Value} {vs : List Value} {xss : List (List Int)} (h : OR W B u vs xss) (hb : Boxed W b t x) (hx : IsSl x) (hB : b < B) (y : Value) : OR (W.setCell ⟨b, 0, none⟩ y) B u vs xss := by
  obtain ⟨h1, h2, h3, h4⟩ := h
  refine ⟨h1.setOther (fun k hk e => ?_) y, h2, fun i hi => ?_, h4⟩
  · have := (h1.lt k hk).1
    simp only at e
    omega
  · rcases Nat.eq_zero_or_pos (nthr xss i).length with h0 | h0
    · have := h3 i hi
      rw [List.eq_nil_of_length_eq_zero h0] at this ⊢
      exact ⟨this.1, this.2.1, by simp⟩
    · exact (h3 i hi).setOther (fun e => ints_notBox (h3 i hi) hb hx h0 e.symm) y
theorem OR.setSame {W : World} {B b : Nat} {t : TypeId} {u x : Value} {vs : List Value} {xss : List (List Int)} (h : OR W B u vs xss) (hb : Boxed W b t x) (hB : b < B) : OR (W.setCell ⟨b, 0, none⟩ x) B u vs xss :=
  ⟨h.1.setOther (fun k hk e => by have := (h.1.lt k hk).1; simp only at e; omega) x, h.2.1, fun i hi => ints_same (h.2.2.1 i hi) hb.cell, h.2.2.2⟩
theorem OR.putObj {W : World} {B D : Nat} {u : Value} {vs : List Value} {xss : List (List Int)} {o : Obj} (h : OR W B u vs xss) (o' : Obj) (hD : W.heap[D]? = some o) (ho : o.isCells = false) : OR (W.putObj D o') B u vs xss :=
  or_kept h (grownBy_putObj' W D o') (fun k e => by cases e; exact ⟨_, hD, ho⟩)
theorem OR.low {W : World} {B B' : Nat} {u : Value} {vs : List Value} {xss : List (List Int)} (h : OR W B u vs xss) (hB : B' ≤ B) : OR W B' u vs xss := ⟨h.1.low hB, h.2⟩
theorem results_cell2 {P : Program} {fn : Func} {p q : Tmp} {s t : TypeId} (h : fn.results = #[.cell p s, .cell q t]) (tmps : Array Value) (w : World) {a b : Addr} {x y : Value} (hp : tmps.getD p undef = .pointer (some a)) (hq : tmps.getD q undef = .pointer (some b))
    (hx : (loadVar s a).run P w = .ok x w) (hy : (loadVar t b).run P w = .ok y w) : (results fn tmps).run P w = .ok (.tuple #[x, y]) w := by
  have hp' : tmps[p]?.getD undef = .pointer (some a) := by simpa using hp
  have hq' : tmps[q]?.getD undef = .pointer (some b) := by simpa using hq
  simp [results, h, hp', hq', asAddr, hx, hy]
theorem run_load_sls (w : World) (a : Addr) (x : Value) (h : w.cell? a = some x) : (loadVar 41 a).run Try.prog w = .ok x w := by
  go_simp
theorem run_load_errno (w : World) (a : Addr) (x : Value) (h : w.cell? a = some x) : (loadVar 25 a).run Try.prog w = .ok x w := by
  go_simp

set_option maxRecDepth 100000 in
set_option maxHeartbeats 4000000 in
theorem images_calls (n : Nat) (v : Value) (xs : List Int) (w : World) (hv : Ints w v xs) (h1 : 2 ≤ n) (h2 : n ≤ 6) (hx : BWord n xs) (hl : xs.length ≤ 30) :
    Calls Try.prog 22 #[.int .i64 n, v] w fun e w' => ((e = .returned (.tuple #[.slice none 0 0, .int .i64 2]) ∧ TooLong n xs) ∨ ∃ (u : Value) (vs : List Value), e = .returned (.tuple #[u, .int .i64 0]) ∧ OR w' w.heap.size u vs (imagesA n xs)) ∧ Below w.heap.size w w' := by
  refine (callsIn_wide (n := 3)).1 ?_
  have sv := hv.isSl
  have hro : Fence.wide.round = none := rfl
  have i1 : 1 ≤ 3 := by omega
  have HV := Lib.hid hv; clear hv
  have HX := Lib.hid hx; clear hx
  refine callsIn_of_wp_marks Try.func22 rfl trivial ?_ hro
  simp only [Try.ntmps22, List.size_toArray, List.length_cons, List.length_nil, Nat.reduceAdd, Nat.reduceSub, Array.replicate_succ, Array.replicate_zero, List.push_toArray, List.append_toArray, List.nil_append, List.cons_append]
  refine wpIn_wide.2 ?_
  go_wp2_with fail
  obtain ⟨w1, hw1⟩ : ∃ w1, w1 = (w.alloc (.cells #[.slice none 0 0] 41)).alloc (.cells #[.int .i64 0] 25) := ⟨_, rfl⟩
  rw [← hw1]
  have hs1 : w1.heap.size = w.heap.size + 2 := by rw [hw1]; simp
  have hb1 : Below w.heap.size w w1 := by rw [hw1]; exact ((Below.refl _ _).alloc (Nat.le_refl _) _).alloc (by simp) _
  have b4 : Boxed w1 w.heap.size 41 (.slice none 0 0) := by rw [hw1]; exact (Boxed.new _ _ _).alloc _
  have b5 : Boxed w1 (w.heap.size + 1) 25 (.int .i64 0) := by rw [hw1]; have := Boxed.new (w.alloc (.cells #[.slice none 0 0] 41)) 25 (.int .i64 0); rwa [World.size_alloc] at this
  have HW1 := Lib.hid hw1; clear hw1
  have HB1 := Lib.hid hb1; clear hb1
  refine (bcheck_calls n v xs _ (HV.out.below HB1.out) (by omega) (by omega) HX.out hl).mono ?_
  rintro e w2 ⟨rfl, hb2⟩
  have c4 := boxed_below b4 hb2
  have c5 := boxed_below b5 hb2
  have hb3 : Below w.heap.size w w2 := Below.chain HB1.out hb2
  have hs2 : w.heap.size + 2 ≤ w2.heap.size := by have := hb2.size; omega
  have C4 := Lib.hid c4; have C5 := Lib.hid c5; have HB3 := Lib.hid hb3
  clear b4 b5 hb2 c4 c5 hb3
  go_wp2_with fail
  go_loopw [21] (fun i wr => ∃ (k : Nat) (u : Value), k ≤ n ∧ i = .int .i64 k ∧ Boxed wr w2.heap.size 41 u ∧ OwnR.apart wr (w2.heap.size + 1) u (gensA k) ∧ Below w2.heap.size w2 wr) (fun i _ => n - (intOf i).toNat)
  case atStart => exact ⟨0, _, Nat.zero_le _, rfl, Boxed.new _ _ _, ownRA_nil _ _, (Below.refl _ _).alloc (Nat.le_refl _) _⟩
  case round =>
    obtain ⟨k, u, hk, rfl, hbu, hou, hbr⟩ := hrel
    have hcu := hbu.cell
    have hfu := hbu.frozen
    have su := hou.own.isSl
    have lu := hou.own.len
    rw [gensA_length] at lu
    have hsz := hbu.lt
    have HBU := Lib.hid hbu; have HOU := Lib.hid hou; have HBR := Lib.hid hbr
    clear hbu hou hbr
    by_cases hlt : k < n
    · have hik : (k : Int) + 1 ≤ 7 := by omega
      have hy : Ints (wr.alloc (.cells #[.int .i64 ((k : Int) + 1)] 3)) (.slice (some ⟨wr.heap.size, 0, none⟩) 1 1) [(k : Int) + 1] := ints_build wr [(k : Int) + 1] (by simp)
      have hou1 : OwnR.apart (wr.alloc (.cells #[.int .i64 ((k : Int) + 1)] 3)) (w2.heap.size + 1) u (gensA k) := HOU.out.below ((Below.refl _ _).alloc (Nat.le_refl _) _)
      have hap : 0 < [(k : Int) + 1].length → row u ≠ some (vblk (.slice (some ⟨wr.heap.size, 0, none⟩) 1 1)) := fun _ e => by
        have := (HOU.out.own.lt _ e).2
        simp only [vblk_mk] at this
        omega
      have hlg : (gensA k).length ≤ 1000000000000 := by rw [gensA_length]; omega
      have HYI := Lib.hid hy; have HO1 := Lib.hid hou1; have HAP := Lib.hid hap; have HLG := Lib.hid hlg
      clear hy hou1 hap hlg
      go_wp2_with (at_builtin; refine wpList_pushRowAt (v := u) rfl _ _ rfl (World.size_alloc _ _).symm rfl rfl HO1.out HYI.out (by simp; omega) HLG.out HAP.out ?_; intro m2 w3 hm2 hg2 hr2; have sm := hm2.own.isSl; have hbx := (HBU.out.alloc _).kept hg2 (fun e => by have := (HO1.out.own.lt _ e.symm).1; omega); have hcx := hbx.cell; have hfx := hbx.frozen)
      go_roundw
      case rel =>
        have hl2 : Below w2.heap.size w2 w3 := Below_of_grown (HBR.out.trans (((Below.refl _ _).alloc (Nat.le_refl _) _).mono HBR.out.size)) hg2 (by simp; omega) (fun k hk => by have := (HO1.out.own.lt k hk).1; omega)
        exact ⟨k + 1, m2, by omega, by go_num, hbx.set m2, by rw [gensA_succ]; exact ownRA_box hm2 hbx su (by omega) m2, hl2.setCell (Nat.le_refl _) _⟩
      case measure => simp [intOf]; omega
    · obtain rfl : k = n := by omega
      go_wp2_with fail
      refine (callsIn_wide.1 (backward_in Fence.wide 0 trivial hro _ sv _)).mono ?_
      rintro e w' ⟨rfl, rfl⟩
      go_wp2_with fail
      obtain ⟨W0, hW0⟩ : ∃ W0, W0 = wr.alloc (.cells #[v] 22) := ⟨_, rfl⟩
      rw [← hW0]
      have hs0 : W0.heap.size = wr.heap.size + 1 := by rw [hW0]; simp
      have hbA : Below wr.heap.size wr W0 := by rw [hW0]; exact (Below.refl _ _).alloc (Nat.le_refl _) _
      have hbN : Boxed W0 wr.heap.size 22 v := by rw [hW0]; exact Boxed.new _ _ _
      have hb7 := boxed_below HBU.out hbA
      have hbB := Below.chain HBR.out hbA
      have hb4 := boxed_below C4.out hbB
      have hb5 := boxed_below C5.out hbB
      have hB0 := Below.chain HB3.out hbB
      obtain ⟨vs0, hor0⟩ : ∃ vs, OR W0 (w2.heap.size + 1) u vs (gensA k) := by obtain ⟨vs, p, q, r, s⟩ := HOU.out.below hbA; exact ⟨vs, p, q, r, s⟩
      have hub : vblk u < wr.heap.size := by obtain ⟨vs, p, q, r, s⟩ := HOU.out; exact OR.lt (vs := vs) (xss := gensA k) (j := 0) ⟨p, q, r, s⟩ (by rw [gensA_length]; omega)
      have hub2 : w2.heap.size + 1 ≤ vblk u := hor0.ge (j := 0) (by rw [gensA_length]; omega)
      have hsr := hbA.size
      have hsw := HBR.out.size
      clear hW0
      obtain ⟨g, hg⟩ : ∃ g : Nat → Int, g = fun j => xs.getD j 1 := ⟨_, rfl⟩
      have hg1 : ∀ j, j < xs.length → g j = nth xs j := fun j hj => by rw [hg]; simp [nth, hj]
      have hg2 : ∀ j, g j ≠ 0 ∧ -(k : Int) < g j ∧ g j < k := fun j => by
        rcases Nat.lt_or_ge j xs.length with h | h
        · rw [hg1 j h]; exact HX.out _ (nth_mem h)
        · rw [hg]; simp [List.getElem?_eq_none h]; omega
      have HG1 := Lib.hid hg1; have HG2 := Lib.hid hg2; clear hg hg1 hg2
      refine (wpIn_wide (n := 3)).1 ?_
      refine wpIn_rangeFunc_ownG hro i1 (gf := 41) (lb := #[.pointer (some ⟨wr.heap.size, 0, none⟩)]) rfl trivial (enters_of Try.func41 (by kernel_rfl) rfl)
        (backward_stopsG Fence.wide (3 - 1) trivial hro (by omega) wr.heap.size w.heap.size v xs g HG1.out w _ rfl HV.out hB0 (by omega) hbN.cell) keepB_t (keepB_b (by omega) (by omega)) (Below.refl _ _) (fun _ => rfl)
        (fun pre W => ((((((∃ vs, OR W (w2.heap.size + 1) u vs ((pre.map g).foldl stepA (gensA k))) ∧ SmallA ((pre.map g).foldl stepA (gensA k))) ∧ Boxed W w2.heap.size 41 u) ∧ Boxed W w.heap.size 41 (.slice none 0 0)) ∧ Boxed W (w.heap.size + 1) 25 (.int .i64 0)) ∧ Boxed W wr.heap.size 22 v) ∧ Below w.heap.size w W)
        (fun c pre W => (((c = Code.ret ∧ ∃ r ∈ (pre.map g).foldl stepA (gensA k), 3000 < r.length) ∧ Boxed W w.heap.size 41 (.slice none 0 0)) ∧ Boxed W (w.heap.size + 1) 25 (.int .i64 2)) ∧ Below w.heap.size w W)
        (OwnFrom.and (OwnFrom.and (OwnFrom.and (OwnFrom.and (OwnFrom.and (OwnFrom.and or_from (ownFrom_pure _ _)) (Go.Own.from (boxed_own _ _ _) _)) (Go.Own.from (boxed_own _ _ _) _)) (Go.Own.from (boxed_own _ _ _) _)) (Go.Own.from (boxed_own _ _ _) _)) (ownFrom_below (Nat.le_refl _) (by omega)))
        (fun c => OwnFrom.and (OwnFrom.and (OwnFrom.and (ownFrom_pure _ _) (Go.Own.from (boxed_own _ _ _) _)) (Go.Own.from (boxed_own _ _ _) _)) (ownFrom_below (Nat.le_refl _) (by omega)))
        ⟨⟨⟨⟨⟨⟨⟨vs0, hor0⟩, gensA_small k h2⟩, hb7⟩, hb4⟩, hb5⟩, hbN⟩, hB0⟩
        (fun x => { tmps := #[.int .i64 (k : Int), v, undef, undef, .pointer (some ⟨w.heap.size, 0, none⟩), .pointer (some ⟨w.heap.size + 1, 0, none⟩), .int .i64 0, .pointer (some ⟨w2.heap.size, 0, none⟩), u8, undef, .int .i64 (g x), undef, undef, undef,
          .int .i64 (k : Int), v, .int .i64 0, .int .i64 0, .bool false, undef, .int .i64 (k : Int), .int .i64 (k : Int), .bool false, u23, u24, u25, u26, u27, u28, u29, u30, v, .func (.func 41) #[] #[.pointer (some ⟨wr.heap.size, 0, none⟩)], .int .i64 (x : Int), .int .i64 (g x)
          , undef, undef, undef, undef, undef, undef, undef, undef, undef, undef, undef, undef, undef, undef, undef, undef, undef, undef, undef, undef, undef, undef, undef, undef, undef, undef, undef, undef, undef, undef, undef, undef, undef, undef, undef, undef, undef, undef, undef, undef, undef, undef, undef, undef, undef, undef, undef, undef, undef, undef, undef, undef, undef, undef, undef], defers := [] }) ?assign ?body ?done ?stop
      case assign =>
        intro l x W K hK
        gi_wp2
        exact hK
      case body =>
        rintro l pre x W ⟨⟨⟨⟨⟨⟨⟨vs, hor⟩, hsm⟩, hb7⟩, hb4⟩, hb5⟩, hbW⟩, hB⟩ hlt
        have hWbs := hbW.lt
        have HBW := Lib.hid hbW; clear hbW
        obtain ⟨c, hc⟩ : ∃ c, c = g x := ⟨_, rfl⟩
        obtain ⟨hc0, hc1, hc2⟩ : c ≠ 0 ∧ -(k : Int) < c ∧ c < k := by rw [hc]; exact HG2.out x
        simp only [← hc]
        have HC := Lib.hid hc; clear hc
        obtain ⟨i, hi⟩ : ∃ i : Nat, c.natAbs = i + 1 := ⟨c.natAbs - 1, by omega⟩
        have hik : i + 1 < k := by omega
        obtain ⟨X, hX⟩ : ∃ X, X = (pre.map g).foldl stepA (gensA k) := ⟨_, rfl⟩
        rw [← hX] at hor hsm
        have hXl : X.length = k := by rw [hX, foldA_length, gensA_length]
        have hi0 : i < X.length := by omega
        have hi1 : i + 1 < X.length := by omega
        have hc7 := hb7.cell
        have ca := hor.rows.cell hi0
        have cb := hor.rows.cell hi1
        have ia := hor.rows.row hi0
        have ib := hor.rows.row hi1
        obtain ⟨a, ha⟩ : ∃ a, nthv vs i = a := ⟨_, rfl⟩
        obtain ⟨b, hb⟩ : ∃ b, nthv vs (i + 1) = b := ⟨_, rfl⟩
        rw [ha] at ca ia
        rw [hb] at cb ib
        have sa := ia.isSl
        have sb := ib.isSl
        have su' := hor.rows.isSl
        have lu' := hor.rows.len
        rw [hXl] at lu'
        have hia : ((i : Int) + 1 : Int) - 1 = (i : Int) := by omega
        have hwi : IntKind.i64.wrap (i : Int) = (i : Int) := IntWalk.i64_in _ (by omega)
        have hwj : IntKind.i64.wrap ((i : Int) + 1) = (i : Int) + 1 := IntWalk.i64_in _ (by omega)
        have hj0 : (0 : Int) ≤ (i : Int) + 1 := by omega
        have hjk : (i : Int) + 1 < (k : Int) := by omega
        have hikz : (i : Int) < (k : Int) := by omega
        have hjn : ((i : Int) + 1).toNat = i + 1 := by omega
        gi_wp2_with (refine ⟨trivial, ?_⟩; gi_at_call 33; refine (CallsIn.inRound l (callsIn_wide.2 (bindex_calls c W (by omega) (by omega)))).mono ?_; rintro e w' ⟨rfl, rfl⟩; rw [hi]; simp only [Int.natCast_add, Int.cast_ofNat_Int])
        refine wpIn_region_held (fun W' => W'.cell? ⟨w2.heap.size, 0, none⟩ = some u ∧ W'.cell? (vat u i) = some a ∧ W'.cell? (vat u (i + 1)) = some b) 11 rfl (by kernel_rfl) (by kernel_rfl) (by rintro ⟨_, _, h⟩; exact h) ⟨hc7, ca, cb⟩ (fun hHeld => ?_)
        refine takeH 0 (v := ?v1) rfl rfl (by kernel_rfl) (by kernel_rfl) (by kernel_rfl) (fun _ _ _ h => h) (by rfl) (by assumption) ?hy1 ?rest1
        case hy1 => intro w ⟨hs1, hs2, hs3⟩; go_simp; with_reducible rfl
        simp only [List.setIfInBounds_toArray, List.set_cons_zero, List.set_cons_succ]
        refine takeH 1 (v := ?v2) rfl rfl (by kernel_rfl) (by kernel_rfl) (by kernel_rfl) (fun _ _ _ h => h) (by rfl) (by assumption) ?hy2 ?rest2
        case hy2 => intro w ⟨hs1, hs2, hs3⟩; go_simp; with_reducible rfl
        simp only [List.setIfInBounds_toArray, List.set_cons_zero, List.set_cons_succ]
        refine takeH 2 (v := ?v3) rfl rfl (by kernel_rfl) (by kernel_rfl) (by kernel_rfl) (fun _ _ _ h => h) (by rfl) (by assumption) ?hy3 ?rest3
        case hy3 => intro w ⟨hs1, hs2, hs3⟩; go_simp; with_reducible rfl
        simp only [List.setIfInBounds_toArray, List.set_cons_zero, List.set_cons_succ]
        refine takeH 3 (v := ?v4) rfl rfl (by kernel_rfl) (by kernel_rfl) (by kernel_rfl) (fun _ _ _ h => h) (by rfl) (by assumption) ?hy4 ?rest4
        case hy4 => intro w ⟨hs1, hs2, hs3⟩; go_simp; with_reducible rfl
        simp only [List.setIfInBounds_toArray, List.set_cons_zero, List.set_cons_succ]
        refine takeH 4 (v := ?v5) rfl rfl (by kernel_rfl) (by kernel_rfl) (by kernel_rfl) (fun _ _ _ h => h) (by rfl) (by assumption) ?hy5 ?rest5
        case hy5 => intro w ⟨hs1, hs2, hs3⟩; go_simp; with_reducible rfl
        simp only [List.setIfInBounds_toArray, List.set_cons_zero, List.set_cons_succ]
        refine takeH 5 (v := ?v6) rfl rfl (by kernel_rfl) (by kernel_rfl) (by kernel_rfl) (fun _ _ _ h => h) (by rfl) (by assumption) ?hy6 ?rest6
        case hy6 => intro w ⟨hs1, hs2, hs3⟩; go_simp; with_reducible rfl
        simp only [List.setIfInBounds_toArray, List.set_cons_zero, List.set_cons_succ]
        refine takeH 6 (v := ?v7) rfl rfl (by kernel_rfl) (by kernel_rfl) (by kernel_rfl) (fun _ _ _ h => h) (by rfl) (by assumption) ?hy7 ?rest7
        case hy7 => intro w ⟨hs1, hs2, hs3⟩; go_simp; with_reducible rfl
        simp only [List.setIfInBounds_toArray, List.set_cons_zero, List.set_cons_succ]
        refine takeH 7 (v := ?v8) rfl rfl (by kernel_rfl) (by kernel_rfl) (by kernel_rfl) (fun _ _ _ h => h) (by rfl) (by assumption) ?hy8 ?rest8
        case hy8 => intro w ⟨hs1, hs2, hs3⟩; go_simp; with_reducible rfl
        simp only [List.setIfInBounds_toArray, List.set_cons_zero, List.set_cons_succ]
        refine takeH 8 (v := ?v9) rfl rfl (by kernel_rfl) (by kernel_rfl) (by kernel_rfl) (fun _ _ _ h => h) (by rfl) (by assumption) ?hy9 ?rest9
        case hy9 => intro w ⟨hs1, hs2, hs3⟩; go_simp; with_reducible rfl
        simp only [List.setIfInBounds_toArray, List.set_cons_zero, List.set_cons_succ]
        refine takeH 9 (v := ?v10) rfl rfl (by kernel_rfl) (by kernel_rfl) (by kernel_rfl) (fun _ _ _ h => h) (by rfl) (by assumption) ?hy10 ?rest10
        case hy10 => intro w ⟨hs1, hs2, hs3⟩; go_simp; with_reducible rfl
        simp only [List.setIfInBounds_toArray, List.set_cons_zero, List.set_cons_succ]
        refine takeH 10 (v := ?v11) rfl rfl (by kernel_rfl) (by kernel_rfl) (by kernel_rfl) (fun _ _ _ h => h) (by rfl) (by assumption) ?hy11 ?rest11
        case hy11 => intro w ⟨hs1, hs2, hs3⟩; go_simp; with_reducible rfl
        simp only [List.setIfInBounds_toArray, List.set_cons_zero, List.set_cons_succ]
        refine wpAnyH_done (by kernel_rfl) ?_ _
        have HAV := Lib.hid ha; have HBV := Lib.hid hb; clear ha hb
        by_cases hpos : 0 < c
        · have hpos' : c > 0 := hpos
          gi_wp2
          obtain ⟨D, hD⟩ : ∃ D : World, D = W.drew.drew := ⟨_, rfl⟩
          have hbD : Below W.heap.size W D := by rw [hD]; exact ((Below.refl _ W).drew).drew
          have hDs : D.heap.size = W.heap.size := by rw [hD]; rfl
          have horD := hor.below hbD
          have iaD := ia.below hbD
          have ibD := ib.below hbD
          have hcD := (boxed_below hb7 hbD).cell
          have hDD : W.drew.drew = D := hD.symm
          clear hD
          have hlt7 : w2.heap.size < W.heap.size := hb7.lt
          have hltW : wr.heap.size < W.heap.size := hWbs
          have HHH := Lib.hid hc7; have HOR := Lib.hid hor; have HB7 := Lib.hid hb7; have HB4 := Lib.hid hb4; have HB5 := Lib.hid hb5; have HIA := Lib.hid ia; have HIB := Lib.hid ib; have HCA := Lib.hid ca; have HCB := Lib.hid cb; have HSM := Lib.hid hsm; have HBD := Lib.hid hbD; have HIAD := Lib.hid iaD; have HIBD := Lib.hid ibD; have HORD := Lib.hid horD; have HB := Lib.hid hB
          clear hc7 hor hb7 hb4 hb5 ia ib ca cb hsm hbD iaD ibD horD hB
          refine wpIn_region_held (fun W' => W'.cell? ⟨w2.heap.size, 0, none⟩ = some u) 16 rfl (by kernel_rfl) (by kernel_rfl) (by rintro ⟨_, _, h⟩; exact h) HHH.out (fun hHeld => ?_)
          rw [hDD] at hHeld ⊢
          refine takeH 0 (v := ?v12) rfl rfl (by kernel_rfl) (by kernel_rfl) (by kernel_rfl) (fun _ _ _ h => h) (by rfl) (by assumption) ?hy12 ?rest12
          case hy12 => intro w hs1; go_simp; with_reducible rfl
          simp only [List.setIfInBounds_toArray, List.set_cons_zero, List.set_cons_succ]
          refine takeH 1 (v := ?v13) rfl rfl (by kernel_rfl) (by kernel_rfl) (by kernel_rfl) (fun _ _ _ h => h) (by rfl) (by assumption) ?hy13 ?rest13
          case hy13 => intro w hs1; go_simp; with_reducible rfl
          simp only [List.setIfInBounds_toArray, List.set_cons_zero, List.set_cons_succ]
          refine takeH 2 (v := ?v14) rfl rfl (by kernel_rfl) (by kernel_rfl) (by kernel_rfl) (fun _ _ _ h => h) (by rfl) (by assumption) ?hy14 ?rest14
          case hy14 => intro w hs1; go_simp; with_reducible rfl
          simp only [List.setIfInBounds_toArray, List.set_cons_zero, List.set_cons_succ]
          refine takeH 3 (v := ?v15) rfl rfl (by kernel_rfl) (by kernel_rfl) (by kernel_rfl) (fun _ _ _ h => h) (by rfl) (by assumption) ?hy15 ?rest15
          case hy15 => intro w hs1; go_simp; with_reducible rfl
          simp only [List.setIfInBounds_toArray, List.set_cons_zero, List.set_cons_succ]
          refine takeH 4 (v := ?v16) rfl rfl (by kernel_rfl) (by kernel_rfl) (by kernel_rfl) (fun _ _ _ h => h) (by rfl) (by assumption) ?hy16 ?rest16
          case hy16 => intro w hs1; go_simp; with_reducible rfl
          simp only [List.setIfInBounds_toArray, List.set_cons_zero, List.set_cons_succ]
          refine takeH 5 (v := ?v17) rfl rfl (by kernel_rfl) (by kernel_rfl) (by kernel_rfl) (fun _ _ _ h => h) (by rfl) (by assumption) ?hy17 ?rest17
          case hy17 => intro w hs1; go_simp; with_reducible rfl
          simp only [List.setIfInBounds_toArray, List.set_cons_zero, List.set_cons_succ]
          refine takeH 6 (v := ?v18) rfl rfl (by kernel_rfl) (by kernel_rfl) (by kernel_rfl) (fun _ _ _ h => h) (by rfl) (by assumption) ?hy18 ?rest18
          case hy18 => intro w hs1; go_simp; with_reducible rfl
          simp only [List.setIfInBounds_toArray, List.set_cons_zero, List.set_cons_succ]
          refine takeH 7 (v := ?v19) rfl rfl (by kernel_rfl) (by kernel_rfl) (by kernel_rfl) (fun _ _ _ h => h) (by rfl) (by assumption) ?hy19 ?rest19
          case hy19 => intro w hs1; go_simp; with_reducible rfl
          simp only [List.setIfInBounds_toArray, List.set_cons_zero, List.set_cons_succ]
          refine takeH 11 (v := ?v20) rfl rfl (by kernel_rfl) (by kernel_rfl) (by kernel_rfl) (fun _ _ _ h => h) (by rfl) (by assumption) ?hy20 ?rest20
          case hy20 => intro w hs1; go_simp; with_reducible rfl
          simp only [List.setIfInBounds_toArray, List.set_cons_zero, List.set_cons_succ]
          refine stepH 8 rfl (by kernel_rfl) (by rfl) (fun K hK => ?_)
          go_simp
          refine (inverted_calls a (nthr X i) D HIAD.out (HSM.out _ (nthr_mem hi0)).1 (Nat.le_trans (HSM.out _ (nthr_mem hi0)).2 (by omega))).mono ?_
          rintro e w5 ⟨y, rfl, hy, hbw5⟩
          have sy := hy.isSl
          have h5s := hbw5.size
          have hc5 : w5.cell? ⟨w2.heap.size, 0, none⟩ = some u := (hbw5.cell (p := ⟨w2.heap.size, 0, none⟩) (by simp only; omega)).trans hcD
          have HY := Lib.hid hy; have HBW5 := Lib.hid hbw5
          clear hy hbw5
          go_wp2_with fail
          refine hK.out _ _ (hc5) (fun _ => ?_)
          clear hK K
          try simp only [Act.put, List.setIfInBounds_toArray, List.set_cons_zero, List.set_cons_succ]
          refine stepH 9 rfl (by kernel_rfl) (by rfl) (fun K hK => ?_)
          have hc6 : (w5.alloc (.cells #[a, b, y] 22)).cell? ⟨w2.heap.size, 0, none⟩ = some u := (((Below.refl _ w5).alloc (Nat.le_refl _) _).cell (p := ⟨w2.heap.size, 0, none⟩) (by simp only; omega)).trans hc5
          refine wp_build3 (.tmp 53) (.tmp 54) (.tmp 56) rfl rfl rfl rfl sa sb sy ?_
          refine hK.out _ _ (hc6) (fun _ => ?_)
          clear hK K
          try simp only [Act.put, List.setIfInBounds_toArray]
          refine stepH 10 rfl (by kernel_rfl) (by rfl) (fun K hK => ?_)
          go_simp
          have hsmall := small3 (HSM.out _ (nthr_mem hi0)) (HSM.out _ (nthr_mem hi1))
          have HSMALL := Lib.hid hsmall; clear hsmall
          refine (reduced_calls _ [a, b, y] [nthr X i, nthr X (i + 1), invL (nthr X i)] _ (rowsV_3A (HIAD.out.below HBW5.out) (HIBD.out.below HBW5.out) HY.out.ints) HSMALL.out.1.1 HSMALL.out.1.2).mono ?_
          rintro e w6 ⟨r, rfl, hr, hbw6⟩
          have sr := hr.isSl
          have h6s := hbw6.size
          rw [World.size_alloc] at h6s
          have hc6' : w6.cell? ⟨w2.heap.size, 0, none⟩ = some u := (hbw6.cell (p := ⟨w2.heap.size, 0, none⟩) (by simp only [World.size_alloc]; omega)).trans hc6
          have hb6 : Below D.heap.size D w6 := Below.chain HBW5.out (Below.chain ((Below.refl _ w5).alloc (Nat.le_refl _) _) hbw6)
          have HR := Lib.hid (hr.low (show D.heap.size ≤ _ by simp only [World.size_alloc]; omega)); have HB6 := Lib.hid hb6
          clear hr hbw6 hb6
          go_wp2_with fail
          refine hK.out _ _ (hc6') (fun _ => ?_)
          clear hK K
          try simp only [Act.put, List.setIfInBounds_toArray, List.set_cons_zero, List.set_cons_succ]
          refine takeH 12 (v := ?v21) rfl rfl (by kernel_rfl) (by kernel_rfl) (by kernel_rfl) (fun _ _ _ h => h) (by rfl) (by assumption) ?hy21 ?rest21
          case hy21 => intro w hs1; go_simp; with_reducible rfl
          simp only [List.setIfInBounds_toArray, List.set_cons_zero, List.set_cons_succ]
          have hor6 := HORD.out.below HB6.out
          have e1 : 0 < (redL [nthr X i, nthr X (i + 1), invL (nthr X i)].flatten).length → row u ≠ some (vblk r) := own_apart HORD.out hi0 HR.out
          have e2 : 0 < (nthr X i).length → row u ≠ some (vblk a) := fun h0 => by have := HORD.out.2.2.2 i hi0 h0; rwa [HAV.out] at this
          have or1 : OR (w6.setCell (vat u i) r) (w2.heap.size + 1) u (vs.set i r) (X.set i (redL [nthr X i, nthr X (i + 1), invL (nthr X i)].flatten)) := hor6.set hi0 HR.out.ints e1
          have ii2 : Ints (w6.setCell (vat u i) r) a (nthr X i) := ints_keep hor6 hi0 (HIAD.out.below HB6.out) e2 _
          have hi1' : i + 1 < (X.set i (redL [nthr X i, nthr X (i + 1), invL (nthr X i)].flatten)).length := by rw [List.length_set]; omega
          have or2 : OR ((w6.setCell (vat u i) r).setCell (vat u (i + 1)) a) (w2.heap.size + 1) u ((vs.set i r).set (i + 1) a) ((X.set i (redL [nthr X i, nthr X (i + 1), invL (nthr X i)].flatten)).set (i + 1) (nthr X i)) := or1.set hi1' ii2 e2
          have q1 : (w6.cell? (vat u i)).isSome = true := by rw [hor6.rows.cell hi0]; rfl
          have q2 := hor6.frozen hi0
          have q3 : ((w6.setCell (vat u i) r).cell? (vat u (i + 1))).isSome = true := by rw [or1.rows.cell hi1']; rfl
          have q4 := or1.frozen hi1'
          have hbu7 : ∀ j, (⟨w2.heap.size, 0, none⟩ : Addr) ≠ vat u j := fun j e => by have := congrArg Addr.block e; simp only [vat_block] at this; omega
          have hc8 : (w6.setCell (vat u i) r).cell? ⟨w2.heap.size, 0, none⟩ = some u := (World.cell?_setCell_other _ _ _ _ (hbu7 _).symm).trans hc6'
          have hc9 : ((w6.setCell (vat u i) r).setCell (vat u (i + 1)) a).cell? ⟨w2.heap.size, 0, none⟩ = some u := (World.cell?_setCell_other _ _ _ _ (hbu7 _).symm).trans hc8
          have HOR6 := Lib.hid hor6; have HE1 := Lib.hid e1; have HE2 := Lib.hid e2; have HOR1 := Lib.hid or1; have HII2 := Lib.hid ii2; have HOR2 := Lib.hid or2
          clear hor6 e1 e2 or1 ii2 or2
          refine stepH 13 rfl (by kernel_rfl) (by rfl) (fun K hK => ?_)
          go_simp
          refine hK.out _ _ (hc8) (fun _ => ?_)
          clear hK K
          try simp only [Act.put, List.setIfInBounds_toArray, List.set_cons_zero, List.set_cons_succ]
          refine takeH 14 (v := ?v22) rfl rfl (by kernel_rfl) (by kernel_rfl) (by kernel_rfl) (fun _ _ _ h => h) (by rfl) (by assumption) ?hy22 ?rest22
          case hy22 => intro w hs1; go_simp; with_reducible rfl
          simp only [List.setIfInBounds_toArray, List.set_cons_zero, List.set_cons_succ]
          refine stepH 15 rfl (by kernel_rfl) (by rfl) (fun K hK => ?_)
          go_simp
          refine hK.out _ _ (hc9) (fun _ => ?_)
          clear hK K
          try simp only [Act.put, List.setIfInBounds_toArray, List.set_cons_zero, List.set_cons_succ]
          refine wpAnyH_done (by kernel_rfl) ?_ _
          gi_wp2
          obtain ⟨E, hE⟩ : ∃ E, E = (w6.setCell (vat u i) r).setCell (vat u (i + 1)) a := ⟨_, rfl⟩
          rw [← hE] at hc9 ⊢
          have horE : OR E (w2.heap.size + 1) u ((vs.set i r).set (i + 1) a) (stepA X c) := by rw [hE, stepA_pos hpos hi]; exact HOR2.out
          have ceA : E.cell? (vat u i) = some r := by rw [hE, World.cell?_setCell_other _ _ _ _ (fun e => by have := vat_inj.1 e; omega)]; exact World.cell?_setCell_same' _ _ _ q1
          have ceB : E.cell? (vat u (i + 1)) = some a := by rw [hE]; exact World.cell?_setCell_same' _ _ _ q3
          have hbE : Below w.heap.size w E := by rw [hE]; exact ((Below.chain HB.out (Below.chain HBD.out HB6.out)).setCell (by simp only [vat_block]; omega) _).setCell (by simp only [vat_block]; omega) _
          have hkE : KeepsFrom W0.heap.size W E := by rw [hE]; exact ((keepsFrom_of_below (Below.chain HBD.out HB6.out)).trans ((KeepsOthers.setCell _ _ _).from _)).trans ((KeepsOthers.setCell _ _ _).from _)
          have hblE : Below w.heap.size W E := by rw [hE]; exact (((Below.chain HBD.out HB6.out).mono (by omega)).setCell (by simp only [vat_block]; omega) _).setCell (by simp only [vat_block]; omega) _
          have hbxE : E.heap[wr.heap.size]? = W.heap[wr.heap.size]? := by
            rw [hE, Below.heap_setCell _ _ _ _ (by simp only [vat_block]; omega), Below.heap_setCell _ _ _ _ (by simp only [vat_block]; omega)]
            exact (Below.chain HBD.out HB6.out).block _ (by omega)
          have hb7E : Boxed E w2.heap.size 41 u := by
            rw [hE]; unfold Boxed
            rw [Below.heap_setCell _ _ _ _ (by simp only [vat_block]; omega), Below.heap_setCell _ _ _ _ (by simp only [vat_block]; omega)]
            exact boxed_below HB7.out (Below.chain HBD.out HB6.out)
          have hb4E : Boxed E w.heap.size 41 (.slice none 0 0) := by
            rw [hE]; unfold Boxed
            rw [Below.heap_setCell _ _ _ _ (by simp only [vat_block]; omega), Below.heap_setCell _ _ _ _ (by simp only [vat_block]; omega)]
            exact boxed_below HB4.out (Below.chain HBD.out HB6.out)
          have hb5E : Boxed E (w.heap.size + 1) 25 (.int .i64 0) := by
            rw [hE]; unfold Boxed
            rw [Below.heap_setCell _ _ _ _ (by simp only [vat_block]; omega), Below.heap_setCell _ _ _ _ (by simp only [vat_block]; omega)]
            exact boxed_below HB5.out (Below.chain HBD.out HB6.out)
          obtain ⟨n1, hn1⟩ : ∃ n1, (redL [nthr X i, nthr X (i + 1), invL (nthr X i)].flatten).length = n1 := ⟨_, rfl⟩
          obtain ⟨n2, hn2⟩ : ∃ n2, (nthr X i).length = n2 := ⟨_, rfl⟩
          have l1 : vlen r = n1 := by rw [← hn1]; exact HR.out.len
          have l2 : vlen a = n2 := by rw [← hn2]; exact HIAD.out.len
          have hnb : n1 ≤ 20000 ∧ n2 ≤ 20000 := by
            have g1 := (HSM.out _ (nthr_mem hi0)).2
            have g2 := (HSM.out _ (nthr_mem hi1)).2
            have g3 := (small3 (HSM.out _ (nthr_mem hi0)) (HSM.out _ (nthr_mem hi1)))
            have g4 := Nat.le_trans (redL_length _) g3.1.2
            rw [← hn1, ← hn2]
            exact ⟨by omega, by omega⟩
          have hsmE : n1 ≤ 3000 → n2 ≤ 3000 → SmallA (stepA X c) := fun g1 g2 => by
            rw [stepA_pos hpos hi]
            refine small_set (small_set HSM.out ⟨?_, by omega⟩) ⟨?_, by omega⟩
            · exact red_small HSMALL.out.1.1
            · exact (HSM.out _ (nthr_mem hi0)).1
          have hlgE : ¬ (n1 ≤ 3000 ∧ n2 ≤ 3000) → ∃ r ∈ stepA X c, 3000 < r.length := fun g0 => by
            rw [stepA_pos hpos hi]
            exact long_set hi1 (by rw [hn1, hn2]; exact g0)
          have HLGE := Lib.hid hlgE; have HBLE := Lib.hid hblE; clear hlgE hblE
          have HN1 := Lib.hid hn1; have HN2 := Lib.hid hn2; have HNB := Lib.hid hnb; have HSME := Lib.hid hsmE; have HORE := Lib.hid horE; have HBE := Lib.hid hbE; have HKE := Lib.hid hkE; have HBXE := Lib.hid hbxE; have HB7E := Lib.hid hb7E; have HB4E := Lib.hid hb4E; have HB5E := Lib.hid hb5E
          clear hE hn1 hn2 hnb hsmE horE hbE hkE hbxE hb7E hb4E hb5E q1 q2 q3 q4
          refine wpIn_region_held (fun W' => W'.cell? ⟨w2.heap.size, 0, none⟩ = some u ∧ W'.cell? (vat u i) = some r ∧ W'.cell? (vat u (i + 1)) = some a) 13 rfl (by kernel_rfl) (by kernel_rfl) (by rintro ⟨_, _, h⟩; exact h) ⟨hc9, ceA, ceB⟩ (fun hHeld => ?_)
          refine takeH 0 (v := ?v23) rfl rfl (by kernel_rfl) (by kernel_rfl) (by kernel_rfl) (fun _ _ _ h => h) (by rfl) (by assumption) ?hy23 ?rest23
          case hy23 => intro w ⟨hs1, hs2, hs3⟩; go_simp; with_reducible rfl
          simp only [List.setIfInBounds_toArray, List.set_cons_zero, List.set_cons_succ]
          refine takeH 1 (v := ?v24) rfl rfl (by kernel_rfl) (by kernel_rfl) (by kernel_rfl) (fun _ _ _ h => h) (by rfl) (by assumption) ?hy24 ?rest24
          case hy24 => intro w ⟨hs1, hs2, hs3⟩; go_simp; with_reducible rfl
          simp only [List.setIfInBounds_toArray, List.set_cons_zero, List.set_cons_succ]
          refine takeH 2 (v := ?v25) rfl rfl (by kernel_rfl) (by kernel_rfl) (by kernel_rfl) (fun _ _ _ h => h) (by rfl) (by assumption) ?hy25 ?rest25
          case hy25 => intro w ⟨hs1, hs2, hs3⟩; go_simp; with_reducible rfl
          simp only [List.setIfInBounds_toArray, List.set_cons_zero, List.set_cons_succ]
          refine takeH 3 (v := ?v26) rfl rfl (by kernel_rfl) (by kernel_rfl) (by kernel_rfl) (fun _ _ _ h => h) (by rfl) (by assumption) ?hy26 ?rest26
          case hy26 => intro w ⟨hs1, hs2, hs3⟩; go_simp; with_reducible rfl
          simp only [List.setIfInBounds_toArray, List.set_cons_zero, List.set_cons_succ]
          refine takeH 4 (v := ?v27) rfl rfl (by kernel_rfl) (by kernel_rfl) (by kernel_rfl) (fun _ _ _ h => h) (by rfl) (by assumption) ?hy27 ?rest27
          case hy27 => intro w ⟨hs1, hs2, hs3⟩; go_simp; with_reducible rfl
          simp only [List.setIfInBounds_toArray, List.set_cons_zero, List.set_cons_succ]
          refine takeH 5 (v := ?v28) rfl rfl (by kernel_rfl) (by kernel_rfl) (by kernel_rfl) (fun _ _ _ h => h) (by rfl) (by assumption) ?hy28 ?rest28
          case hy28 => intro w ⟨hs1, hs2, hs3⟩; go_simp; with_reducible rfl
          simp only [List.setIfInBounds_toArray, List.set_cons_zero, List.set_cons_succ]
          refine takeH 6 (v := ?v29) rfl rfl (by kernel_rfl) (by kernel_rfl) (by kernel_rfl) (fun _ _ _ h => h) (by rfl) (by assumption) ?hy29 ?rest29
          case hy29 => intro w ⟨hs1, hs2, hs3⟩; go_simp; with_reducible rfl
          simp only [List.setIfInBounds_toArray, List.set_cons_zero, List.set_cons_succ]
          refine takeH 7 (v := ?v30) rfl rfl (by kernel_rfl) (by kernel_rfl) (by kernel_rfl) (fun _ _ _ h => h) (by rfl) (by assumption) ?hy30 ?rest30
          case hy30 => intro w ⟨hs1, hs2, hs3⟩; go_simp; with_reducible rfl
          simp only [List.setIfInBounds_toArray, List.set_cons_zero, List.set_cons_succ]
          refine takeH 8 (v := ?v31) rfl rfl (by kernel_rfl) (by kernel_rfl) (by kernel_rfl) (fun _ _ _ h => h) (by rfl) (by assumption) ?hy31 ?rest31
          case hy31 => intro w ⟨hs1, hs2, hs3⟩; go_simp; with_reducible rfl
          simp only [List.setIfInBounds_toArray, List.set_cons_zero, List.set_cons_succ]
          refine takeH 9 (v := ?v32) rfl rfl (by kernel_rfl) (by kernel_rfl) (by kernel_rfl) (fun _ _ _ h => h) (by rfl) (by assumption) ?hy32 ?rest32
          case hy32 => intro w ⟨hs1, hs2, hs3⟩; go_simp; with_reducible rfl
          simp only [List.setIfInBounds_toArray, List.set_cons_zero, List.set_cons_succ]
          refine takeH 10 (v := ?v33) rfl rfl (by kernel_rfl) (by kernel_rfl) (by kernel_rfl) (fun _ _ _ h => h) (by rfl) (by assumption) ?hy33 ?rest33
          case hy33 => intro w ⟨hs1, hs2, hs3⟩; go_simp; with_reducible rfl
          simp only [List.setIfInBounds_toArray, List.set_cons_zero, List.set_cons_succ]
          refine takeH 11 (v := ?v34) rfl rfl (by kernel_rfl) (by kernel_rfl) (by kernel_rfl) (fun _ _ _ h => h) (by rfl) (by assumption) ?hy34 ?rest34
          case hy34 => intro w ⟨hs1, hs2, hs3⟩; go_simp; with_reducible rfl
          simp only [List.setIfInBounds_toArray, List.set_cons_zero, List.set_cons_succ]
          refine takeH 12 (v := ?v35) rfl rfl (by kernel_rfl) (by kernel_rfl) (by kernel_rfl) (fun _ _ _ h => h) (by rfl) (by assumption) ?hy35 ?rest35
          case hy35 => intro w ⟨hs1, hs2, hs3⟩; go_simp; with_reducible rfl
          simp only [List.setIfInBounds_toArray, List.set_cons_zero, List.set_cons_succ]
          refine wpAnyH_done (by kernel_rfl) ?_ _
          have hfb4 := (show Boxed E.drew w.heap.size 41 (.slice none 0 0) from HB4E.out).frozen
          have hcb4 := (show Boxed E.drew w.heap.size 41 (.slice none 0 0) from HB4E.out).cell
          have hfb5 := (show Boxed E.drew (w.heap.size + 1) 25 (.int .i64 0) from HB5E.out).frozen
          have hcb5 := (show Boxed E.drew (w.heap.size + 1) 25 (.int .i64 0) from HB5E.out).cell
          by_cases hbig : n1 ≤ 3000 ∧ n2 ≤ 3000
          · obtain ⟨hs3, hs4⟩ := hbig
            have hmx : max (n1 : Int) (n2 : Int) ≤ 3000 := by omega
            gi_wp2
            have hfold : (List.map g (pre ++ [x])).foldl stepA (gensA k) = stepA X c := by rw [List.map_append, List.foldl_append, ← hX, HC.out]; rfl
            refine ⟨HKE.out.trans ((keepsFrom_of_below (Below.refl _ E).drew)), ⟨HBLE.out.drew, HBXE.out⟩, ⟨⟨⟨⟨⟨⟨⟨(vs.set i r).set (i + 1) a, ?_⟩, ?_⟩, HB7E.out⟩, HB4E.out⟩, HB5E.out⟩, HBXE.out.trans HBW.out⟩, HBE.out.drew⟩⟩
            · rw [hfold]; exact HORE.out
            · rw [hfold]; exact HSME.out hs3 hs4
          · have hmx : ¬ (max (n1 : Int) (n2 : Int) ≤ 3000) := by omega
            have hb5s : Boxed (E.setCell ⟨w.heap.size, 0, none⟩ (.slice none 0 0)) (w.heap.size + 1) 25 (.int .i64 0) := by
              unfold Boxed; rw [Below.heap_setCell _ _ _ _ (by simp only; omega)]; exact HB5E.out
            have hcs := hb5s.cell
            have hfs := hb5s.frozen
            have HB5S := Lib.hid hb5s; clear hb5s
            gi_wp2
            have hfold : (List.map g (pre ++ [x])).foldl stepA (gensA k) = stepA X c := by rw [List.map_append, List.foldl_append, ← hX, HC.out]; rfl
            have hb4s : Boxed (E.setCell ⟨w.heap.size, 0, none⟩ (.slice none 0 0)) w.heap.size 41 (.slice none 0 0) := HB4E.out.set _
            have hke := HKE.out
            rw [hs0] at hke
            refine ⟨keepsFrom_drew (keepsFrom_set (keepsFrom_set hke _ _) _ _), ⟨⟨⟨rfl, ?_⟩, ?_⟩, ?_⟩, ?_⟩
            · rw [hfold]; exact HLGE.out hbig
            · show Boxed ((E.setCell _ _).setCell _ _) _ _ _
              unfold Boxed; rw [Below.heap_setCell _ _ _ _ (by simp only; omega)]; exact hb4s
            · exact HB5S.out.set _
            · exact ((HBE.out.setCell (by simp only; omega) _).setCell (by simp only; omega) _).drew
        · have hneg : ¬ c > 0 := hpos
          gi_wp2
          obtain ⟨D, hD⟩ : ∃ D : World, D = W.drew.drew := ⟨_, rfl⟩
          have hbD : Below W.heap.size W D := by rw [hD]; exact ((Below.refl _ W).drew).drew
          have hDs : D.heap.size = W.heap.size := by rw [hD]; rfl
          have horD := hor.below hbD
          have iaD := ia.below hbD
          have ibD := ib.below hbD
          have hcD := (boxed_below hb7 hbD).cell
          have hDD : W.drew.drew = D := hD.symm
          clear hD
          have hlt7 : w2.heap.size < W.heap.size := hb7.lt
          have hltW : wr.heap.size < W.heap.size := hWbs
          have HHH := Lib.hid hc7; have HOR := Lib.hid hor; have HB7 := Lib.hid hb7; have HB4 := Lib.hid hb4; have HB5 := Lib.hid hb5; have HIA := Lib.hid ia; have HIB := Lib.hid ib; have HCA := Lib.hid ca; have HCB := Lib.hid cb; have HSM := Lib.hid hsm; have HBD := Lib.hid hbD; have HIAD := Lib.hid iaD; have HIBD := Lib.hid ibD; have HORD := Lib.hid horD; have HB := Lib.hid hB
          clear hc7 hor hb7 hb4 hb5 ia ib ca cb hsm hbD iaD ibD horD hB
          refine wpIn_region_held (fun W' => W'.cell? ⟨w2.heap.size, 0, none⟩ = some u) 16 rfl (by kernel_rfl) (by kernel_rfl) (by rintro ⟨_, _, h⟩; exact h) HHH.out (fun hHeld => ?_)
          rw [hDD] at hHeld ⊢
          refine takeH 0 (v := ?v36) rfl rfl (by kernel_rfl) (by kernel_rfl) (by kernel_rfl) (fun _ _ _ h => h) (by rfl) (by assumption) ?hy36 ?rest36
          case hy36 => intro w hs1; go_simp; with_reducible rfl
          simp only [List.setIfInBounds_toArray, List.set_cons_zero, List.set_cons_succ]
          refine takeH 1 (v := ?v37) rfl rfl (by kernel_rfl) (by kernel_rfl) (by kernel_rfl) (fun _ _ _ h => h) (by rfl) (by assumption) ?hy37 ?rest37
          case hy37 => intro w hs1; go_simp; with_reducible rfl
          simp only [List.setIfInBounds_toArray, List.set_cons_zero, List.set_cons_succ]
          refine takeH 2 (v := ?v38) rfl rfl (by kernel_rfl) (by kernel_rfl) (by kernel_rfl) (fun _ _ _ h => h) (by rfl) (by assumption) ?hy38 ?rest38
          case hy38 => intro w hs1; go_simp; with_reducible rfl
          simp only [List.setIfInBounds_toArray, List.set_cons_zero, List.set_cons_succ]
          refine takeH 3 (v := ?v39) rfl rfl (by kernel_rfl) (by kernel_rfl) (by kernel_rfl) (fun _ _ _ h => h) (by rfl) (by assumption) ?hy39 ?rest39
          case hy39 => intro w hs1; go_simp; with_reducible rfl
          simp only [List.setIfInBounds_toArray, List.set_cons_zero, List.set_cons_succ]
          refine takeH 4 (v := ?v40) rfl rfl (by kernel_rfl) (by kernel_rfl) (by kernel_rfl) (fun _ _ _ h => h) (by rfl) (by assumption) ?hy40 ?rest40
          case hy40 => intro w hs1; go_simp; with_reducible rfl
          simp only [List.setIfInBounds_toArray, List.set_cons_zero, List.set_cons_succ]
          refine takeH 5 (v := ?v41) rfl rfl (by kernel_rfl) (by kernel_rfl) (by kernel_rfl) (fun _ _ _ h => h) (by rfl) (by assumption) ?hy41 ?rest41
          case hy41 => intro w hs1; go_simp; with_reducible rfl
          simp only [List.setIfInBounds_toArray, List.set_cons_zero, List.set_cons_succ]
          refine takeH 6 (v := ?v42) rfl rfl (by kernel_rfl) (by kernel_rfl) (by kernel_rfl) (fun _ _ _ h => h) (by rfl) (by assumption) ?hy42 ?rest42
          case hy42 => intro w hs1; go_simp; with_reducible rfl
          simp only [List.setIfInBounds_toArray, List.set_cons_zero, List.set_cons_succ]
          refine takeH 8 (v := ?v43) rfl rfl (by kernel_rfl) (by kernel_rfl) (by kernel_rfl) (fun _ _ _ h => h) (by rfl) (by assumption) ?hy43 ?rest43
          case hy43 => intro w hs1; go_simp; with_reducible rfl
          simp only [List.setIfInBounds_toArray, List.set_cons_zero, List.set_cons_succ]
          refine takeH 9 (v := ?v44) rfl rfl (by kernel_rfl) (by kernel_rfl) (by kernel_rfl) (fun _ _ _ h => h) (by rfl) (by assumption) ?hy44 ?rest44
          case hy44 => intro w hs1; go_simp; with_reducible rfl
          simp only [List.setIfInBounds_toArray, List.set_cons_zero, List.set_cons_succ]
          refine stepH 7 rfl (by kernel_rfl) (by rfl) (fun K hK => ?_)
          go_simp
          refine (inverted_calls b (nthr X (i + 1)) D HIBD.out (HSM.out _ (nthr_mem hi1)).1 (Nat.le_trans (HSM.out _ (nthr_mem hi1)).2 (by omega))).mono ?_
          rintro e w5 ⟨y, rfl, hy, hbw5⟩
          have sy := hy.isSl
          have h5s := hbw5.size
          have hc5 : w5.cell? ⟨w2.heap.size, 0, none⟩ = some u := (hbw5.cell (p := ⟨w2.heap.size, 0, none⟩) (by simp only; omega)).trans hcD
          have HY := Lib.hid hy; have HBW5 := Lib.hid hbw5
          clear hy hbw5
          go_wp2_with fail
          refine hK.out _ _ (hc5) (fun _ => ?_)
          clear hK K
          try simp only [Act.put, List.setIfInBounds_toArray, List.set_cons_zero, List.set_cons_succ]
          refine stepH 10 rfl (by kernel_rfl) (by rfl) (fun K hK => ?_)
          have hc6 : (w5.alloc (.cells #[y, a, b] 22)).cell? ⟨w2.heap.size, 0, none⟩ = some u := (((Below.refl _ w5).alloc (Nat.le_refl _) _).cell (p := ⟨w2.heap.size, 0, none⟩) (by simp only; omega)).trans hc5
          refine wp_build3 (.tmp 69) (.tmp 70) (.tmp 71) rfl rfl rfl rfl sy sa sb ?_
          refine hK.out _ _ (hc6) (fun _ => ?_)
          clear hK K
          try simp only [Act.put, List.setIfInBounds_toArray]
          refine stepH 11 rfl (by kernel_rfl) (by rfl) (fun K hK => ?_)
          go_simp
          have hsmall := small3 (HSM.out _ (nthr_mem hi0)) (HSM.out _ (nthr_mem hi1))
          have HSMALL := Lib.hid hsmall; clear hsmall
          refine (reduced_calls _ [y, a, b] [invL (nthr X (i + 1)), nthr X i, nthr X (i + 1)] _ (rowsV_3A HY.out.ints (HIAD.out.below HBW5.out) (HIBD.out.below HBW5.out)) HSMALL.out.2.1 HSMALL.out.2.2).mono ?_
          rintro e w6 ⟨r, rfl, hr, hbw6⟩
          have sr := hr.isSl
          have h6s := hbw6.size
          rw [World.size_alloc] at h6s
          have hc6' : w6.cell? ⟨w2.heap.size, 0, none⟩ = some u := (hbw6.cell (p := ⟨w2.heap.size, 0, none⟩) (by simp only [World.size_alloc]; omega)).trans hc6
          have hb6 : Below D.heap.size D w6 := Below.chain HBW5.out (Below.chain ((Below.refl _ w5).alloc (Nat.le_refl _) _) hbw6)
          have HR := Lib.hid (hr.low (show D.heap.size ≤ _ by simp only [World.size_alloc]; omega)); have HB6 := Lib.hid hb6
          clear hr hbw6 hb6
          go_wp2_with fail
          refine hK.out _ _ (hc6') (fun _ => ?_)
          clear hK K
          try simp only [Act.put, List.setIfInBounds_toArray, List.set_cons_zero, List.set_cons_succ]
          refine takeH 12 (v := ?v45) rfl rfl (by kernel_rfl) (by kernel_rfl) (by kernel_rfl) (fun _ _ _ h => h) (by rfl) (by assumption) ?hy45 ?rest45
          case hy45 => intro w hs1; go_simp; with_reducible rfl
          simp only [List.setIfInBounds_toArray, List.set_cons_zero, List.set_cons_succ]
          have hor6 := HORD.out.below HB6.out
          have e1 : 0 < (nthr X (i + 1)).length → row u ≠ some (vblk b) := fun h0 => by have := HORD.out.2.2.2 (i + 1) hi1 h0; rwa [HBV.out] at this
          have e2 : 0 < (redL [invL (nthr X (i + 1)), nthr X i, nthr X (i + 1)].flatten).length → row u ≠ some (vblk r) := own_apart HORD.out hi0 HR.out
          have or1 : OR (w6.setCell (vat u i) b) (w2.heap.size + 1) u (vs.set i b) (X.set i (nthr X (i + 1))) := hor6.set hi0 (HIBD.out.below HB6.out) e1
          have ii2 : Ints (w6.setCell (vat u i) b) r (redL [invL (nthr X (i + 1)), nthr X i, nthr X (i + 1)].flatten) := ints_keep hor6 hi0 HR.out.ints e2 _
          have hi1' : i + 1 < (X.set i (nthr X (i + 1))).length := by rw [List.length_set]; omega
          have or2 : OR ((w6.setCell (vat u i) b).setCell (vat u (i + 1)) r) (w2.heap.size + 1) u ((vs.set i b).set (i + 1) r) ((X.set i (nthr X (i + 1))).set (i + 1) (redL [invL (nthr X (i + 1)), nthr X i, nthr X (i + 1)].flatten)) := or1.set hi1' ii2 e2
          have q1 : (w6.cell? (vat u i)).isSome = true := by rw [hor6.rows.cell hi0]; rfl
          have q2 := hor6.frozen hi0
          have q3 : ((w6.setCell (vat u i) b).cell? (vat u (i + 1))).isSome = true := by rw [or1.rows.cell hi1']; rfl
          have q4 := or1.frozen hi1'
          have hbu7 : ∀ j, (⟨w2.heap.size, 0, none⟩ : Addr) ≠ vat u j := fun j e => by have := congrArg Addr.block e; simp only [vat_block] at this; omega
          have hc8 : (w6.setCell (vat u i) b).cell? ⟨w2.heap.size, 0, none⟩ = some u := (World.cell?_setCell_other _ _ _ _ (hbu7 _).symm).trans hc6'
          have hc9 : ((w6.setCell (vat u i) b).setCell (vat u (i + 1)) r).cell? ⟨w2.heap.size, 0, none⟩ = some u := (World.cell?_setCell_other _ _ _ _ (hbu7 _).symm).trans hc8
          have HOR6 := Lib.hid hor6; have HE1 := Lib.hid e1; have HE2 := Lib.hid e2; have HOR1 := Lib.hid or1; have HII2 := Lib.hid ii2; have HOR2 := Lib.hid or2
          clear hor6 e1 e2 or1 ii2 or2
          refine stepH 13 rfl (by kernel_rfl) (by rfl) (fun K hK => ?_)
          go_simp
          refine hK.out _ _ (hc8) (fun _ => ?_)
          clear hK K
          try simp only [Act.put, List.setIfInBounds_toArray, List.set_cons_zero, List.set_cons_succ]
          refine takeH 14 (v := ?v46) rfl rfl (by kernel_rfl) (by kernel_rfl) (by kernel_rfl) (fun _ _ _ h => h) (by rfl) (by assumption) ?hy46 ?rest46
          case hy46 => intro w hs1; go_simp; with_reducible rfl
          simp only [List.setIfInBounds_toArray, List.set_cons_zero, List.set_cons_succ]
          refine stepH 15 rfl (by kernel_rfl) (by rfl) (fun K hK => ?_)
          go_simp
          refine hK.out _ _ (hc9) (fun _ => ?_)
          clear hK K
          try simp only [Act.put, List.setIfInBounds_toArray, List.set_cons_zero, List.set_cons_succ]
          refine wpAnyH_done (by kernel_rfl) ?_ _
          gi_wp2
          obtain ⟨E, hE⟩ : ∃ E, E = (w6.setCell (vat u i) b).setCell (vat u (i + 1)) r := ⟨_, rfl⟩
          rw [← hE] at hc9 ⊢
          have horE : OR E (w2.heap.size + 1) u ((vs.set i b).set (i + 1) r) (stepA X c) := by rw [hE, stepA_neg (by omega) hi]; exact HOR2.out
          have ceA : E.cell? (vat u i) = some b := by rw [hE, World.cell?_setCell_other _ _ _ _ (fun e => by have := vat_inj.1 e; omega)]; exact World.cell?_setCell_same' _ _ _ q1
          have ceB : E.cell? (vat u (i + 1)) = some r := by rw [hE]; exact World.cell?_setCell_same' _ _ _ q3
          have hbE : Below w.heap.size w E := by rw [hE]; exact ((Below.chain HB.out (Below.chain HBD.out HB6.out)).setCell (by simp only [vat_block]; omega) _).setCell (by simp only [vat_block]; omega) _
          have hkE : KeepsFrom W0.heap.size W E := by rw [hE]; exact ((keepsFrom_of_below (Below.chain HBD.out HB6.out)).trans ((KeepsOthers.setCell _ _ _).from _)).trans ((KeepsOthers.setCell _ _ _).from _)
          have hblE : Below w.heap.size W E := by rw [hE]; exact (((Below.chain HBD.out HB6.out).mono (by omega)).setCell (by simp only [vat_block]; omega) _).setCell (by simp only [vat_block]; omega) _
          have hbxE : E.heap[wr.heap.size]? = W.heap[wr.heap.size]? := by
            rw [hE, Below.heap_setCell _ _ _ _ (by simp only [vat_block]; omega), Below.heap_setCell _ _ _ _ (by simp only [vat_block]; omega)]
            exact (Below.chain HBD.out HB6.out).block _ (by omega)
          have hb7E : Boxed E w2.heap.size 41 u := by
            rw [hE]; unfold Boxed
            rw [Below.heap_setCell _ _ _ _ (by simp only [vat_block]; omega), Below.heap_setCell _ _ _ _ (by simp only [vat_block]; omega)]
            exact boxed_below HB7.out (Below.chain HBD.out HB6.out)
          have hb4E : Boxed E w.heap.size 41 (.slice none 0 0) := by
            rw [hE]; unfold Boxed
            rw [Below.heap_setCell _ _ _ _ (by simp only [vat_block]; omega), Below.heap_setCell _ _ _ _ (by simp only [vat_block]; omega)]
            exact boxed_below HB4.out (Below.chain HBD.out HB6.out)
          have hb5E : Boxed E (w.heap.size + 1) 25 (.int .i64 0) := by
            rw [hE]; unfold Boxed
            rw [Below.heap_setCell _ _ _ _ (by simp only [vat_block]; omega), Below.heap_setCell _ _ _ _ (by simp only [vat_block]; omega)]
            exact boxed_below HB5.out (Below.chain HBD.out HB6.out)
          obtain ⟨n1, hn1⟩ : ∃ n1, (nthr X (i + 1)).length = n1 := ⟨_, rfl⟩
          obtain ⟨n2, hn2⟩ : ∃ n2, (redL [invL (nthr X (i + 1)), nthr X i, nthr X (i + 1)].flatten).length = n2 := ⟨_, rfl⟩
          have l1 : vlen b = n1 := by rw [← hn1]; exact HIBD.out.len
          have l2 : vlen r = n2 := by rw [← hn2]; exact HR.out.len
          have hnb : n1 ≤ 20000 ∧ n2 ≤ 20000 := by
            have g1 := (HSM.out _ (nthr_mem hi0)).2
            have g2 := (HSM.out _ (nthr_mem hi1)).2
            have g3 := (small3 (HSM.out _ (nthr_mem hi0)) (HSM.out _ (nthr_mem hi1)))
            have g4 := Nat.le_trans (redL_length _) g3.2.2
            rw [← hn1, ← hn2]
            exact ⟨by omega, by omega⟩
          have hsmE : n1 ≤ 3000 → n2 ≤ 3000 → SmallA (stepA X c) := fun g1 g2 => by
            rw [stepA_neg (by omega) hi]
            refine small_set (small_set HSM.out ⟨?_, by omega⟩) ⟨?_, by omega⟩
            · exact (HSM.out _ (nthr_mem hi1)).1
            · exact red_small HSMALL.out.2.1
          have hlgE : ¬ (n1 ≤ 3000 ∧ n2 ≤ 3000) → ∃ r ∈ stepA X c, 3000 < r.length := fun g0 => by
            rw [stepA_neg (by omega) hi]
            exact long_set hi1 (by rw [hn1, hn2]; exact g0)
          have HLGE := Lib.hid hlgE; have HBLE := Lib.hid hblE; clear hlgE hblE
          have HN1 := Lib.hid hn1; have HN2 := Lib.hid hn2; have HNB := Lib.hid hnb; have HSME := Lib.hid hsmE; have HORE := Lib.hid horE; have HBE := Lib.hid hbE; have HKE := Lib.hid hkE; have HBXE := Lib.hid hbxE; have HB7E := Lib.hid hb7E; have HB4E := Lib.hid hb4E; have HB5E := Lib.hid hb5E
          clear hE hn1 hn2 hnb hsmE horE hbE hkE hbxE hb7E hb4E hb5E q1 q2 q3 q4
          refine wpIn_region_held (fun W' => W'.cell? ⟨w2.heap.size, 0, none⟩ = some u ∧ W'.cell? (vat u i) = some b ∧ W'.cell? (vat u (i + 1)) = some r) 13 rfl (by kernel_rfl) (by kernel_rfl) (by rintro ⟨_, _, h⟩; exact h) ⟨hc9, ceA, ceB⟩ (fun hHeld => ?_)
          refine takeH 0 (v := ?v47) rfl rfl (by kernel_rfl) (by kernel_rfl) (by kernel_rfl) (fun _ _ _ h => h) (by rfl) (by assumption) ?hy47 ?rest47
          case hy47 => intro w ⟨hs1, hs2, hs3⟩; go_simp; with_reducible rfl
          simp only [List.setIfInBounds_toArray, List.set_cons_zero, List.set_cons_succ]
          refine takeH 1 (v := ?v48) rfl rfl (by kernel_rfl) (by kernel_rfl) (by kernel_rfl) (fun _ _ _ h => h) (by rfl) (by assumption) ?hy48 ?rest48
          case hy48 => intro w ⟨hs1, hs2, hs3⟩; go_simp; with_reducible rfl
          simp only [List.setIfInBounds_toArray, List.set_cons_zero, List.set_cons_succ]
          refine takeH 2 (v := ?v49) rfl rfl (by kernel_rfl) (by kernel_rfl) (by kernel_rfl) (fun _ _ _ h => h) (by rfl) (by assumption) ?hy49 ?rest49
          case hy49 => intro w ⟨hs1, hs2, hs3⟩; go_simp; with_reducible rfl
          simp only [List.setIfInBounds_toArray, List.set_cons_zero, List.set_cons_succ]
          refine takeH 3 (v := ?v50) rfl rfl (by kernel_rfl) (by kernel_rfl) (by kernel_rfl) (fun _ _ _ h => h) (by rfl) (by assumption) ?hy50 ?rest50
          case hy50 => intro w ⟨hs1, hs2, hs3⟩; go_simp; with_reducible rfl
          simp only [List.setIfInBounds_toArray, List.set_cons_zero, List.set_cons_succ]
          refine takeH 4 (v := ?v51) rfl rfl (by kernel_rfl) (by kernel_rfl) (by kernel_rfl) (fun _ _ _ h => h) (by rfl) (by assumption) ?hy51 ?rest51
          case hy51 => intro w ⟨hs1, hs2, hs3⟩; go_simp; with_reducible rfl
          simp only [List.setIfInBounds_toArray, List.set_cons_zero, List.set_cons_succ]
          refine takeH 5 (v := ?v52) rfl rfl (by kernel_rfl) (by kernel_rfl) (by kernel_rfl) (fun _ _ _ h => h) (by rfl) (by assumption) ?hy52 ?rest52
          case hy52 => intro w ⟨hs1, hs2, hs3⟩; go_simp; with_reducible rfl
          simp only [List.setIfInBounds_toArray, List.set_cons_zero, List.set_cons_succ]
          refine takeH 6 (v := ?v53) rfl rfl (by kernel_rfl) (by kernel_rfl) (by kernel_rfl) (fun _ _ _ h => h) (by rfl) (by assumption) ?hy53 ?rest53
          case hy53 => intro w ⟨hs1, hs2, hs3⟩; go_simp; with_reducible rfl
          simp only [List.setIfInBounds_toArray, List.set_cons_zero, List.set_cons_succ]
          refine takeH 7 (v := ?v54) rfl rfl (by kernel_rfl) (by kernel_rfl) (by kernel_rfl) (fun _ _ _ h => h) (by rfl) (by assumption) ?hy54 ?rest54
          case hy54 => intro w ⟨hs1, hs2, hs3⟩; go_simp; with_reducible rfl
          simp only [List.setIfInBounds_toArray, List.set_cons_zero, List.set_cons_succ]
          refine takeH 8 (v := ?v55) rfl rfl (by kernel_rfl) (by kernel_rfl) (by kernel_rfl) (fun _ _ _ h => h) (by rfl) (by assumption) ?hy55 ?rest55
          case hy55 => intro w ⟨hs1, hs2, hs3⟩; go_simp; with_reducible rfl
          simp only [List.setIfInBounds_toArray, List.set_cons_zero, List.set_cons_succ]
          refine takeH 9 (v := ?v56) rfl rfl (by kernel_rfl) (by kernel_rfl) (by kernel_rfl) (fun _ _ _ h => h) (by rfl) (by assumption) ?hy56 ?rest56
          case hy56 => intro w ⟨hs1, hs2, hs3⟩; go_simp; with_reducible rfl
          simp only [List.setIfInBounds_toArray, List.set_cons_zero, List.set_cons_succ]
          refine takeH 10 (v := ?v57) rfl rfl (by kernel_rfl) (by kernel_rfl) (by kernel_rfl) (fun _ _ _ h => h) (by rfl) (by assumption) ?hy57 ?rest57
          case hy57 => intro w ⟨hs1, hs2, hs3⟩; go_simp; with_reducible rfl
          simp only [List.setIfInBounds_toArray, List.set_cons_zero, List.set_cons_succ]
          refine takeH 11 (v := ?v58) rfl rfl (by kernel_rfl) (by kernel_rfl) (by kernel_rfl) (fun _ _ _ h => h) (by rfl) (by assumption) ?hy58 ?rest58
          case hy58 => intro w ⟨hs1, hs2, hs3⟩; go_simp; with_reducible rfl
          simp only [List.setIfInBounds_toArray, List.set_cons_zero, List.set_cons_succ]
          refine takeH 12 (v := ?v59) rfl rfl (by kernel_rfl) (by kernel_rfl) (by kernel_rfl) (fun _ _ _ h => h) (by rfl) (by assumption) ?hy59 ?rest59
          case hy59 => intro w ⟨hs1, hs2, hs3⟩; go_simp; with_reducible rfl
          simp only [List.setIfInBounds_toArray, List.set_cons_zero, List.set_cons_succ]
          refine wpAnyH_done (by kernel_rfl) ?_ _
          have hfb4 := (show Boxed E.drew w.heap.size 41 (.slice none 0 0) from HB4E.out).frozen
          have hcb4 := (show Boxed E.drew w.heap.size 41 (.slice none 0 0) from HB4E.out).cell
          have hfb5 := (show Boxed E.drew (w.heap.size + 1) 25 (.int .i64 0) from HB5E.out).frozen
          have hcb5 := (show Boxed E.drew (w.heap.size + 1) 25 (.int .i64 0) from HB5E.out).cell
          by_cases hbig : n1 ≤ 3000 ∧ n2 ≤ 3000
          · obtain ⟨hs3, hs4⟩ := hbig
            have hmx : max (n1 : Int) (n2 : Int) ≤ 3000 := by omega
            gi_wp2
            have hfold : (List.map g (pre ++ [x])).foldl stepA (gensA k) = stepA X c := by rw [List.map_append, List.foldl_append, ← hX, HC.out]; rfl
            refine ⟨HKE.out.trans ((keepsFrom_of_below (Below.refl _ E).drew)), ⟨HBLE.out.drew, HBXE.out⟩, ⟨⟨⟨⟨⟨⟨⟨(vs.set i b).set (i + 1) r, ?_⟩, ?_⟩, HB7E.out⟩, HB4E.out⟩, HB5E.out⟩, HBXE.out.trans HBW.out⟩, HBE.out.drew⟩⟩
            · rw [hfold]; exact HORE.out
            · rw [hfold]; exact HSME.out hs3 hs4
          · have hmx : ¬ (max (n1 : Int) (n2 : Int) ≤ 3000) := by omega
            have hb5s : Boxed (E.setCell ⟨w.heap.size, 0, none⟩ (.slice none 0 0)) (w.heap.size + 1) 25 (.int .i64 0) := by
              unfold Boxed; rw [Below.heap_setCell _ _ _ _ (by simp only; omega)]; exact HB5E.out
            have hcs := hb5s.cell
            have hfs := hb5s.frozen
            have HB5S := Lib.hid hb5s; clear hb5s
            gi_wp2
            have hfold : (List.map g (pre ++ [x])).foldl stepA (gensA k) = stepA X c := by rw [List.map_append, List.foldl_append, ← hX, HC.out]; rfl
            have hb4s : Boxed (E.setCell ⟨w.heap.size, 0, none⟩ (.slice none 0 0)) w.heap.size 41 (.slice none 0 0) := HB4E.out.set _
            have hke := HKE.out
            rw [hs0] at hke
            refine ⟨keepsFrom_drew (keepsFrom_set (keepsFrom_set hke _ _) _ _), ⟨⟨⟨rfl, ?_⟩, ?_⟩, ?_⟩, ?_⟩
            · rw [hfold]; exact HLGE.out hbig
            · show Boxed ((E.setCell _ _).setCell _ _) _ _ _
              unfold Boxed; rw [Below.heap_setCell _ _ _ _ (by simp only; omega)]; exact hb4s
            · exact HB5S.out.set _
            · exact ((HBE.out.setCell (by simp only; omega) _).setCell (by simp only; omega) _).drew
      case done =>
        rintro D ys W hD rfl ⟨⟨⟨⟨⟨⟨⟨vs, hor⟩, hsm⟩, hb7⟩, hb4⟩, hb5⟩, hbx⟩, hB⟩ hK
        rw [downs_g xs g HG1.out] at hor hsm
        have hc7 := hb7.cell
        have hc4 := hb4.cell
        have hf4 := hb4.frozen
        have hc5 := hb5.cell
        have hf5 := hb5.frozen
        have hb5s : Boxed (W.setCell ⟨w.heap.size, 0, none⟩ u) (w.heap.size + 1) 25 (.int .i64 0) := by
          unfold Boxed; rw [Below.heap_setCell _ _ _ _ (by simp only; omega)]; exact hb5
        have hcs := hb5s.cell
        have hfs := hb5s.frozen
        have HOR := Lib.hid hor; have HSM := Lib.hid hsm; have HB7 := Lib.hid hb7; have HB4 := Lib.hid hb4; have HB5 := Lib.hid hb5; have HBX := Lib.hid hbx; have HB := Lib.hid hB; have HB5S := Lib.hid hb5s
        clear hor hsm hb7 hb4 hb5 hbx hB hb5s
        gi_wp2
        go_wp2_with fail
        have hDw : wr.heap.size + 1 ≤ D := by omega
        have hD1 : (W.setCell ⟨w.heap.size, 0, none⟩ u).heap[D]? = some (Obj.deferred (some [])) := by rw [Below.heap_setCell _ _ _ _ (by simp only; omega)]; exact hK
        have hD2 : ((W.setCell ⟨w.heap.size, 0, none⟩ u).setCell ⟨w.heap.size + 1, 0, none⟩ (.int .i64 0)).heap[D]? = some (Obj.deferred (some [])) := by rw [Below.heap_setCell _ _ _ _ (by simp only; omega)]; exact hD1
        have g4 : Boxed ((W.setCell ⟨w.heap.size, 0, none⟩ u).setCell ⟨w.heap.size + 1, 0, none⟩ (.int .i64 0)) w.heap.size 41 u := by
          unfold Boxed; rw [Below.heap_setCell _ _ _ _ (by simp only; omega)]; exact HB4.out.set _
        have g5 : Boxed ((W.setCell ⟨w.heap.size, 0, none⟩ u).setCell ⟨w.heap.size + 1, 0, none⟩ (.int .i64 0)) (w.heap.size + 1) 25 (.int .i64 0) := HB5S.out.set _
        have horF : OR ((W.setCell ⟨w.heap.size, 0, none⟩ u).setCell ⟨w.heap.size + 1, 0, none⟩ (.int .i64 0)) (w2.heap.size + 1) u vs (imagesA k xs) := (HOR.out.setBox HB4.out isSl_nil (by omega) u).setSame HB5S.out (by omega)
        refine ⟨by simp, .inl ⟨_, _, rfl, run_takeDeferred hD2, ?_⟩⟩
        refine ⟨_, results_cell2 rfl _ _ rfl rfl (run_load_sls _ _ u ?_) (run_load_errno _ _ (.int .i64 0) ?_), ?_⟩
        · exact (show Boxed (World.putObj _ _ _) _ _ _ from (World.putObj_heap_other (by omega)).trans g4).cell
        · exact (show Boxed (World.putObj _ _ _) _ _ _ from (World.putObj_heap_other (by omega)).trans g5).cell
        · exact ⟨.inr ⟨u, vs, rfl, (horF.putObj _ hD2 rfl).low (by omega)⟩, ((HB.out.setCell (by simp only; omega) _).setCell (by simp only; omega) _).trans (belowK_b (w := w) (Nat.le_refl _) _ D _ _ (by omega) hD2 rfl rfl)⟩
      case stop =>
        rintro D cd pre W hD ⟨j, hj, rfl⟩ ⟨⟨⟨⟨rfl, hlong⟩, hb4⟩, hb5⟩, hB⟩ hK
        have hc4 := hb4.cell
        have hc5 := hb5.cell
        gi_wp2
        have hDw : wr.heap.size + 1 ≤ D := by omega
        refine ⟨by simp, .inl ⟨_, _, rfl, run_takeDeferred hK, ?_⟩⟩
        refine ⟨_, results_cell2 rfl _ _ rfl rfl (run_load_sls _ _ (.slice none 0 0) ?_) (run_load_errno _ _ (.int .i64 2) ?_), ?_⟩
        · exact (show Boxed (World.putObj _ _ _) _ _ _ from (World.putObj_heap_other (by omega)).trans hb4).cell
        · exact (show Boxed (World.putObj _ _ _) _ _ _ from (World.putObj_heap_other (by omega)).trans hb5).cell
        · rw [downs_take hj, List.map_take, downs_g xs g HG1.out] at hlong
          exact ⟨.inl ⟨rfl, j, hj, hlong⟩, hB.trans (belowK_b (w := w) (Nat.le_refl _) _ D _ _ (by omega) hK rfl rfl)⟩

end Go.Proofs.Ytnmklkjlcpgjmaa

