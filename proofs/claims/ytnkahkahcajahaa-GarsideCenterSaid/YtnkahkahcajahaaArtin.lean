/- artin.Images walked. -/
import Derived.Test.YtnkahkahcajahaaArtinLaw
import Derived.Test.YtnkahkahcajahaaInRound
import Derived.Test.YtnkahkahcajahaaWords
import Derived.Test.YtnkahkahcajahaaBraid
import Derived.Test.YtnkahkahcajahaaPair
import Derived.Deep.RegionHeld3
namespace Go.Proofs.Ytnkahkahcajahaa
open Go.RowKit Go.Sl
attribute [local go_sem] Oper.semAt_some

/-- The call's own slice of slices, its rows by name; no row lies in its own block. -/
def OR (W : World) (B : Nat) (u : Value) (vs : List Value) (xss : List (List Int)) : Prop :=
  Go.Sl.Own W B 22 1 u vs ∧ vs.length = xss.length ∧ (∀ i, i < xss.length → Ints W (nthv vs i) (nthr xss i)) ∧ ∀ i, i < xss.length → 0 < (nthr xss i).length → row u ≠ some (vblk (nthv vs i))

section
variable {W W' : World} {B : Nat} {u r : Value} {vs : List Value} {xss : List (List Int)} {ys : List Int} {j : Nat}
theorem OR.rows (h : OR W B u vs xss) : RowsV W u vs xss := ⟨h.1.sl, h.2.1, h.2.2.1⟩
theorem OR.below (h : OR W B u vs xss) (hb : Below W.heap.size W W') : OR W' B u vs xss := ⟨h.1.below hb, h.2.1, fun i hi => (h.2.2.1 i hi).below hb, h.2.2.2⟩
theorem OR.frozen (h : OR W B u vs xss) (hj : j < xss.length) : W.frozen? (vat u j) = false := h.1.frozen (by rw [h.2.1]; exact hj)
theorem OR.ge (h : OR W B u vs xss) (hj : j < xss.length) : B ≤ vblk u := h.1.ge (j := j) (by rw [h.2.1]; exact hj)
theorem OR.row_of (h : OR W B u vs xss) (hj : j < xss.length) : row u = some (vblk u) := row_some (h.1.cap_of (j := j) (by rw [h.2.1]; exact hj))
theorem OR.lt (h : OR W B u vs xss) (hj : j < xss.length) : vblk u < W.heap.size := (h.1.lt _ (h.row_of hj)).2
theorem OR.apart (h : OR W B u vs xss) : OwnR.apart W B u xss := ⟨vs, h.1, h.2.1, h.2.2.1, h.2.2.2⟩
theorem ints_keep (h : OR W B u vs xss) (hj : j < xss.length) (hy : Ints W r ys) (hap : 0 < ys.length → row u ≠ some (vblk r)) (x : Value) : Ints (W.setCell (vat u j) x) r ys := by
  rcases Nat.eq_zero_or_pos ys.length with h0 | h0
  · obtain rfl := List.eq_nil_of_length_eq_zero h0
    exact ⟨hy.1, hy.2.1, by simp⟩
  · exact hy.setOther (fun e => hap h0 (by rw [h.row_of hj, ← e]; rfl)) x
theorem OR.set (h : OR W B u vs xss) (hj : j < xss.length) (hy : Ints W r ys) (hap : 0 < ys.length → row u ≠ some (vblk r)) : OR (W.setCell (vat u j) r) B u (vs.set j r) (xss.set j ys) := by
  have hvl := h.2.1
  refine ⟨h.1.set (by omega) r, by simp [hvl], fun i hi => ?_, fun i hi h0 => ?_⟩
  · rw [List.length_set] at hi
    by_cases e : j = i
    · subst e
      have e1 : nthv (vs.set j r) j = r := by rw [nthv_lt (by simp; omega)]; simp
      have e2 : nthr (xss.set j ys) j = ys := by rw [nthr_lt (by simp; omega)]; simp
      rw [e1, e2]
      exact ints_keep h hj hy hap r
    · have e1 : nthv (vs.set j r) i = nthv vs i := by simp [nthv, List.getElem?_set_ne e]
      have e2 : nthr (xss.set j ys) i = nthr xss i := by simp [nthr, List.getElem?_set_ne e]
      rw [e1, e2]
      exact ints_keep h hj (h.2.2.1 i hi) (h.2.2.2 i hi) r
  · rw [List.length_set] at hi
    by_cases e : j = i
    · subst e
      have e1 : nthv (vs.set j r) j = r := by rw [nthv_lt (by simp; omega)]; simp
      have e2 : nthr (xss.set j ys) j = ys := by rw [nthr_lt (by simp; omega)]; simp
      rw [e1]; rw [e2] at h0
      exact hap h0
    · have e1 : nthv (vs.set j r) i = nthv vs i := by simp [nthv, List.getElem?_set_ne e]
      have e2 : nthr (xss.set j ys) i = nthr xss i := by simp [nthr, List.getElem?_set_ne e]
      rw [e1]; rw [e2] at h0
      exact h.2.2.2 i hi h0
theorem own_apart (h : OR W B u vs xss) (hj : j < xss.length) (hr : OwnI W' W.heap.size r ys) : 0 < ys.length → row u ≠ some (vblk r) := fun h0 e => by
  have h1 := (hr.lt (vblk r) (row_some (by have := hr.ints.cap; omega))).1
  rw [h.row_of hj] at e
  have h2 := h.lt hj
  have h3 : vblk u = vblk r := Option.some.inj e
  omega
end

theorem ints_kept {W W' : World} {r : Value} {ys : List Int} {row : Option Nat} (h : Ints W r ys) (hg : W.grownBy W' row) (hr : ∀ k, row = some k → ∃ o : Obj, W.heap[k]? = some o ∧ o.isCells = false) : Ints W' r ys := by
  refine h.keep hg fun h0 e => ?_
  obtain ⟨o, ho, hc⟩ := hr _ e
  have := h.cell h0
  simp only [World.cell?, vat_block] at this
  rw [ho] at this
  cases o <;> simp_all [Obj.isCells]
theorem or_kept {W W' : World} {B : Nat} {u : Value} {vs : List Value} {xss : List (List Int)} {rw0 : Option Nat} (h : OR W B u vs xss) (hg : W.grownBy W' rw0) (hr : ∀ k, rw0 = some k → ∃ o : Obj, W.heap[k]? = some o ∧ o.isCells = false) : OR W' B u vs xss := by
  refine ⟨h.1.grown hg fun k hk e => ?_, h.2.1, fun i hi => ints_kept (h.2.2.1 i hi) hg hr, h.2.2.2⟩
  obtain ⟨o, ho, hc⟩ := hr _ e
  obtain ⟨h0, hb⟩ := row_eq hk
  obtain ⟨_, _, cur, hh, _⟩ := h.1.2.2 h0
  rw [hb, ho] at hh
  cases hh
  cases hc

theorem sl_threeA (w : World) (u v x : Value) (e : TypeId) : Sl (w.alloc (.cells #[u, v, x] e)) (.slice (some ⟨w.heap.size, 0, none⟩) 3 3) 1 [u, v, x] := by
  refine ⟨isSl_mk _ _ _ _ (Nat.le_refl _) (by unfold maxLen; omega), by simp, fun j y hj => ?_⟩
  match j, hj with
  | 0, hj =>
    simp at hj; subst hj
    exact cell_of_row (w.alloc (.cells #[u, v, x] e)) w.heap.size 0 #[u, v, x] e (0, 0) (heap_alloc_new w (.cells #[u, v, x] e))
  | 1, hj =>
    simp at hj; subst hj
    exact cell_of_row (w.alloc (.cells #[u, v, x] e)) w.heap.size 1 #[u, v, x] e (0, 0) (heap_alloc_new w (.cells #[u, v, x] e))
  | 2, hj =>
    simp at hj; subst hj
    exact cell_of_row (w.alloc (.cells #[u, v, x] e)) w.heap.size 2 #[u, v, x] e (0, 0) (heap_alloc_new w (.cells #[u, v, x] e))
  | j + 3, hj => simp at hj
theorem rowsV_3A {w : World} {u v x : Value} {xs ys zs : List Int} (h : Ints w u xs) (k : Ints w v ys) (l : Ints w x zs) : RowsV (w.alloc (.cells #[u, v, x] 22)) (.slice (some ⟨w.heap.size, 0, none⟩) 3 3) [u, v, x] [xs, ys, zs] := by
  refine ⟨sl_threeA w u v x _, rfl, fun i hi => ?_⟩
  simp only [List.length_cons, List.length_nil] at hi
  rcases (show i = 0 ∨ i = 1 ∨ i = 2 by omega) with rfl | rfl | rfl
  · exact h.alloc _
  · exact k.alloc _
  · exact l.alloc _


theorem run_build3 {P : Program} (w : World) (t e : TypeId) (i : TypeInfo) (z : Value) (ht : P.underlying t = some (.slice e)) (hi : P.info? e = some i) (hz : i.zero = some z) (hsize : i.size = 1) (hzs : z.cells = #[z])
    {v u r : Value} (hv : v.cells = #[v]) (hu : u.cells = #[u]) (hr : r.cells = #[r]) :
    (Instr.buildSlice t 3 #[(0, v), (1, u), (2, r)]).run P w = .ok (.slice (some ⟨w.heap.size, 0, none⟩) 3 3) (w.alloc (.cells #[v, u, r] e)) := by
  simp [Instr.buildSlice, run_underlying ht, sizeOf, typeInfo, hi, hsize, zeroValue, hz, hzs, newRow, Instr.fill, hv, hu, hr, show Array.range 3 = #[0, 1, 2] from by decide]
theorem wp_build3 {w : World} {o : Oper} {a : Act} {K : Act → World → Prop} {Q : Exit → Act → World → Prop} (x y z : Operand) (ho : o.op = Op.buildSlice 31 3 #[(0, x), (1, y), (2, z)])
    {v u r : Value} (hx : a.eval x = v) (hy : a.eval y = u) (hz : a.eval z = r) (hv : IsSl v) (hu : IsSl u) (hr : IsSl r)
    (h : K (a.put o.dst (.slice (some ⟨w.heap.size, 0, none⟩) 3 3)) (w.alloc (.cells #[v, u, r] 22))) : Oper.wp Try.prog o a w K Q := by
  obtain ⟨i, hi, hz0, hz1, hz2⟩ := info_parts info_slice
  have hrn := run_build3 (P := Try.prog) w 31 22 i _ Try.underlying31 hi hz0 hz1 rfl (cells_of_sl hv) (cells_of_sl hu) (cells_of_sl hr)
  unfold Oper.wp execOp
  simp only [ho, Sem.run_bind, List.map_toArray, List.map_cons, List.map_nil, hx, hy, hz, hrn, Result.andThen_ok]
  exact h
theorem keepsFrom_of_below {B : Nat} {W W' : World} (h : Below W.heap.size W W') : KeepsFrom B W W' :=
  ⟨h.size, fun k o _ hk _ => (h.block k (Array.getElem?_eq_some_iff.1 hk).1).trans hk⟩

theorem keepsFrom_set {B : Nat} {W E : World} (h : KeepsFrom B W E) (a : Addr) (x : Value) : KeepsFrom B W (E.setCell a x) := h.trans ((KeepsOthers.setCell _ _ _).from _)
theorem keepsFrom_drew {B : Nat} {W E : World} (h : KeepsFrom B W E) : KeepsFrom B W E.drew := h.trans (keepsFrom_of_below (Below.refl _ _).drew)
theorem boxed_below {W W' : World} {B : Nat} {t : TypeId} {v : Value} (h : Boxed W B t v) (hb : Below W.heap.size W W') : Boxed W' B t v := (hb.block B h.lt).trans h
theorem ints_notBox {W : World} {B : Nat} {t : TypeId} {u r : Value} {ys : List Int} (h : Ints W r ys) (hb : Boxed W B t u) (hu : IsSl u) (h0 : 0 < ys.length) : vblk r ≠ B := by
  intro e
  have hc := h.cell h0
  obtain ⟨a, m, c, rfl, -⟩ := hu.cases
  simp only [World.cell?, vat_block, e] at hc
  rw [show W.heap[B]? = _ from hb] at hc
  simp only [vat] at hc
  rcases Nat.eq_zero_or_pos (voff r + 0) with h1 | h1
  · rw [h1] at hc; simp at hc
  · rw [Array.getElem?_eq_none (by simp; omega)] at hc; simp at hc
theorem ownRA_box {W : World} {B b : Nat} {t : TypeId} {u x : Value} {xss : List (List Int)} (h : OwnR.apart W B u xss) (hb : Boxed W b t x) (hx : IsSl x) (hB : b < B) (y : Value) : OwnR.apart (W.setCell ⟨b, 0, none⟩ y) B u xss := by
  obtain ⟨vs, h1, h2, h3, h4⟩ := h
  refine ⟨vs, h1.setOther (fun k hk e => ?_) y, h2, fun i hi => ?_, h4⟩
  · have := (h1.lt k hk).1
    simp only at e
    omega
  · rcases Nat.eq_zero_or_pos (nthr xss i).length with h0 | h0
    · have := h3 i hi
      rw [List.eq_nil_of_length_eq_zero h0] at this ⊢
      exact ⟨this.1, this.2.1, by simp⟩
    · exact (h3 i hi).setOther (fun e => ints_notBox (h3 i hi) hb hx h0 e.symm) y

theorem wpList_pushRowAt {w : World} {ops : Array Oper} {rest : List Oper} {o : Oper} {a : Act} {Q : Exit → Act → World → Prop} (hgd : o.guard = none) (s x : Operand)
    (ho : o.op = .call { callee := .builtin .append, args := #[s, x], argTypes := #[31, 31] })
    {B b : Nat} {v r : Value} {xss : List (List Int)} {ys : List Int} (hb : b = w.heap.size) (hs : a.eval s = v) (hx : a.eval x = .slice (some ⟨b, 0, none⟩) 1 1) (hown : OwnR.apart w B v xss) (hy : Ints w r ys) (hB : B ≤ w.heap.size) (hlen : xss.length ≤ 1000000000000)
    (hap : 0 < ys.length → row v ≠ some (vblk r))
    (h : ∀ v' w', OwnR.apart w' B v' (xss ++ [ys]) → w.grownBy w' (row v) → (∀ k, row v' = some k → row v = some k ∨ w.heap.size ≤ k) → wpList Try.prog ops Q rest (a.put o.dst v') w') :
    wpList Try.prog ops Q (o :: rest) a (w.alloc (.cells #[r] 22)) := by
  subst hb
  exact wpList_pushRow hgd s x ho hs hx hown hy hB hlen hap h

theorem or_from {B B' : Nat} {u : Value} {F : List Nat → List (List Int)} : OwnFrom B' (fun (pre : List Nat) W => ∃ vs, OR W B u vs (F pre)) :=
  fun _ _ _ _ ⟨vs, h⟩ hg hr => ⟨vs, or_kept h hg (fun k e => (hr k e).2)⟩
theorem foldA_length (ys : List Int) : ∀ X : List (List Int), (ys.foldl stepA X).length = X.length := by
  induction ys with
  | nil => exact fun _ => rfl
  | cons y t ih => exact fun X => by rw [List.foldl_cons, ih, stepA_length]
theorem invL_len' (xs : List Int) : (invL xs).length = xs.length := by simp [invL]
theorem invL_small {xs : List Int} (h : ∀ x ∈ xs, -1000 ≤ x ∧ x ≤ 1000) : ∀ x ∈ invL xs, -1000 ≤ x ∧ x ≤ 1000 := by
  intro x hx
  unfold invL at hx
  obtain ⟨y, hy, rfl⟩ := List.mem_map.1 (List.mem_reverse.1 hx)
  have := h y hy
  omega
theorem small3 {xs ys : List Int} (h : (∀ x ∈ xs, -1000 ≤ x ∧ x ≤ 1000) ∧ xs.length ≤ 3000) (k : (∀ x ∈ ys, -1000 ≤ x ∧ x ≤ 1000) ∧ ys.length ≤ 3000) :
    ((∀ zs ∈ [xs, ys, invL xs], ∀ x ∈ zs, -1000 ≤ x ∧ x ≤ 1000) ∧ [xs, ys, invL xs].flatten.length ≤ 20000) ∧ (∀ zs ∈ [invL ys, xs, ys], ∀ x ∈ zs, -1000 ≤ x ∧ x ≤ 1000) ∧ [invL ys, xs, ys].flatten.length ≤ 20000 := by
  have hx := invL_small h.1
  have hy := invL_small k.1
  have h1 := h.1
  have k1 := k.1
  have lx := invL_len' xs
  have ly := invL_len' ys
  have h2 := h.2
  have k2 := k.2
  refine ⟨⟨fun zs hz => ?_, by simp only [List.flatten_cons, List.flatten_nil, List.length_append, List.length_nil]; omega⟩, fun zs hz => ?_, by simp only [List.flatten_cons, List.flatten_nil, List.length_append, List.length_nil]; omega⟩
  · simp only [List.mem_cons, List.not_mem_nil, or_false] at hz
    rcases hz with rfl | rfl | rfl <;> assumption
  · simp only [List.mem_cons, List.not_mem_nil, or_false] at hz
    rcases hz with rfl | rfl | rfl <;> assumption
theorem small_set {X : List (List Int)} {i : Nat} {r : List Int} (h : SmallA X) (hr : (∀ x ∈ r, -1000 ≤ x ∧ x ≤ 1000) ∧ r.length ≤ 3000) : SmallA (X.set i r) := fun s hs =>
  (List.mem_or_eq_of_mem_set hs).elim (h s) (fun e => by rw [e]; exact hr)
theorem red_small {xss : List (List Int)} (h : ∀ zs ∈ xss, ∀ x ∈ zs, -1000 ≤ x ∧ x ≤ 1000) : ∀ x ∈ redL xss.flatten, -1000 ≤ x ∧ x ≤ 1000 := fun x hx => by
  obtain ⟨zs, hz, hxz⟩ := List.mem_flatten.1 (redL_mem hx)
  exact h zs hz x hxz
theorem long_set {X : List (List Int)} {i : Nat} {p q : List Int} (hi : i + 1 < X.length) (h : ¬(p.length ≤ 3000 ∧ q.length ≤ 3000)) : ∃ r ∈ (X.set i p).set (i + 1) q, 3000 < r.length := by
  by_cases hp : p.length ≤ 3000
  · refine ⟨_, List.getElem_mem (n := i + 1) (by simp; omega), ?_⟩
    simp
    omega
  · refine ⟨_, List.getElem_mem (n := i) (by simp; omega), ?_⟩
    simp
    omega
theorem downs_take {n k : Nat} (h : k ≤ n) : downs n k = (downs n n).take k := by
  unfold downs; rw [← List.map_take, List.take_range, Nat.min_eq_left h]
theorem downs_g (xs : List Int) (g : Nat → Int) (hg : ∀ j, j < xs.length → g j = nth xs j) : (downs xs.length xs.length).map g = xs.reverse := by
  have h := downs_map xs id
  rw [List.map_id] at h
  rw [← h]
  refine List.map_congr_left fun j hj => ?_
  unfold downs at hj
  obtain ⟨m, hm, rfl⟩ := List.mem_map.1 hj
  have := List.mem_range.1 hm
  exact hg _ (by omega)
theorem stepA_pos {X : List (List Int)} {c : Int} {i : Nat} (h : 0 < c) (hi : c.natAbs = i + 1) : stepA X c = (X.set i (redL [nthr X i, nthr X (i + 1), invL (nthr X i)].flatten)).set (i + 1) (nthr X i) := by
  unfold stepA
  rw [if_pos h, hi]
  simp
theorem stepA_neg {X : List (List Int)} {c : Int} {i : Nat} (h : ¬ 0 < c) (hi : c.natAbs = i + 1) : stepA X c = (X.set i (nthr X (i + 1))).set (i + 1) (redL [invL (nthr X (i + 1)), nthr X i, nthr X (i + 1)].flatten) := by
  unfold stepA
  rw [if_neg h, hi]
  simp
/-- An image of a rest of the word is longer than the program allows. -/
def TooLong (n : Nat) (xs : List Int) : Prop := ∃ j, j ≤ xs.length ∧ ∃ r ∈ (xs.reverse.take j).foldl stepA (gensA n), 3000 < r.length
theorem gensA_small (n : Nat) (hn : n ≤ 6) : SmallA (gensA n) := by
  intro r hr
  obtain ⟨i, hi, rfl⟩ := List.mem_map.1 hr
  have := List.mem_range.1 hi
  refine ⟨fun x hx => ?_, by simp⟩
  simp only [List.mem_singleton] at hx
  omega

theorem cell_same {w : World} {a p : Addr} {x : Value} (h : w.cell? a = some x) : (w.setCell a x).cell? p = w.cell? p := by
  by_cases e : a = p
  · subst e
    rw [h]
    exact World.cell?_setCell_same' _ _ _ (by rw [h]; rfl)
  · exact World.cell?_setCell_other _ _ _ _ e
theorem ints_same {w : World} {a : Addr} {x r : Value} {ys : List Int} (h : Ints w r ys) (hc : w.cell? a = some x) : Ints (w.setCell a x) r ys := ⟨h.1, h.2.1, fun j y hj => by rw [cell_same hc]; exact h.2.2 j y hj⟩
theorem OR.setBox {W : World} {B b : Nat} {t : TypeId} {u x : Value} {vs : List Value} {xss : List (List Int)} (h : OR W B u vs xss) (hb : Boxed W b t x) (hx : IsSl x) (hB : b < B) (y : Value) : OR (W.setCell ⟨b, 0, none⟩ y) B u vs xss := by
  obtain ⟨h1, h2, h3, h4⟩ := h
  refine ⟨h1.setOther (fun k hk e => ?_) y, h2, fun i hi => ?_, h4⟩
  · have := (h1.lt k hk).1
    simp only at e
    omega
  · rcases Nat.eq_zero_or_pos (nthr xss i).length with h0 | h0
    · have := h3 i hi
      rw [List.eq_nil_of_length_eq_zero h0] at this ⊢
      exact ⟨this.1, this.2.1, by simp⟩
    · exact (h3 i hi).setOther (fun e => ints_notBox (h3 i hi) hb hx h0 e.symm) y
theorem OR.setSame {W : World} {B b : Nat} {t : TypeId} {u x : Value} {vs : List Value} {xss : List (List Int)} (h : OR W B u vs xss) (hb : Boxed W b t x) (hB : b < B) : OR (W.setCell ⟨b, 0, none⟩ x) B u vs xss :=
  ⟨h.1.setOther (fun k hk e => by have := (h.1.lt k hk).1; simp only at e; omega) x, h.2.1, fun i hi => ints_same (h.2.2.1 i hi) hb.cell, h.2.2.2⟩
theorem OR.putObj {W : World} {B D : Nat} {u : Value} {vs : List Value} {xss : List (List Int)} {o : Obj} (h : OR W B u vs xss) (o' : Obj) (hD : W.heap[D]? = some o) (ho : o.isCells = false) : OR (W.putObj D o') B u vs xss :=
  or_kept h (grownBy_putObj' W D o') (fun k e => by cases e; exact ⟨_, hD, ho⟩)
theorem OR.low {W : World} {B B' : Nat} {u : Value} {vs : List Value} {xss : List (List Int)} (h : OR W B u vs xss) (hB : B' ≤ B) : OR W B' u vs xss := ⟨h.1.low hB, h.2⟩
theorem results_cell2 {P : Program} {fn : Func} {p q : Tmp} {s t : TypeId} (h : fn.results = #[.cell p s, .cell q t]) (tmps : Array Value) (w : World) {a b : Addr} {x y : Value} (hp : tmps.getD p undef = .pointer (some a)) (hq : tmps.getD q undef = .pointer (some b))
    (hx : (loadVar s a).run P w = .ok x w) (hy : (loadVar t b).run P w = .ok y w) : (results fn tmps).run P w = .ok (.tuple #[x, y]) w := by
  have hp' : tmps[p]?.getD undef = .pointer (some a) := by simpa using hp
  have hq' : tmps[q]?.getD undef = .pointer (some b) := by simpa using hq
  simp [results, h, hp', hq', asAddr, hx, hy]
theorem run_load_sls (w : World) (a : Addr) (x : Value) (h : w.cell? a = some x) : (loadVar 31 a).run Try.prog w = .ok x w := by
  go_simp
theorem run_load_errno (w : World) (a : Addr) (x : Value) (h : w.cell? a = some x) : (loadVar 25 a).run Try.prog w = .ok x w := by
  go_simp

end Go.Proofs.Ytnkahkahcajahaa
