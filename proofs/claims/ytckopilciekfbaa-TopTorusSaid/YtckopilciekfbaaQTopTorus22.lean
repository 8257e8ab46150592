/- RingOwn: for every input the statement returns true, and nothing that was there has changed. -/
import Derived.Test.YtckopilciekfbaaQTopTorus0
import Derived.Test.YtckopilciekfbaaQTopTorus1
import Derived.Test.YtckopilciekfbaaQTopTorus2
import Derived.Test.YtckopilciekfbaaQTopTorus3
import Derived.Test.YtckopilciekfbaaQTopTorus4
import Derived.Test.YtckopilciekfbaaQTopTorus5
import Derived.Test.YtckopilciekfbaaQTopTorus6
import Derived.Test.YtckopilciekfbaaQTopTorus7
import Derived.Test.YtckopilciekfbaaQTopTorus9
import Derived.Test.YtckopilciekfbaaQTopTorus10
import Derived.Test.YtckopilciekfbaaQTopTorus11
import Derived.Test.YtckopilciekfbaaQTopTorus12
import Derived.Test.YtckopilciekfbaaQTopTorus13
import Derived.Test.YtckopilciekfbaaQTopTorus14
import Derived.Test.YtckopilciekfbaaQTopTorus15
import Derived.Test.YtckopilciekfbaaQTopTorus18
import Derived.Test.YtckopilciekfbaaQTopTorus19
import Derived.Test.YtckopilciekfbaaQTopTorus20
import Derived.Lib.SliceRun
import Derived.Deep.RegionHeld3
import Derived.Shelf.Abstract
import Derived.RangeFuncNested
import Derived.RangeFuncBound
import Derived.RangeFuncCalls
import Derived.RangeFuncLeaves
import Derived.RangeFuncBox
import Derived.Shelf.RegionOpen
import Derived.OwnWalkIn
import Derived.TacticsInMore
import Derived.LoopNIn
import Derived.LoopIn
import Derived.Maps.AppendAt
import Derived.Shelf.Strings.Builder1
namespace Go.Proofs.Ytckopilciekfbaa
open Go.RowKit Go.Sl

def ent (zs : List Int) (b k : Nat) : Int := if k < zs.length then nth zs k % (2 * (b : Int) + 1) - b else 0
end Go.Proofs.Ytckopilciekfbaa

namespace Go.Proofs.Ytckopilciekfbaa
open Go.RowKit Go.Sl

theorem grown_setCell {w w1 : World} {r : Option Nat} (h : w.grownBy w1 r) {p : Addr} (hp : r = some p.block) (u : Value) : w.grownBy (w1.setCell p u) r :=
  ⟨h.os, h.tape, h.output, by simpa using h.size, fun k hk hr => (Below.heap_setCell w1 p u k (fun e => hr (by rw [hp, e]))).trans (h.block k hk hr)⟩

end Go.Proofs.Ytckopilciekfbaa

namespace Go.Proofs.Ytckopilciekfbaa
open Go.RowKit Go.Sl

def IsWord (xs : List Int) : Prop := ∀ x ∈ xs, x ≠ 0 ∧ -6 ≤ x ∧ x ≤ 6
end Go.Proofs.Ytckopilciekfbaa

namespace Go.Proofs.Ytckopilciekfbaa
open Go.RowKit Go.Sl

theorem pcs_take : ∀ (us : List Value) (ps : List LP), us.length = ps.length → ∀ c, (pcs us ps).take (c * 2) = pcs (us.take c) (ps.take c)
  | [], [], _, c => by simp [pcs]
  | u :: us, p :: ps, h, 0 => by simp [pcs]
  | u :: us, p :: ps, h, c + 1 => by
    have := pcs_take us ps (by simpa using h) c
    rw [show (c + 1) * 2 = c * 2 + 1 + 1 by omega]
    simp only [pcs, List.take_succ_cons, this]
theorem pcs_drop : ∀ (us : List Value) (ps : List LP), us.length = ps.length → ∀ c, (pcs us ps).drop (c * 2) = pcs (us.drop c) (ps.drop c)
  | [], [], _, c => by simp [pcs]
  | u :: us, p :: ps, h, 0 => by simp [pcs]
  | u :: us, p :: ps, h, c + 1 => by
    have := pcs_drop us ps (by simpa using h) c
    rw [show (c + 1) * 2 = c * 2 + 1 + 1 by omega]
    simp only [pcs, List.drop_succ_cons, this]
theorem pcs_app : ∀ (us : List Value) (ps : List LP), us.length = ps.length → ∀ (vs : List Value) (qs : List LP), pcs us ps ++ pcs vs qs = pcs (us ++ vs) (ps ++ qs)
  | [], [], _, _, _ => rfl
  | u :: us, p :: ps, h, vs, qs => by
    have := pcs_app us ps (by simpa using h) vs qs
    simp only [pcs, List.cons_append, this]
theorem pcs_one : ∀ (us : List Value) (ps : List LP), (∀ j, j < ps.length → IsSl (nthv us j)) → us.length = ps.length → ∀ x ∈ pcs us ps, x.oneCell' = true
  | [], [], _, _, x, hx => by simp [pcs] at hx
  | u :: us, p :: ps, h, hl, x, hx => by
    simp only [pcs, List.mem_cons] at hx
    rcases hx with rfl | rfl | hx
    · rfl
    · have := h 0 (by simp); simp [nthv] at this; exact oneCell'_sl this
    · exact pcs_one us ps (fun j hj => by have := h (j + 1) (by simpa using hj); simpa [nthv] using this) (by simpa using hl) x hx
theorem nthv_take {us : List Value} {c j : Nat} (h : j < c) : nthv (us.take c) j = nthv us j := by
  unfold nthv; rw [List.getD_eq_getElem?_getD, List.getD_eq_getElem?_getD, List.getElem?_take, if_pos h]
theorem nthv_drop (us : List Value) (c j : Nat) : nthv (us.drop c) j = nthv us (c + j) := by
  unfold nthv; rw [List.getD_eq_getElem?_getD, List.getD_eq_getElem?_getD, List.getElem?_drop]
theorem nthp_take {us : List LP} {c j : Nat} (h : j < c) : nthp (us.take c) j = nthp us j := by
  unfold nthp; rw [List.getD_eq_getElem?_getD, List.getD_eq_getElem?_getD, List.getElem?_take, if_pos h]
theorem nthp_drop (us : List LP) (c j : Nat) : nthp (us.drop c) j = nthp us (c + j) := by
  unfold nthp; rw [List.getD_eq_getElem?_getD, List.getD_eq_getElem?_getD, List.getElem?_drop]
theorem PRead.takeL {w : World} {v : Value} {us : List Value} {ps : List LP} (h : PRead w v us ps) {c : Nat} (hc : c ≤ ps.length) : PRead w (vcut v 0 c (vcap v) 2) (us.take c) (ps.take c) := by
  have hl := h.vlen
  have hcap := h.isSl.le
  refine ⟨?_, by simp [h.len], fun j hj => ?_⟩
  · have := h.sl.cut (l := 0) (r := c) (m := vcap v) (by omega) (by omega) (by omega) (Nat.le_refl _)
    rw [Nat.zero_mul, List.drop_zero, Nat.sub_zero, pcs_take us ps h.len] at this
    exact this
  · rw [List.length_take] at hj
    rw [nthv_take (by omega), nthp_take (by omega)]
    exact h.each j (by omega)
theorem PRead.dropL {w : World} {v : Value} {us : List Value} {ps : List LP} (h : PRead w v us ps) {c : Nat} (hc : c ≤ ps.length) : PRead w (vcut v c ps.length (vcap v) 2) (us.drop c) (ps.drop c) := by
  have hl := h.vlen
  have hcap := h.isSl.le
  refine ⟨?_, by simp [h.len], fun j hj => ?_⟩
  · have := h.sl.cut (l := c) (r := ps.length) (m := vcap v) hc (by omega) (by omega) (Nat.le_refl _)
    rw [pcs_drop us ps h.len] at this
    have e : (pcs (us.drop c) (ps.drop c)).take ((ps.length - c) * 2) = pcs (us.drop c) (ps.drop c) := List.take_of_length_le (by rw [pcs_length _ _ (by simp [h.len])]; simp)
    rwa [e] at this
  · rw [List.length_drop] at hj
    rw [nthv_drop, nthp_drop]
    exact h.each _ (by omega)
theorem PRead.one {w : World} {v : Value} {us : List Value} {ps : List LP} (h : PRead w v us ps) : ∀ u ∈ pcs us ps, u.oneCell' = true := pcs_one us ps (fun j hj => (h.each j hj).isSl) h.len
theorem wp_prows2 {w : World} {o : Oper} {a : Act} {K : Act → World → Prop} {Q : Exit → Act → World → Prop} (x y : Operand) (ho : o.op = Op.buildSlice 73 2 #[(0, x), (1, y)])
    {v u : Value} (hx : a.eval x = v) (hy : a.eval y = u) (hv : IsSl v) (hu : IsSl u)
    (h : K (a.put o.dst (.slice (some ⟨w.heap.size, 0, none⟩) 2 2)) (w.alloc (.cells #[v, u] 75))) : Oper.wp Try.prog o a w K Q := by
  obtain ⟨i, hi, hz0, hz1, hz2⟩ := info_parts info_polys
  have hrn := run_build2 (P := Try.prog) w 73 75 i _ Try.underlying73 hi hz0 hz1 rfl (cells_of_sl hv) (cells_of_sl hu)
  unfold Oper.wp execOp
  simp only [ho, Sem.run_bind, List.map_toArray, List.map_cons, List.map_nil, hx, hy, hrn, Result.andThen_ok]
  exact h
theorem wp_prows1 {w : World} {o : Oper} {a : Act} {K : Act → World → Prop} {Q : Exit → Act → World → Prop} (x : Operand) (ho : o.op = Op.buildSlice 73 1 #[(0, x)])
    {v : Value} (hx : a.eval x = v) (hv : IsSl v)
    (h : K (a.put o.dst (.slice (some ⟨w.heap.size, 0, none⟩) 1 1)) (w.alloc (.cells #[v] 75))) : Oper.wp Try.prog o a w K Q := by
  obtain ⟨i, hi, hz0, hz1, hz2⟩ := info_parts info_polys
  have hrn := run_build1 (P := Try.prog) w 73 75 i _ Try.underlying73 hi hz0 hz1 rfl (cells_of_sl hv)
  unfold Oper.wp execOp
  simp only [ho, Sem.run_bind, List.map_toArray, List.map_cons, List.map_nil, hx, hrn, Result.andThen_ok]
  exact h
theorem wp_pushPRow {w : World} {o : Oper} {a : Act} {K : Act → World → Prop} {Q : Exit → Act → World → Prop} (s x : Operand)
    (ho : o.op = .call { callee := .builtin .append, args := #[s, x], argTypes := #[73, 73] })
    {B : Nat} {v r : Value} {vs : List Value} (hs : a.eval s = v) (hx : a.eval x = .slice (some ⟨w.heap.size, 0, none⟩) 1 1) (hown : Go.Sl.Own w B 75 1 v vs) (hr : IsSl r) (hB : B ≤ w.heap.size) (hlen : vs.length ≤ 1000000)
    (h : ∀ v' w', Go.Sl.Own w' B 75 1 v' (vs ++ [r]) → w.grownBy w' (row v) → (∀ k, row v' = some k → row v = some k ∨ w.heap.size ≤ k) → K (a.put o.dst v') w') :
    Oper.wp Try.prog o a (w.alloc (.cells #[r] 75)) K Q := by
  obtain ⟨i, hi, hz0, hz1, hz2⟩ := info_parts info_polys
  have hl := hown.2.1
  obtain ⟨v', w', hrn, h1, h2, h3⟩ := run_append_sl (P := Try.prog) (w.alloc (.cells #[r] 75)) B 73 o.type 75 i _ 1 24 Try.underlying73 hi hz0 hz1 hz2 rfl (by decide) (hown.alloc _) (sl_one w r 75)
    (by intro u hu; simp at hu; subst hu; exact oneCell'_sl hr) (by simp only [vlen_mk, maxLen]; omega) (by simp only [vlen_mk]; omega) (by simp; omega)
  unfold Oper.wp execOp
  simp only [ho, resolve, invoke, builtin, Sem.run_bind, Sem.run_pure, Result.andThen_ok, List.map_toArray, List.map_cons, List.map_nil, hs, hx, hrn]
  refine h v' w' h1 ?_ ?_
  · exact ⟨h2.os, h2.tape, h2.output, by have := h2.size; simp at this; omega, fun k hk hr => (h2.block k (by simp; omega) hr).trans (Below.heap_alloc w _ k hk)⟩
  · intro k hk; rcases h3 k hk with h | h
    · exact .inl h
    · exact .inr (by simp at h; omega)
theorem sl_two' (w : World) (u v : Value) (e : TypeId) : Sl (w.alloc (.cells #[u, v] e)) (.slice (some ⟨w.heap.size, 0, none⟩) 2 2) 1 [u, v] := by
  refine ⟨isSl_mk _ _ _ _ (Nat.le_refl _) (by unfold maxLen; omega), by simp, fun j x hx => ?_⟩
  have := cell_of_row (w.alloc (.cells #[u, v] e)) w.heap.size j #[u, v] e (0, 0) (heap_alloc_new w (.cells #[u, v] e))
  rw [vat_mk, Nat.zero_add, this]
  simpa using hx
theorem rowsC_2 {w : World} {a b : Value} {cs ds : List Value} (ha : Sl w a 2 cs) (hb : Sl w b 2 ds) (h1 : ∀ u ∈ cs, u.oneCell' = true) (h2 : ∀ u ∈ ds, u.oneCell' = true) (e : TypeId) :
    RowsC (w.alloc (.cells #[a, b] e)) (.slice (some ⟨w.heap.size, 0, none⟩) 2 2) [a, b] [cs, ds] := by
  refine ⟨sl_two' w a b e, rfl, fun i hi => ?_, fun i hi => ?_⟩
  · simp at hi
    rcases (show i = 0 ∨ i = 1 by omega) with rfl | rfl
    · exact ha.alloc _
    · exact hb.alloc _
  · simp at hi
    rcases (show i = 0 ∨ i = 1 by omega) with rfl | rfl
    · exact h1
    · exact h2

end Go.Proofs.Ytckopilciekfbaa

namespace Go.Proofs.Ytckopilciekfbaa
open Go.RowKit Go.Sl

theorem IsWord.small {xs : List Int} (h : IsWord xs) : ∀ x ∈ xs, -1000 ≤ x ∧ x ≤ 1000 := fun x hx => by have := h x hx; omega
theorem IsWord.inv {xs : List Int} (h : IsWord xs) : IsWord (invL xs) := by
  intro x hx
  simp only [invL, List.mem_reverse, List.mem_map] at hx
  obtain ⟨y, hy, rfl⟩ := hx
  have := h y hy
  omega
theorem IsWord.red {xs : List Int} (h : IsWord xs) : IsWord (redL xs) := fun x hx => h x (redL_mem hx)
theorem IsWord.append {xs ys : List Int} (h : IsWord xs) (k : IsWord ys) : IsWord (xs ++ ys) := fun x hx => (List.mem_append.1 hx).elim (h x) (k x)
end Go.Proofs.Ytckopilciekfbaa

namespace Go.Proofs.Ytckopilciekfbaa
open Go.RowKit Go.Sl

theorem BWord.nword {n : Nat} {xs : List Int} (h : BWord (n : Int) xs) : NWord n xs := fun x hx => by have := h x hx; omega

end Go.Proofs.Ytckopilciekfbaa

namespace Go.Proofs.Ytckopilciekfbaa
open Go.RowKit Go.Sl

/-- A right change of m + 1 bells. -/
def Chg (m : Nat) (c : Int) : Prop := ∃ q : Nat, c = q ∧ q < 2 ^ m ∧ q < 64 ∧ q &&& (2 * q) = 0
theorem apart_of : ∀ q : Fin 64, q.val &&& (2 * q.val) = 0 → ∀ j : Fin 6, q.val.testBit j.val = true → q.val.testBit (j.val + 1) = false := by decide +kernel
theorem Chg.apart {m : Nat} {c : Int} (h : Chg m c) : Apart c.toNat := by
  obtain ⟨q, rfl, -, hq, h0⟩ := h
  rw [Int.toNat_natCast]
  intro j hj
  by_cases hj6 : j < 6
  · exact apart_of ⟨q, hq⟩ h0 ⟨j, hj6⟩ hj
  · have : q < 2 ^ j := Nat.lt_of_lt_of_le hq (Nat.le_trans (by decide : 64 ≤ 2 ^ 6) (Nat.pow_le_pow_right (by omega) (by omega)))
    rw [Nat.testBit_lt_two_pow this] at hj
    cases hj

end Go.Proofs.Ytckopilciekfbaa

namespace Go.Proofs.Ytckopilciekfbaa
open Go.RowKit Go.Sl

/-- The call's own slice of the call's own rows, none empty, each in a block of its own. -/
structure RO (W : World) (B : Nat) (v : Value) (vs : List Value) (xss : List (List Int)) : Prop where
  own : Go.Sl.Own W B 22 1 v vs
  len : vs.length = xss.length
  row : ∀ i, i < xss.length → OwnI W B (nthv vs i) (nthr xss i)
  pos : ∀ i, i < xss.length → 0 < (nthr xss i).length
  apart : ∀ i, i < xss.length → Go.Sl.row v ≠ some (vblk (nthv vs i))
  each : ∀ i j, i < j → j < xss.length → vblk (nthv vs i) ≠ vblk (nthv vs j)
section
variable {W W' : World} {B : Nat} {u r : Value} {vs : List Value} {xss : List (List Int)} {ys : List Int}
theorem RO.rows (h : RO W B u vs xss) : RowsV W u vs xss := ⟨h.own.sl, h.len, fun i hi => (h.row i hi).ints⟩
theorem RO.below (h : RO W B u vs xss) (hb : Below W.heap.size W W') : RO W' B u vs xss := ⟨h.own.below hb, h.len, fun i hi => (h.row i hi).below hb, h.pos, h.apart, h.each⟩
theorem RO.low {B' : Nat} (h : RO W B u vs xss) (hB : B' ≤ B) : RO W B' u vs xss := ⟨h.own.low hB, h.len, fun i hi => (h.row i hi).low hB, h.pos, h.apart, h.each⟩
theorem RO.rowAt (h : RO W B u vs xss) {i : Nat} (hi : i < xss.length) : Go.Sl.row (nthv vs i) = some (vblk (nthv vs i)) := row_some (by have := (h.row i hi).ints.cap; have := h.pos i hi; omega)
theorem RO.blk (h : RO W B u vs xss) {i : Nat} (hi : i < xss.length) : B ≤ vblk (nthv vs i) ∧ vblk (nthv vs i) < W.heap.size := (h.row i hi).lt _ (h.rowAt hi)
end
end Go.Proofs.Ytckopilciekfbaa

namespace Go.Proofs.Ytckopilciekfbaa
open Go.RowKit Go.Sl

section
variable {W : World} {B : Nat} {u : Value} {vs : List Value} {xss : List (List Int)}
theorem RO.set (h : RO W B u vs xss) {i k : Nat} (hi : i < xss.length) (hk : k < (nthr xss i).length) (x : Int) : RO (W.setCell (vat (nthv vs i) k) (.int .i64 x)) B u vs (xss.set i ((nthr xss i).set k x)) := by
  have hn : ∀ j, j < xss.length → nthr (xss.set i ((nthr xss i).set k x)) j = if j = i then (nthr xss i).set k x else nthr xss j := by
    intro j hj
    by_cases e : j = i
    · subst e; rw [if_pos rfl, nthr_lt (by simp; omega)]; simp
    · rw [if_neg e, nthr_lt (by simp; omega), nthr_lt hj]; simp [Ne.symm e]
  refine ⟨h.own.setOther (fun b hb e => ?_) _, by rw [List.length_set]; exact h.len, fun j hj => ?_, fun j hj => ?_, fun j hj => ?_, fun a b hab hb => ?_⟩
  · simp only [vat_block] at e
    exact h.apart i hi (by rw [hb, e])
  · rw [List.length_set] at hj
    rw [hn j hj]
    by_cases e : j = i
    · subst e; rw [if_pos rfl]; exact (h.row j hj).set hk x
    · rw [if_neg e]
      refine (h.row j hj).setOther (fun b hb eb => ?_) _
      rw [h.rowAt hj] at hb
      simp only [vat_block] at eb
      have hbb : vblk (nthv vs j) = b := Option.some.inj hb
      rcases Nat.lt_or_gt_of_ne e with hlt | hgt
      · exact h.each j i hlt hi (by omega)
      · exact h.each i j hgt hj (by omega)
  · rw [List.length_set] at hj
    rw [hn j hj]
    split
    · rw [List.length_set]; exact h.pos i hi
    · exact h.pos j hj
  · rw [List.length_set] at hj; exact h.apart j hj
  · rw [List.length_set] at hb; exact h.each a b hab hb
end

/-- The first i rows have been written over, and the first k elements of the next one. -/
structure Fld (L m i k : Nat) (xss : List (List Int)) : Prop where
  len : xss.length = L + 1
  each : ∀ j, j < L + 1 → (nthr xss j).length = m + 1
  done : ∀ j, j < i → j < L + 1 → ∀ t, t < m + 1 → nth (nthr xss j) t = -1 - (j : Int)
  here : ∀ t, t < k → t < m + 1 → nth (nthr xss i) t = -1 - (i : Int)
theorem Fld.next {L m i : Nat} {xss : List (List Int)} (h : Fld L m i (m + 1) xss) : Fld L m (i + 1) 0 xss :=
  ⟨h.len, h.each, fun j hj hl t ht => by
    rcases Nat.lt_or_ge j i with h1 | h1
    · exact h.done j h1 hl t ht
    · obtain rfl : j = i := by omega
      exact h.here t ht ht, fun t ht => by omega⟩
theorem Fld.step {L m i k : Nat} {xss : List (List Int)} (h : Fld L m i k xss) (hi : i < L + 1) (hk : k < m + 1) : Fld L m i (k + 1) (xss.set i ((nthr xss i).set k (-1 - (i : Int)))) := by
  have hl := h.len
  have hn : ∀ j, j < L + 1 → nthr (xss.set i ((nthr xss i).set k (-1 - (i : Int)))) j = if j = i then (nthr xss i).set k (-1 - (i : Int)) else nthr xss j := by
    intro j hj
    by_cases e : j = i
    · subst e; rw [if_pos rfl, nthr_lt (by simp; omega)]; simp
    · rw [if_neg e, nthr_lt (by simp; omega)]
      simp only [List.getElem_set, if_neg (Ne.symm e)]
      exact (nthr_lt (by omega)).symm
  refine ⟨by rw [List.length_set]; exact hl, fun j hj => ?_, fun j hj hjl t ht => ?_, fun t ht htm => ?_⟩
  · rw [hn j hj]; split
    · rw [List.length_set]; exact h.each i hi
    · exact h.each j hj
  · rw [hn j hjl, if_neg (by omega)]; exact h.done j hj hjl t ht
  · rw [hn i hi, if_pos rfl]
    by_cases e : t = k
    · subst e; exact nth_set_same _ (by rw [h.each i hi]; exact htm)
    · rw [nth_set_other _ (Ne.symm e)]; exact h.here t (by omega) htm
end Go.Proofs.Ytckopilciekfbaa

