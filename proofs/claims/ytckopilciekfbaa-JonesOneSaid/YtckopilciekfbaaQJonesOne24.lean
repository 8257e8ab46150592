/- RingOwn: for every input the statement returns true, and nothing that was there has changed. -/
import Derived.Test.YtckopilciekfbaaQJonesOne0
import Derived.Test.YtckopilciekfbaaQJonesOne1
import Derived.Test.YtckopilciekfbaaQJonesOne2
import Derived.Test.YtckopilciekfbaaQJonesOne5
import Derived.Test.YtckopilciekfbaaQJonesOne6
import Derived.Test.YtckopilciekfbaaQJonesOne7
import Derived.Test.YtckopilciekfbaaQJonesOne8
import Derived.Test.YtckopilciekfbaaQJonesOne9
import Derived.Test.YtckopilciekfbaaQJonesOne10
import Derived.Test.YtckopilciekfbaaQJonesOne11
import Derived.Test.YtckopilciekfbaaQJonesOne13
import Derived.Test.YtckopilciekfbaaQJonesOne14
import Derived.Test.YtckopilciekfbaaQJonesOne15
import Derived.Test.YtckopilciekfbaaQJonesOne16
import Derived.Test.YtckopilciekfbaaQJonesOne17
import Derived.Test.YtckopilciekfbaaQJonesOne18
import Derived.Test.YtckopilciekfbaaQJonesOne19
import Derived.Test.YtckopilciekfbaaQJonesOne20
import Derived.Test.YtckopilciekfbaaQJonesOne21
import Derived.Test.YtckopilciekfbaaQJonesOne22
import Derived.Deep.RegionHeld3
import Derived.Shelf.Abstract
import Derived.RangeFuncNested
import Derived.RangeFuncBound
import Derived.RangeFuncCalls
import Derived.RangeFuncLeaves
import Derived.RangeFuncBox
import Derived.Shelf.RegionOpen
import Derived.OwnWalkIn
import Derived.TacticsInMore
import Derived.LoopNIn
import Derived.LoopIn
import Derived.Maps.AppendAt
import Derived.Deep.RegionLaw
import Derived.Deep.CutRange
import Derived.Shelf.Strings.Builder1
namespace Go.Proofs.Ytckopilciekfbaa
open Go.RowKit Go.Sl

theorem own_ne {w : World} {B B' : Nat} {e e' : TypeId} {v u : Value} {cs ds : List Value} (h : Go.Sl.Own w B e 1 v cs) (k : Go.Sl.Own w B' e' 1 u ds) (hc : 0 < cs.length) (hd : 0 < ds.length) (he : e ≠ e') : vblk v ≠ vblk u := by
  intro heq
  obtain ⟨cur, hg, -⟩ := Go.Sl.Own.getCell h hc
  obtain ⟨cur', hg', -⟩ := Go.Sl.Own.getCell k hd
  rw [heq, hg'] at hg
  injection hg with hg
  injection hg with h1 h2
  exact he h2.symm
theorem wpList_makeV {w : World} {ops : Array Oper} {rest : List Oper} {o : Oper} {a : Act} {Q : Exit → Act → World → Prop} (hgd : o.guard = none) (l c : Operand) (ho : o.op = Op.makeSlice 43 l c)
    (L C : Int) (n : Nat) (hl : a.eval l = .int .i64 L) (hc : a.eval c = .int .i64 C) (hL : L = (n : Int)) (hC : C = (n : Int)) (hm : n ≤ 1000000)
    (h : ∀ v' w', Go.Sl.Own w' w.heap.size 22 1 v' (List.replicate n (.slice none 0 0)) → w.grownBy w' none → vlen v' = n → w'.heap.size = w.heap.size + 1 → wpList Try.prog ops Q rest (a.put o.dst v') w') : wpList Try.prog ops Q (o :: rest) a w := by
  obtain ⟨i, hi, hz0, hz1, hz2⟩ := info_parts info_slice
  exact wpList_make_sl hgd l c _ ho 22 i (.slice none 0 0) 24 Try.underlying43 hi hz0 hz1 hz2 rfl L C n hl hc hL hC (by omega) (by simp only [maxLen]; omega) h

theorem zero_set {w : World} {B B' : Nat} {v u : Value} {j : Nat} (h : OwnI w B v [0, 0]) (k : OwnI w B' u [0, 0]) (hj : j < 2) : OwnI (w.setCell (vat u j) (.int .i64 0)) B v [0, 0] := by
  by_cases hb : vblk v = vblk u
  · have e : vat u j = vat v j := by
      obtain ⟨_, _, _, h0, -⟩ := Go.Sl.Own.getCell h (j := 0) (by simp)
      obtain ⟨_, _, _, k0, -⟩ := Go.Sl.Own.getCell k (j := 0) (by simp)
      unfold vat
      rw [hb, h0, k0]
    rw [e]
    have := h.set (k := j) (by simpa using hj) 0
    have e2 : [0, 0].set j (0 : Int) = [0, 0] := by
      have : j = 0 ∨ j = 1 := by omega
      rcases this with rfl | rfl <;> rfl
    rwa [e2] at this
  · exact h.setOther (fun k hk e => hb (by rw [vat_block] at e; rw [e]; exact (row_eq hk).2)) _

/-- A matrix of two rows of two zeros, all of the call's own. -/
structure ZM (w : World) (B0 B2 : Nat) (mv : Value) (vs : List Value) : Prop where
  own : Go.Sl.Own w B0 22 1 mv vs
  len : vs.length = 2
  rows : ∀ j, j < 2 → OwnI w B0 (nthv vs j) [0, 0]
  blk : ∀ j, j < 2 → vblk (nthv vs j) < B2
theorem ZM.below {w w' : World} {B0 B2 : Nat} {mv : Value} {vs : List Value} (h : ZM w B0 B2 mv vs) (hb : Below w.heap.size w w') : ZM w' B0 B2 mv vs :=
  ⟨h.own.below hb, h.len, fun j hj => (h.rows j hj).below hb, h.blk⟩
theorem ZM.store {w : World} {B0 B2 : Nat} {mv : Value} {vs : List Value} (h : ZM w B0 B2 mv vs) {j k : Nat} (hj : j < 2) (hk : k < 2) : ZM (w.setCell (vat (nthv vs j) k) (.int .i64 0)) B0 B2 mv vs :=
  ⟨h.own.setOther (fun b hb e => own_ne h.own (h.rows j hj) (by rw [h.len]; decide) (by simp) (by decide) (by rw [vat_block] at e; rw [e]; exact (row_eq hb).2)) _, h.len,
    fun i hi => zero_set (h.rows i hi) (h.rows j hj) hk, h.blk⟩
end Go.Proofs.Ytckopilciekfbaa

namespace Go.Proofs.Ytckopilciekfbaa
open Go.RowKit Go.Sl

theorem IsWord.small {xs : List Int} (h : IsWord xs) : ∀ x ∈ xs, -1000 ≤ x ∧ x ≤ 1000 := fun x hx => by have := h x hx; omega
theorem IsWord.inv {xs : List Int} (h : IsWord xs) : IsWord (invL xs) := by
  intro x hx
  simp only [invL, List.mem_reverse, List.mem_map] at hx
  obtain ⟨y, hy, rfl⟩ := hx
  have := h y hy
  omega
theorem IsWord.red {xs : List Int} (h : IsWord xs) : IsWord (redL xs) := fun x hx => h x (redL_mem hx)
theorem IsWord.append {xs ys : List Int} (h : IsWord xs) (k : IsWord ys) : IsWord (xs ++ ys) := fun x hx => (List.mem_append.1 hx).elim (h x) (k x)
end Go.Proofs.Ytckopilciekfbaa

namespace Go.Proofs.Ytckopilciekfbaa
open Go.RowKit Go.Sl

theorem letter_bw {top : Int} (h : 0 < top) (x : Int) : letterOf top x ≠ 0 ∧ -top ≤ letterOf top x ∧ letterOf top x ≤ top := by
  have h1 := Int.emod_nonneg x (b := 2 * top) (by omega)
  have h2 := Int.emod_lt_of_pos x (b := 2 * top) (by omega)
  unfold letterOf
  split <;> omega
theorem wordL_bw {n : Int} (h : 1 < n) (raw : List Int) (most : Nat) : BWord n (wordL (n - 1) raw most) := by
  intro x hx
  obtain ⟨y, _, rfl⟩ := List.mem_map.1 hx
  have := letter_bw (top := n - 1) (by omega) y
  omega

end Go.Proofs.Ytckopilciekfbaa

namespace Go.Proofs.Ytckopilciekfbaa
open Go.RowKit Go.Sl

/-- The value at x (1 or -1) of the terms with the exponents e, e + 1, .. -/
def atR (x : Int) : Int → List Int → Int
  | _, [] => 0
  | e, c :: cs => (if x < 0 ∧ e % 2 ≠ 0 then -c else c) + atR x (e + 1) cs
theorem atR_append (x : Int) (a b : List Int) : ∀ e, atR x e (a ++ b) = atR x e a + atR x (e + a.length) b := by
  induction a with
  | nil => intro e; simp [atR]
  | cons c cs ih =>
    intro e
    rw [List.cons_append, atR, atR, ih, List.length_cons, show e + 1 + (cs.length : Int) = e + ((cs.length + 1 : Nat) : Int) by omega]
    omega
theorem atR_take_succ (x e : Int) (l : List Int) (i : Nat) (h : i < l.length) : atR x e (l.take (i + 1)) = atR x e (l.take i) + (if x < 0 ∧ (e + i) % 2 ≠ 0 then -(nth l i) else nth l i) := by
  rw [List.take_succ_eq_append_getElem h, atR_append, List.length_take, Nat.min_eq_left (by omega), nth_lt h, atR, atR]
  omega
theorem atR_le (x : Int) (l : List Int) : ∀ e, (atR x e l).natAbs ≤ n1 l := by
  induction l with
  | nil => intro e; simp [atR]
  | cons c cs ih =>
    intro e
    have := ih (e + 1)
    rw [atR, n1]
    split <;> omega
theorem atR_take_le (x e : Int) (l : List Int) (i : Nat) : (atR x e (l.take i)).natAbs ≤ n1 l := Nat.le_trans (atR_le x _ e) (n1_take_le l i)

end Go.Proofs.Ytckopilciekfbaa

namespace Go.Proofs.Ytckopilciekfbaa
open Go.RowKit Go.Sl

/-- A matrix of polynomials that may be read. -/
structure MRead (W : World) (v : Value) (vs : List Value) (m : List (List LP)) : Prop where
  sl : Sl W v 1 vs
  len : vs.length = m.length
  row : ∀ i, i < m.length → ∃ us, PRead W (nthv vs i) us (nthm m i)
theorem MRead.isSl {W : World} {v : Value} {vs : List Value} {m : List (List LP)} (h : MRead W v vs m) : IsSl v := h.sl.1
theorem MRead.vlen {W : World} {v : Value} {vs : List Value} {m : List (List LP)} (h : MRead W v vs m) : Go.Sl.vlen v = m.length := by have := h.sl.2.1; rw [h.len] at this; omega
theorem MRead.below {W W' : World} {v : Value} {vs : List Value} {m : List (List LP)} (h : MRead W v vs m) (hb : Below W.heap.size W W') : MRead W' v vs m :=
  ⟨h.sl.below hb, h.len, fun i hi => let ⟨us, k⟩ := h.row i hi; ⟨us, k.below hb⟩⟩
theorem MRead.cell {W : World} {v : Value} {vs : List Value} {m : List (List LP)} (h : MRead W v vs m) {i : Nat} (hi : i < m.length) : W.cell? (vat v i) = some (nthv vs i) := by
  have hi' : i < vs.length := by rw [h.len]; exact hi
  rw [nthv_lt hi']; exact h.sl.cell hi'

end Go.Proofs.Ytckopilciekfbaa

namespace Go.Proofs.Ytckopilciekfbaa
open Go.RowKit Go.Sl

theorem pcs_one : ∀ (us : List Value) (ps : List LP), (∀ j, j < ps.length → IsSl (nthv us j)) → us.length = ps.length → ∀ x ∈ pcs us ps, x.oneCell' = true
  | [], [], _, _, x, hx => by simp [pcs] at hx
  | u :: us, p :: ps, h, hl, x, hx => by
    simp only [pcs, List.mem_cons] at hx
    rcases hx with rfl | rfl | hx
    · rfl
    · have := h 0 (by simp); simp [nthv] at this; exact oneCell'_sl this
    · exact pcs_one us ps (fun j hj => by have := h (j + 1) (by simpa using hj); simpa [nthv] using this) (by simpa using hl) x hx
theorem PRead.one {w : World} {v : Value} {us : List Value} {ps : List LP} (h : PRead w v us ps) : ∀ u ∈ pcs us ps, u.oneCell' = true := pcs_one us ps (fun j hj => (h.each j hj).isSl) h.len
end Go.Proofs.Ytckopilciekfbaa

namespace Go.Proofs.Ytckopilciekfbaa
open Go.RowKit Go.Sl

/-- A right change of m + 1 bells. -/
def Chg (m : Nat) (c : Int) : Prop := ∃ q : Nat, c = q ∧ q < 2 ^ m ∧ q < 64 ∧ q &&& (2 * q) = 0
theorem apart_of : ∀ q : Fin 64, q.val &&& (2 * q.val) = 0 → ∀ j : Fin 6, q.val.testBit j.val = true → q.val.testBit (j.val + 1) = false := by decide +kernel
theorem Chg.apart {m : Nat} {c : Int} (h : Chg m c) : Apart c.toNat := by
  obtain ⟨q, rfl, -, hq, h0⟩ := h
  rw [Int.toNat_natCast]
  intro j hj
  by_cases hj6 : j < 6
  · exact apart_of ⟨q, hq⟩ h0 ⟨j, hj6⟩ hj
  · have : q < 2 ^ j := Nat.lt_of_lt_of_le hq (Nat.le_trans (by decide : 64 ≤ 2 ^ 6) (Nat.pow_le_pow_right (by omega) (by omega)))
    rw [Nat.testBit_lt_two_pow this] at hj
    cases hj

end Go.Proofs.Ytckopilciekfbaa

namespace Go.Proofs.Ytckopilciekfbaa
open Go.RowKit Go.Sl

/-- The call's own slice of the call's own rows, none empty, each in a block of its own. -/
structure RO (W : World) (B : Nat) (v : Value) (vs : List Value) (xss : List (List Int)) : Prop where
  own : Go.Sl.Own W B 22 1 v vs
  len : vs.length = xss.length
  row : ∀ i, i < xss.length → OwnI W B (nthv vs i) (nthr xss i)
  pos : ∀ i, i < xss.length → 0 < (nthr xss i).length
  apart : ∀ i, i < xss.length → Go.Sl.row v ≠ some (vblk (nthv vs i))
  each : ∀ i j, i < j → j < xss.length → vblk (nthv vs i) ≠ vblk (nthv vs j)
section
variable {W W' : World} {B : Nat} {u r : Value} {vs : List Value} {xss : List (List Int)} {ys : List Int}
theorem RO.rows (h : RO W B u vs xss) : RowsV W u vs xss := ⟨h.own.sl, h.len, fun i hi => (h.row i hi).ints⟩
theorem RO.below (h : RO W B u vs xss) (hb : Below W.heap.size W W') : RO W' B u vs xss := ⟨h.own.below hb, h.len, fun i hi => (h.row i hi).below hb, h.pos, h.apart, h.each⟩
theorem RO.low {B' : Nat} (h : RO W B u vs xss) (hB : B' ≤ B) : RO W B' u vs xss := ⟨h.own.low hB, h.len, fun i hi => (h.row i hi).low hB, h.pos, h.apart, h.each⟩
theorem RO.rowAt (h : RO W B u vs xss) {i : Nat} (hi : i < xss.length) : Go.Sl.row (nthv vs i) = some (vblk (nthv vs i)) := row_some (by have := (h.row i hi).ints.cap; have := h.pos i hi; omega)
theorem RO.blk (h : RO W B u vs xss) {i : Nat} (hi : i < xss.length) : B ≤ vblk (nthv vs i) ∧ vblk (nthv vs i) < W.heap.size := (h.row i hi).lt _ (h.rowAt hi)
end
end Go.Proofs.Ytckopilciekfbaa

namespace Go.Proofs.Ytckopilciekfbaa
open Go.RowKit Go.Sl

section
variable {W : World} {B : Nat} {u : Value} {vs : List Value} {xss : List (List Int)}
theorem RO.set (h : RO W B u vs xss) {i k : Nat} (hi : i < xss.length) (hk : k < (nthr xss i).length) (x : Int) : RO (W.setCell (vat (nthv vs i) k) (.int .i64 x)) B u vs (xss.set i ((nthr xss i).set k x)) := by
  have hn : ∀ j, j < xss.length → nthr (xss.set i ((nthr xss i).set k x)) j = if j = i then (nthr xss i).set k x else nthr xss j := by
    intro j hj
    by_cases e : j = i
    · subst e; rw [if_pos rfl, nthr_lt (by simp; omega)]; simp
    · rw [if_neg e, nthr_lt (by simp; omega), nthr_lt hj]; simp [Ne.symm e]
  refine ⟨h.own.setOther (fun b hb e => ?_) _, by rw [List.length_set]; exact h.len, fun j hj => ?_, fun j hj => ?_, fun j hj => ?_, fun a b hab hb => ?_⟩
  · simp only [vat_block] at e
    exact h.apart i hi (by rw [hb, e])
  · rw [List.length_set] at hj
    rw [hn j hj]
    by_cases e : j = i
    · subst e; rw [if_pos rfl]; exact (h.row j hj).set hk x
    · rw [if_neg e]
      refine (h.row j hj).setOther (fun b hb eb => ?_) _
      rw [h.rowAt hj] at hb
      simp only [vat_block] at eb
      have hbb : vblk (nthv vs j) = b := Option.some.inj hb
      rcases Nat.lt_or_gt_of_ne e with hlt | hgt
      · exact h.each j i hlt hi (by omega)
      · exact h.each i j hgt hj (by omega)
  · rw [List.length_set] at hj
    rw [hn j hj]
    split
    · rw [List.length_set]; exact h.pos i hi
    · exact h.pos j hj
  · rw [List.length_set] at hj; exact h.apart j hj
  · rw [List.length_set] at hb; exact h.each a b hab hb
end

/-- The first i rows have been written over, and the first k elements of the next one. -/
structure Fld (L m i k : Nat) (xss : List (List Int)) : Prop where
  len : xss.length = L + 1
  each : ∀ j, j < L + 1 → (nthr xss j).length = m + 1
  done : ∀ j, j < i → j < L + 1 → ∀ t, t < m + 1 → nth (nthr xss j) t = -1 - (j : Int)
  here : ∀ t, t < k → t < m + 1 → nth (nthr xss i) t = -1 - (i : Int)
theorem Fld.next {L m i : Nat} {xss : List (List Int)} (h : Fld L m i (m + 1) xss) : Fld L m (i + 1) 0 xss :=
  ⟨h.len, h.each, fun j hj hl t ht => by
    rcases Nat.lt_or_ge j i with h1 | h1
    · exact h.done j h1 hl t ht
    · obtain rfl : j = i := by omega
      exact h.here t ht ht, fun t ht => by omega⟩
theorem Fld.step {L m i k : Nat} {xss : List (List Int)} (h : Fld L m i k xss) (hi : i < L + 1) (hk : k < m + 1) : Fld L m i (k + 1) (xss.set i ((nthr xss i).set k (-1 - (i : Int)))) := by
  have hl := h.len
  have hn : ∀ j, j < L + 1 → nthr (xss.set i ((nthr xss i).set k (-1 - (i : Int)))) j = if j = i then (nthr xss i).set k (-1 - (i : Int)) else nthr xss j := by
    intro j hj
    by_cases e : j = i
    · subst e; rw [if_pos rfl, nthr_lt (by simp; omega)]; simp
    · rw [if_neg e, nthr_lt (by simp; omega)]
      simp only [List.getElem_set, if_neg (Ne.symm e)]
      exact (nthr_lt (by omega)).symm
  refine ⟨by rw [List.length_set]; exact hl, fun j hj => ?_, fun j hj hjl t ht => ?_, fun t ht htm => ?_⟩
  · rw [hn j hj]; split
    · rw [List.length_set]; exact h.each i hi
    · exact h.each j hj
  · rw [hn j hjl, if_neg (by omega)]; exact h.done j hj hjl t ht
  · rw [hn i hi, if_pos rfl]
    by_cases e : t = k
    · subst e; exact nth_set_same _ (by rw [h.each i hi]; exact htm)
    · rw [nth_set_other _ (Ne.symm e)]; exact h.here t (by omega) htm
end Go.Proofs.Ytckopilciekfbaa

