/- Determinants of minors: intmatrix.minor, Check, columns and Det, walked. -/
import Derived.Test.YtmcecmnbdcbehaaQLinkSums0
import Derived.Test.YtmcecmnbdcbehaaQLinkSums1
import Derived.Test.YtmcecmnbdcbehaaQLinkSums2
import Derived.Test.YtmcecmnbdcbehaaQLinkSums3
import Derived.Test.YtmcecmnbdcbehaaQLinkSums5
import Derived.Test.YtmcecmnbdcbehaaQLinkSums9
import Derived.Test.YtmcecmnbdcbehaaQLinkSums10
import Derived.Test.YtmcecmnbdcbehaaQLinkSums11
import Derived.Test.YtmcecmnbdcbehaaQLinkSums12

namespace Go.Proofs.Ytmcecmnbdcbehaa
open Go.RowKit Go.Sl

theorem ints_ne_int : (25 : TypeId) ≠ 3 := by decide
/-- The call's own slice of rows; each row in a block of ints of the call's own. -/
structure LRows (W : World) (B : Nat) (v : Value) (vs : List Value) (C : List (List Int)) : Prop where
  own : Go.Sl.Own W B 25 1 v vs
  len : vs.length = C.length
  row : ∀ i, i < C.length → OwnI W B (nthv vs i) (nthr C i)
/-- Own blocks of different types are different ones. -/
theorem own_twoT {W : World} {B B' : Nat} {e e' : TypeId} (hne : e ≠ e') {s s' : Nat} {u v : Value} {cs ds : List Value} (h : Go.Sl.Own W B e s u cs) (k : Go.Sl.Own W B' e' s' v ds) : ∀ b, Go.Sl.row u = some b → Go.Sl.row v ≠ some b := by
  intro b hb hb'
  obtain ⟨h0, rfl⟩ := row_eq hb
  obtain ⟨k0, e1⟩ := row_eq hb'
  obtain ⟨_, _, c1, x1, _⟩ := h.2.2 h0
  obtain ⟨_, _, c2, x2, _⟩ := k.2.2 k0
  rw [e1, x1] at x2
  injection x2 with x2
  injection x2 with _ x3
  exact hne x3
theorem nthv_snocL (us : List Value) (c : Value) (j : Nat) : nthv (us ++ [c]) j = if j = us.length then c else nthv us j := by
  unfold nthv
  by_cases e : j = us.length
  · subst e; simp
  · rw [if_neg e, List.getD_eq_getElem?_getD, List.getD_eq_getElem?_getD]
    rcases Nat.lt_or_ge j us.length with h | h
    · rw [List.getElem?_append_left h]
    · rw [List.getElem?_append_right h, List.getElem?_eq_none (by simp; omega), List.getElem?_eq_none h]
theorem nthr_snocL (C : List (List Int)) (r : List Int) (j : Nat) : nthr (C ++ [r]) j = if j = C.length then r else nthr C j := by
  unfold nthr
  by_cases e : j = C.length
  · subst e; simp
  · rw [if_neg e, List.getD_eq_getElem?_getD, List.getD_eq_getElem?_getD]
    rcases Nat.lt_or_ge j C.length with h | h
    · rw [List.getElem?_append_left h]
    · rw [List.getElem?_append_right h, List.getElem?_eq_none (by simp; omega), List.getElem?_eq_none h]
section
variable {w w1 w2 : World} {D : Nat}
theorem Kp.below (h : w.grownBy w1 (some D)) (hb : Below w.heap.size w1 w2) : w.grownBy w2 (some D) :=
  ⟨hb.os.trans h.os, hb.tape.trans h.tape, hb.output.trans h.output, Nat.le_trans h.size hb.size, fun k hk hr => (hb.block k hk).trans (h.block k hk hr)⟩
theorem Kp.grown (h : w.grownBy w1 (some D)) {r : Option Nat} (hg : w1.grownBy w2 r) (hr : ∀ k, r = some k → w.heap.size ≤ k) : w.grownBy w2 (some D) :=
  ⟨hg.os.trans h.os, hg.tape.trans h.tape, hg.output.trans h.output, Nat.le_trans h.size hg.size, fun k hk hr2 => (hg.block k (Nat.lt_of_lt_of_le hk h.size) fun e => by have := hr k e.symm; omega).trans (h.block k hk hr2)⟩
theorem Kp.setB (h : w.grownBy w1 (some D)) {p : Addr} (hp : p.block = D) (u : Value) : w.grownBy (w1.setCell p u) (some D) :=
  ⟨h.os, h.tape, h.output, by simpa using h.size, fun k hk hr => (Below.heap_setCell _ _ _ k (fun e => hr (by rw [e, hp]))).trans (h.block k hk hr)⟩
end
section
variable {W W' : World} {B : Nat} {v : Value} {vs : List Value} {C : List (List Int)}
theorem LRows.below (h : LRows W B v vs C) (hb : Below W.heap.size W W') : LRows W' B v vs C := ⟨h.own.below hb, h.len, fun i hi => (h.row i hi).below hb⟩
theorem lrows_nil (W : World) (B : Nat) : LRows W B (.slice none 0 0) [] [] := ⟨own_nil _ _ _ _, rfl, fun i hi => absurd hi (by simp)⟩
theorem LRows.but (h : LRows W B v vs C) {D : Nat} (hD : D < B) (hg : W.grownBy W' (some D)) : LRows W' B v vs C :=
  ⟨h.own.grown hg fun k hk e => by have := (h.own.lt k hk).1; injection e; omega, h.len, fun i hi => (h.row i hi).grown hg fun k hk e => by have := ((h.row i hi).lt k hk).1; injection e; omega⟩
theorem LRows.push (h : LRows W B v vs C) {r v' : Value} {ys : List Int} (hr : OwnI W B r ys) (ho : Go.Sl.Own W' B 25 1 v' (vs ++ [r])) (hg : W.grownBy W' (Go.Sl.row v)) : LRows W' B v' (vs ++ [r]) (C ++ [ys]) := by
  refine ⟨ho, by simp [h.len], fun i hi => ?_⟩
  rw [nthv_snocL, nthr_snocL, h.len]
  by_cases e : i = C.length
  · rw [if_pos e, if_pos e]; exact OwnI.grown hr hg (own_twoT (Ne.symm ints_ne_int) hr h.own)
  · rw [if_neg e, if_neg e]
    have hi' : i < C.length := by simp at hi; omega
    exact OwnI.grown (h.row i hi') hg (own_twoT (Ne.symm ints_ne_int) (h.row i hi') h.own)
theorem LRows.rows (h : LRows W B v vs C) : RowsV W v vs C := ⟨h.own.sl, h.len, fun i hi => (h.row i hi).ints⟩
end

end Go.Proofs.Ytmcecmnbdcbehaa

namespace Go.Proofs.Ytmcecmnbdcbehaa
open Go.RowKit Go.Sl

def low : Nat → Nat → Nat
  | 0, _ => 0
  | f + 1, r => if r % 2 = 1 then 0 else low f (r / 2) + 1
end Go.Proofs.Ytmcecmnbdcbehaa

