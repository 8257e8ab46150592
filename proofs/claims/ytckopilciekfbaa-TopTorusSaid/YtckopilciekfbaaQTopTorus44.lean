/- Rows of ints that are pushed one by one, in blocks of their own. -/
import Derived.Test.YtckopilciekfbaaQTopTorus0
import Derived.Test.YtckopilciekfbaaQTopTorus1
import Derived.Test.YtckopilciekfbaaQTopTorus2
import Derived.Test.YtckopilciekfbaaQTopTorus3
import Derived.Test.YtckopilciekfbaaQTopTorus6
import Derived.Test.YtckopilciekfbaaQTopTorus9
import Derived.Test.YtckopilciekfbaaQTopTorus13
import Derived.Test.YtckopilciekfbaaQTopTorus14

namespace Go.Proofs.Ytckopilciekfbaa
open Go.RowKit Go.Sl

theorem info_bool : (Try.prog.info? 4).map (fun i => (i.zero, i.size, i.bytes)) = some (some (.bool false), 1, 1) := by kernel_rfl
/-- The slice is the call's own, and holds these marks. -/
def OwnB (w : World) (B : Nat) (v : Value) (D : List Bool) : Prop := Go.Sl.Own w B 4 1 v (D.map Value.bool)
section
variable {w w' : World} {v : Value} {D : List Bool} {B : Nat}
theorem OwnB.isSl (h : OwnB w B v D) : IsSl v := h.1
theorem OwnB.len (h : OwnB w B v D) : vlen v = D.length := by have := h.2.1; simp at this; omega
theorem OwnB.cell (h : OwnB w B v D) {k : Nat} (hk : k < D.length) : w.cell? (vat v k) = some (.bool (at? D k)) := by
  have := Own.cell h (j := k) (by simpa using hk)
  rw [this]
  simp [at?, hk]
theorem OwnB.frozen (h : OwnB w B v D) {k : Nat} (hk : k < D.length) : w.frozen? (vat v k) = false := Own.frozen h (by simpa using hk)
theorem OwnB.set (h : OwnB w B v D) {k : Nat} (hk : k < D.length) (x : Bool) : OwnB (w.setCell (vat v k) (.bool x)) B v (D.set k x) := by
  have := Own.set h (j := k) (by simpa using hk) (.bool x)
  unfold OwnB
  rwa [List.map_set]
theorem OwnB.below (h : OwnB w B v D) (hb : Below w.heap.size w w') : OwnB w' B v D := Own.below h hb
theorem OwnB.grown (h : OwnB w B v D) {r : Option Nat} (hg : w.grownBy w' r) (hr : ∀ k, row v = some k → r ≠ some k) : OwnB w' B v D := Own.grown h hg hr
theorem OwnB.alloc (h : OwnB w B v D) (o : Obj) : OwnB (w.alloc o) B v D := Own.alloc h o
end
theorem wpList_makeB {w : World} {ops : Array Oper} {rest : List Oper} {o : Oper} {a : Act} {Q : Exit → Act → World → Prop} (hgd : o.guard = none) (l c : Operand) (ho : o.op = Op.makeSlice 107 l c)
    (L C : Int) (n : Nat) (hl : a.eval l = .int .i64 L) (hc : a.eval c = .int .i64 C) (hL : L = (n : Int)) (hC : C = (n : Int)) (hm : n ≤ 1000000000000)
    (h : ∀ v' w', OwnB w' w.heap.size v' (List.replicate n false) → w.grownBy w' none → vlen v' = n → w'.heap.size = w.heap.size + 1 → wpList Try.prog ops Q rest (a.put o.dst v') w') : wpList Try.prog ops Q (o :: rest) a w := by
  obtain ⟨i, hi, hz0, hz1, hz2⟩ := info_parts info_bool
  refine wpList_make_sl hgd l c _ ho 4 i (.bool false) 1 Try.underlying107 hi hz0 hz1 hz2 rfl L C n hl hc hL hC (by omega) (by simp only [maxLen]; omega) ?_
  intro v' w' h1 h2 h3 h4
  exact h v' w' (by unfold OwnB; simpa using h1) h2 h3 h4
/-- append of one row's header. -/
theorem wpList_pushV {w : World} {ops : Array Oper} {rest : List Oper} {o : Oper} {a : Act} {Q : Exit → Act → World → Prop} (hgd : o.guard = none) (s x : Operand)
    (ho : o.op = .call { callee := .builtin .append, args := #[s, x], argTypes := #[43, 43] })
    {B : Nat} {v r : Value} {vs : List Value} (hs : a.eval s = v) (hx : a.eval x = .slice (some ⟨w.heap.size, 0, none⟩) 1 1) (hown : Go.Sl.Own w B 22 1 v vs) (hr : IsSl r) (hB : B ≤ w.heap.size) (hlen : vs.length ≤ 1000000000000)
    (h : ∀ v' w', Go.Sl.Own w' B 22 1 v' (vs ++ [r]) → w.grownBy w' (row v) → (∀ k, row v' = some k → row v = some k ∨ w.heap.size ≤ k) → wpList Try.prog ops Q rest (a.put o.dst v') w') :
    wpList Try.prog ops Q (o :: rest) a (w.alloc (.cells #[r] 22)) := by
  obtain ⟨i, hi, hz0, hz1, hz2⟩ := info_parts info_slice
  have hl : vlen v = vs.length := by have := hown.2.1; omega
  refine wpList_append_sl hgd s x _ ho B 22 i _ 1 24 Try.underlying43 hi hz0 hz1 hz2 rfl (by decide) hs hx (Own.alloc hown _) (sl_one w r 22)
    (by intro u hu; simp at hu; subst hu; exact oneCell'_sl hr) (by simp only [vlen_mk, hl, maxLen]; omega) (by simp only [vlen_mk, hl]; omega) (by simp; omega) ?_
  intro v' w' h1 h2 h3
  refine h v' w' h1 ⟨h2.os, h2.tape, h2.output, by have := h2.size; simp at this; omega, fun k hk hr => (h2.block k (by simp; omega) hr).trans (Below.heap_alloc w _ k hk)⟩ ?_
  intro k hk; rcases h3 k hk with h | h
  · exact .inl h
  · exact .inr (by simp at h; omega)

theorem setCell_size (w : World) (p : Addr) (v : Value) : (w.setCell p v).heap.size = w.heap.size := by simp
theorem row_setB {B1 : Nat} {v d : Value} {j : Nat} (hv : ∀ k, row v = some k → B1 ≤ k) (hd : vblk d < B1) : ∀ k, row v = some k → (vat d j).block ≠ k := fun k hk e => by
  have := hv k hk
  rw [vat_block] at e
  omega

end Go.Proofs.Ytckopilciekfbaa

namespace Go.Proofs.Ytckopilciekfbaa
open Go.RowKit Go.Sl

theorem ints_ne_int : (22 : TypeId) ≠ 3 := by decide
/-- The call's own slice of rows; each row in a block of ints of the call's own. -/
structure LRows (W : World) (B : Nat) (v : Value) (vs : List Value) (C : List (List Int)) : Prop where
  own : Go.Sl.Own W B 22 1 v vs
  len : vs.length = C.length
  row : ∀ i, i < C.length → OwnI W B (nthv vs i) (nthr C i)
/-- Own blocks of different types are different ones. -/
theorem own_twoT {W : World} {B B' : Nat} {e e' : TypeId} (hne : e ≠ e') {s s' : Nat} {u v : Value} {cs ds : List Value} (h : Go.Sl.Own W B e s u cs) (k : Go.Sl.Own W B' e' s' v ds) : ∀ b, Go.Sl.row u = some b → Go.Sl.row v ≠ some b := by
  intro b hb hb'
  obtain ⟨h0, rfl⟩ := row_eq hb
  obtain ⟨k0, e1⟩ := row_eq hb'
  obtain ⟨_, _, c1, x1, _⟩ := h.2.2 h0
  obtain ⟨_, _, c2, x2, _⟩ := k.2.2 k0
  rw [e1, x1] at x2
  injection x2 with x2
  injection x2 with _ x3
  exact hne x3
theorem nthv_snocL (us : List Value) (c : Value) (j : Nat) : nthv (us ++ [c]) j = if j = us.length then c else nthv us j := by
  unfold nthv
  by_cases e : j = us.length
  · subst e; simp
  · rw [if_neg e, List.getD_eq_getElem?_getD, List.getD_eq_getElem?_getD]
    rcases Nat.lt_or_ge j us.length with h | h
    · rw [List.getElem?_append_left h]
    · rw [List.getElem?_append_right h, List.getElem?_eq_none (by simp; omega), List.getElem?_eq_none h]
theorem nthr_snocL (C : List (List Int)) (r : List Int) (j : Nat) : nthr (C ++ [r]) j = if j = C.length then r else nthr C j := by
  unfold nthr
  by_cases e : j = C.length
  · subst e; simp
  · rw [if_neg e, List.getD_eq_getElem?_getD, List.getD_eq_getElem?_getD]
    rcases Nat.lt_or_ge j C.length with h | h
    · rw [List.getElem?_append_left h]
    · rw [List.getElem?_append_right h, List.getElem?_eq_none (by simp; omega), List.getElem?_eq_none h]
section
variable {w w1 w2 : World} {D : Nat}
theorem Kp.below (h : w.grownBy w1 (some D)) (hb : Below w.heap.size w1 w2) : w.grownBy w2 (some D) :=
  ⟨hb.os.trans h.os, hb.tape.trans h.tape, hb.output.trans h.output, Nat.le_trans h.size hb.size, fun k hk hr => (hb.block k hk).trans (h.block k hk hr)⟩
theorem Kp.grown (h : w.grownBy w1 (some D)) {r : Option Nat} (hg : w1.grownBy w2 r) (hr : ∀ k, r = some k → w.heap.size ≤ k) : w.grownBy w2 (some D) :=
  ⟨hg.os.trans h.os, hg.tape.trans h.tape, hg.output.trans h.output, Nat.le_trans h.size hg.size, fun k hk hr2 => (hg.block k (Nat.lt_of_lt_of_le hk h.size) fun e => by have := hr k e.symm; omega).trans (h.block k hk hr2)⟩
theorem Kp.setB (h : w.grownBy w1 (some D)) {p : Addr} (hp : p.block = D) (u : Value) : w.grownBy (w1.setCell p u) (some D) :=
  ⟨h.os, h.tape, h.output, by simpa using h.size, fun k hk hr => (Below.heap_setCell _ _ _ k (fun e => hr (by rw [e, hp]))).trans (h.block k hk hr)⟩
end
section
variable {W W' : World} {B : Nat} {v : Value} {vs : List Value} {C : List (List Int)}
theorem LRows.below (h : LRows W B v vs C) (hb : Below W.heap.size W W') : LRows W' B v vs C := ⟨h.own.below hb, h.len, fun i hi => (h.row i hi).below hb⟩
theorem lrows_nil (W : World) (B : Nat) : LRows W B (.slice none 0 0) [] [] := ⟨own_nil _ _ _ _, rfl, fun i hi => absurd hi (by simp)⟩
theorem LRows.but (h : LRows W B v vs C) {D : Nat} (hD : D < B) (hg : W.grownBy W' (some D)) : LRows W' B v vs C :=
  ⟨h.own.grown hg fun k hk e => by have := (h.own.lt k hk).1; injection e; omega, h.len, fun i hi => (h.row i hi).grown hg fun k hk e => by have := ((h.row i hi).lt k hk).1; injection e; omega⟩
theorem LRows.push (h : LRows W B v vs C) {r v' : Value} {ys : List Int} (hr : OwnI W B r ys) (ho : Go.Sl.Own W' B 22 1 v' (vs ++ [r])) (hg : W.grownBy W' (Go.Sl.row v)) : LRows W' B v' (vs ++ [r]) (C ++ [ys]) := by
  refine ⟨ho, by simp [h.len], fun i hi => ?_⟩
  rw [nthv_snocL, nthr_snocL, h.len]
  by_cases e : i = C.length
  · rw [if_pos e, if_pos e]; exact OwnI.grown hr hg (own_twoT (Ne.symm ints_ne_int) hr h.own)
  · rw [if_neg e, if_neg e]
    have hi' : i < C.length := by simp at hi; omega
    exact OwnI.grown (h.row i hi') hg (own_twoT (Ne.symm ints_ne_int) (h.row i hi') h.own)
theorem LRows.rows (h : LRows W B v vs C) : RowsV W v vs C := ⟨h.own.sl, h.len, fun i hi => (h.row i hi).ints⟩
end

end Go.Proofs.Ytckopilciekfbaa

