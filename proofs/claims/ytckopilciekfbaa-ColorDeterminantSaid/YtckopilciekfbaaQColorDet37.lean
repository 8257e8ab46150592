/- alexander.Polynomial: the cut matrix and what is done to it. -/
import Derived.Test.YtckopilciekfbaaQColorDet0
import Derived.Test.YtckopilciekfbaaQColorDet1
import Derived.Test.YtckopilciekfbaaQColorDet2
import Derived.Test.YtckopilciekfbaaQColorDet3
import Derived.Test.YtckopilciekfbaaQColorDet4
import Derived.Test.YtckopilciekfbaaQColorDet5
import Derived.Test.YtckopilciekfbaaQColorDet6
import Derived.Test.YtckopilciekfbaaQColorDet7
import Derived.Test.YtckopilciekfbaaQColorDet8
import Derived.Test.YtckopilciekfbaaQColorDet10
import Derived.Test.YtckopilciekfbaaQColorDet11
import Derived.Test.YtckopilciekfbaaQColorDet12
import Derived.Test.YtckopilciekfbaaQColorDet13
import Derived.Test.YtckopilciekfbaaQColorDet14
import Derived.Test.YtckopilciekfbaaQColorDet15
import Derived.Test.YtckopilciekfbaaQColorDet16
import Derived.Test.YtckopilciekfbaaQColorDet17
import Derived.Test.YtckopilciekfbaaQColorDet20
import Derived.Test.YtckopilciekfbaaQColorDet21
import Derived.Test.YtckopilciekfbaaQColorDet22
import Derived.Test.YtckopilciekfbaaQColorDet25
import Derived.Test.YtckopilciekfbaaQColorDet27
import Derived.RangeFuncNested
import Derived.RangeFuncBound
import Derived.RangeFuncCalls
import Derived.RangeFuncLeaves
import Derived.RangeFuncBox
import Derived.Shelf.Abstract
import Derived.Shelf.RegionOpen
import Derived.OwnWalkIn
import Derived.TacticsInMore
import Derived.LoopNIn
import Derived.LoopIn
import Derived.Maps.AppendAt
namespace Go.Proofs.Ytckopilciekfbaa
open Go.RowKit Go.Sl

def OwnGI (w : World) (B : Nat) (v : Value) (xs : List Int) : Prop := OwnG w B 3 v (xs.map (Value.int .i64))
section
variable {w w' : World} {B : Nat} {v : Value} {xs : List Int}
theorem OwnGI.ints (h : OwnGI w B v xs) : Ints w v xs := h.sl
theorem OwnGI.isSl (h : OwnGI w B v xs) : IsSl v := h.1
theorem OwnGI.len (h : OwnGI w B v xs) : vlen v = xs.length := by have := OwnG.len h; simpa using this
theorem OwnGI.cap (h : OwnGI w B v xs) : xs.length ≤ vcap v := by have := h.len; have := h.isSl.le; omega
theorem OwnGI.below (h : OwnGI w B v xs) (hb : Below w.heap.size w w') : OwnGI w' B v xs := OwnG.below h hb
theorem OwnGI.lt (h : OwnGI w B v xs) : ∀ k, row v = some k → B ≤ k ∧ k < w.heap.size := OwnG.lt h
theorem OwnGI.low (h : OwnGI w B v xs) {B' : Nat} (hB : B' ≤ B) : OwnGI w B' v xs := OwnG.low h hB
theorem OwnGI.setOther (h : OwnGI w B v xs) {p : Addr} (hp : ∀ k, row v = some k → p.block ≠ k) (u : Value) : OwnGI (w.setCell p u) B v xs := OwnG.setOther h hp u
theorem OwnGI.grown (h : OwnGI w B v xs) {r : Option Nat} (hg : w.grownBy w' r) (hr : ∀ k, row v = some k → r ≠ some k) : OwnGI w' B v xs := OwnG.grown h hg hr
theorem OwnGI.cell (h : OwnGI w B v xs) {k : Nat} (hk : k < xs.length) : w.cell? (vat v k) = some (.int .i64 (nth xs k)) := h.ints.cell hk
theorem OwnI.g (h : OwnI w B v xs) : OwnGI w B v xs := own_G h
theorem OwnGI.tail {k : Nat} (h : OwnGI w B v (xs.drop k)) (hk : k < xs.length) : OwnGI w B (vcut v 1 (vlen v) (vcap v) 1) (xs.drop (k + 1)) := by
  rw [List.drop_eq_getElem_cons hk] at h
  exact OwnG.tail h
theorem OwnGI.head (h : OwnGI w B v xs) {k : Nat} (hk : k ≤ xs.length) : OwnGI w B (vcut v 0 k (vcap v) 1) (xs.take k) := by
  have := OwnG.head h (k := k) (by simpa using hk)
  rwa [← List.map_take] at this
end

end Go.Proofs.Ytckopilciekfbaa

namespace Go.Proofs.Ytckopilciekfbaa
open Go.RowKit Go.Sl

/-- An own slice of ints lies in another block than an own slice of another type. -/
theorem apart_GI {W : World} {B B' s : Nat} {e : TypeId} (hne : e ≠ 3) {u x : Value} {cs : List Value} {xs : List Int} (h : OwnGI W B x xs) (k : Go.Sl.Own W B' e s u cs) : ∀ b, Go.Sl.row x = some b → Go.Sl.row u ≠ some b := by
  intro b hb hb'
  obtain ⟨h0, rfl⟩ := row_eq hb
  obtain ⟨k0, e1⟩ := row_eq hb'
  obtain ⟨_, c1, x1, _⟩ := h.2.2 h0
  obtain ⟨_, _, c2, x2, _⟩ := k.2.2 k0
  rw [e1, x1] at x2
  injection x2 with x2
  injection x2 with _ x3
  exact hne x3.symm

/-- A row of polynomials in a block of the call's own; the coefficients lie in blocks of ints of the call's own. -/
structure TRow (W : World) (B : Nat) (v : Value) (us : List Value) (ps : List LP) : Prop where
  own : Go.Sl.Own W B 35 2 v (pcs us ps)
  len : us.length = ps.length
  each : ∀ j, j < ps.length → OwnGI W B (nthv us j) (nthp ps j).c
section
variable {W W' : World} {B : Nat} {v : Value} {us : List Value} {ps : List LP}
theorem TRow.read (h : TRow W B v us ps) : PRead W v us ps := ⟨h.own.sl, h.len, fun j hj => (h.each j hj).ints⟩
theorem TRow.isSl (h : TRow W B v us ps) : IsSl v := h.own.1
theorem TRow.below (h : TRow W B v us ps) (hb : Below W.heap.size W W') : TRow W' B v us ps := ⟨h.own.below hb, h.len, fun j hj => (h.each j hj).below hb⟩
theorem TRow.low (h : TRow W B v us ps) {B' : Nat} (hB : B' ≤ B) : TRow W B' v us ps := ⟨h.own.low hB, h.len, fun j hj => (h.each j hj).low hB⟩
theorem nthv_snoc (us : List Value) (c : Value) (j : Nat) : nthv (us ++ [c]) j = if j = us.length then c else nthv us j := by
  unfold nthv
  by_cases e : j = us.length
  · subst e; simp
  · rw [if_neg e, List.getD_eq_getElem?_getD, List.getD_eq_getElem?_getD]
    rcases Nat.lt_or_ge j us.length with h | h
    · rw [List.getElem?_append_left h]
    · rw [List.getElem?_append_right h, List.getElem?_eq_none (by simp; omega), List.getElem?_eq_none h]
theorem nthp_snoc (ps : List LP) (q : LP) (j : Nat) : nthp (ps ++ [q]) j = if j = ps.length then q else nthp ps j := by
  unfold nthp
  by_cases e : j = ps.length
  · subst e; simp
  · rw [if_neg e, List.getD_eq_getElem?_getD, List.getD_eq_getElem?_getD]
    rcases Nat.lt_or_ge j ps.length with h | h
    · rw [List.getElem?_append_left h]
    · rw [List.getElem?_append_right h, List.getElem?_eq_none (by simp; omega), List.getElem?_eq_none h]
theorem nthm_snoc (m : List (List LP)) (r : List LP) (j : Nat) : nthm (m ++ [r]) j = if j = m.length then r else nthm m j := by
  unfold nthm
  by_cases e : j = m.length
  · subst e; simp
  · rw [if_neg e, List.getD_eq_getElem?_getD, List.getD_eq_getElem?_getD]
    rcases Nat.lt_or_ge j m.length with h | h
    · rw [List.getElem?_append_left h]
    · rw [List.getElem?_append_right h, List.getElem?_eq_none (by simp; omega), List.getElem?_eq_none h]
/-- A slice of rows grows. -/
theorem TRow.grownR (h : TRow W B v us ps) {B' : Nat} {u : Value} {cs : List Value} (hu : Go.Sl.Own W B' 75 1 u cs) (hg : W.grownBy W' (Go.Sl.row u)) : TRow W' B v us ps :=
  ⟨h.own.grown hg (own_types (Ne.symm rows_ne_poly) h.own hu), h.len, fun j hj => (h.each j hj).grown hg (apart_GI rows_ne_int (h.each j hj) hu)⟩
theorem TRow.push (h : TRow W B v us ps) {c v' : Value} {q : LP} (hc : OwnGI W B c q.c) (ho : Go.Sl.Own W' B 35 2 v' (pcs us ps ++ [.int .i64 q.low, c])) (hg : W.grownBy W' (Go.Sl.row v)) : TRow W' B v' (us ++ [c]) (ps ++ [q]) := by
  refine ⟨by rw [← pcs_append us ps h.len]; exact ho, by simp [h.len], fun j hj => ?_⟩
  rw [nthv_snoc, nthp_snoc, h.len]
  by_cases e : j = ps.length
  · rw [if_pos e, if_pos e]; exact hc.grown hg (apart_GI poly_ne_int hc h.own)
  · rw [if_neg e, if_neg e]
    have hj' : j < ps.length := by simp at hj; omega
    exact (h.each j hj').grown hg (apart_GI poly_ne_int (h.each j hj') h.own)
theorem TRow.setOther (h : TRow W B v us ps) {p : Addr} (hp : p.block < B) (u : Value) : TRow (W.setCell p u) B v us ps :=
  ⟨h.own.setOther (fun k hk e => by have := (h.own.lt k hk).1; omega) u, h.len, fun j hj => (h.each j hj).setOther (fun k hk e => by have := ((h.each j hj).lt k hk).1; omega) u⟩
end

/-- A matrix that grows by rows. -/
structure TMat (W : World) (B : Nat) (v : Value) (vs : List Value) (m : List (List LP)) : Prop where
  own : Go.Sl.Own W B 75 1 v vs
  len : vs.length = m.length
  row : ∀ i, i < m.length → ∃ us, TRow W B (nthv vs i) us (nthm m i)
section
variable {W W' : World} {B : Nat} {v : Value} {vs : List Value} {m : List (List LP)}
theorem TMat.isSl (h : TMat W B v vs m) : IsSl v := h.own.1
theorem TMat.read (h : TMat W B v vs m) : MRead W v vs m := ⟨h.own.sl, h.len, fun i hi => let ⟨us, k⟩ := h.row i hi; ⟨us, k.read⟩⟩
theorem TMat.below (h : TMat W B v vs m) (hb : Below W.heap.size W W') : TMat W' B v vs m := ⟨h.own.below hb, h.len, fun i hi => let ⟨us, k⟩ := h.row i hi; ⟨us, k.below hb⟩⟩
theorem TMat.setOther (h : TMat W B v vs m) {p : Addr} (hp : p.block < B) (u : Value) : TMat (W.setCell p u) B v vs m :=
  ⟨h.own.setOther (fun k hk e => by have := (h.own.lt k hk).1; omega) u, h.len, fun i hi => let ⟨us, k⟩ := h.row i hi; ⟨us, k.setOther hp u⟩⟩
/-- Only one old block changes, one that is not the matrix's. -/
theorem TMat.but (h : TMat W B v vs m) {D : Nat} (hD : D < B) (hg : W.grownBy W' (some D)) : TMat W' B v vs m := by
  refine ⟨h.own.grown hg fun k hk e => by have := (h.own.lt k hk).1; injection e; omega, h.len, fun i hi => ?_⟩
  obtain ⟨us, k⟩ := h.row i hi
  exact ⟨us, k.own.grown hg fun b hb e => by have := (k.own.lt b hb).1; injection e; omega, k.len, fun j hj => (k.each j hj).grown hg fun b hb e => by have := ((k.each j hj).lt b hb).1; injection e; omega⟩
/-- Another slice of rows grows. -/
theorem TMat.grownR (h : TMat W B v vs m) {B' : Nat} {u : Value} {cs : List Value} (hu : Go.Sl.Own W B' 75 1 u cs) (ha : ∀ k, Go.Sl.row v = some k → Go.Sl.row u ≠ some k) (hg : W.grownBy W' (Go.Sl.row u)) : TMat W' B v vs m :=
  ⟨h.own.grown hg ha, h.len, fun i hi => let ⟨us, k⟩ := h.row i hi; ⟨us, k.grownR hu hg⟩⟩
theorem TMat.push (h : TMat W B v vs m) {r v' : Value} {us : List Value} {ps : List LP} (hr : TRow W B r us ps) (ho : Go.Sl.Own W' B 75 1 v' (vs ++ [r])) (hg : W.grownBy W' (Go.Sl.row v)) : TMat W' B v' (vs ++ [r]) (m ++ [ps]) := by
  refine ⟨ho, by simp [h.len], fun i hi => ?_⟩
  rw [nthv_snoc, nthm_snoc, h.len]
  by_cases e : i = m.length
  · rw [if_pos e, if_pos e]; exact ⟨us, hr.grownR h.own hg⟩
  · rw [if_neg e, if_neg e]
    have hi' : i < m.length := by simp at hi; omega
    obtain ⟨us', k⟩ := h.row i hi'
    exact ⟨us', k.grownR h.own hg⟩
end

section
variable {w w1 w2 : World} {D S : Nat}
theorem Keep.below (h : w.grownBy w1 (some D)) (hb : Below w.heap.size w1 w2) : w.grownBy w2 (some D) :=
  ⟨hb.os.trans h.os, hb.tape.trans h.tape, hb.output.trans h.output, Nat.le_trans h.size hb.size, fun k hk hr => (hb.block k hk).trans (h.block k hk hr)⟩
theorem Keep.grown (h : w.grownBy w1 (some D)) {r : Option Nat} (hg : w1.grownBy w2 r) (hr : ∀ k, r = some k → w.heap.size ≤ k) : w.grownBy w2 (some D) :=
  ⟨hg.os.trans h.os, hg.tape.trans h.tape, hg.output.trans h.output, Nat.le_trans h.size hg.size, fun k hk hr2 => (hg.block k (Nat.lt_of_lt_of_le hk h.size) fun e => by have := hr k e.symm; omega).trans (h.block k hk hr2)⟩
theorem Keep.set (h : w.grownBy w1 (some D)) (u : Value) (o : Nat) : w.grownBy (w1.setCell ⟨D, o, none⟩ u) (some D) :=
  ⟨h.os, h.tape, h.output, by simpa using h.size, fun k hk hr => (Below.heap_setCell _ _ _ k (fun e => hr (by rw [e]))).trans (h.block k hk hr)⟩
end

end Go.Proofs.Ytckopilciekfbaa

namespace Go.Proofs.Ytckopilciekfbaa
open Go.RowKit Go.Sl

theorem Own.cutHead {W : World} {B : Nat} {e : TypeId} {s : Nat} {v : Value} {cs : List Value} (h : Go.Sl.Own W B e s v cs) {k : Nat} (hk : k ≤ vlen v) : Go.Sl.Own W B e s (vcut v 0 k (vcap v) s) (cs.take (k * s)) := by
  have hl := h.2.1
  have hle := h.1.le
  have hks : k * s ≤ vlen v * s := Nat.mul_le_mul_right _ hk
  refine ⟨isSl_cut h.1 (by omega) (by omega) (Nat.le_refl _), by rw [vlen_cut, List.length_take, hl, Nat.min_eq_left hks, Nat.sub_zero], fun h0 => ?_⟩
  rw [vcap_cut] at h0
  obtain ⟨hB, ho, cur, hh, hs, hc⟩ := h.2.2 (by omega)
  have h1 := vat_cut h.1 (l := 0) (h := k) (m := vcap v) (s := s) 0 (by omega) (Nat.le_refl _)
  have eb : vblk (vcut v 0 k (vcap v) s) = vblk v := by have := congrArg Addr.block h1; rwa [vat_block, vat_block] at this
  have eo : voff (vcut v 0 k (vcap v) s) = voff v := by
    have := congrArg Addr.off h1
    simpa [vat] using this
  refine ⟨by rw [eb]; exact hB, by rw [eo]; exact ho, cur, by rw [eb]; exact hh, by rw [vcap_cut]; simpa using hs, ?_⟩
  rw [List.length_take, hl, ← hc, List.take_take, hl]
theorem vblk_cutHead {v : Value} (hv : IsSl v) {k s : Nat} (hk : k ≤ vcap v) (h0 : 0 < vcap v) : vblk (vcut v 0 k (vcap v) s) = vblk v := by
  have h1 := vat_cut hv (l := 0) (h := k) (m := vcap v) (s := s) 0 (by omega) (Nat.le_refl _)
  have := congrArg Addr.block h1; rwa [vat_block, vat_block] at this

theorem pcs_take2 : ∀ (us : List Value) (ps : List LP), us.length = ps.length → ∀ c, (pcs us ps).take (c * 2) = pcs (us.take c) (ps.take c)
  | [], [], _, c => by simp [pcs]
  | u :: us, p :: ps, h, 0 => by simp [pcs]
  | u :: us, p :: ps, h, c + 1 => by
    have := pcs_take2 us ps (by simpa using h) c
    rw [show (c + 1) * 2 = c * 2 + 1 + 1 by omega]
    simp only [pcs, List.take_succ_cons, this]
section
variable {W W' : World} {B : Nat} {v : Value} {vs : List Value} {m : List (List LP)}
/-- The first rows of a matrix. -/
theorem PMat.headRows (h : PMat W B v vs m) {k : Nat} (hk : k ≤ m.length) : PMat W B (vcut v 0 k (vcap v) 1) (vs.take k) (m.take k) := by
  have hl := h.len
  have hv := h.vlen
  have hn : ∀ i, i < k → nthv (vs.take k) i = nthv vs i ∧ nthm (m.take k) i = nthm m i := fun i hi => by
    refine ⟨?_, ?_⟩
    · unfold nthv; rw [List.getD_eq_getElem?_getD, List.getD_eq_getElem?_getD, List.getElem?_take, if_pos hi]
    · unfold nthm; rw [List.getD_eq_getElem?_getD, List.getD_eq_getElem?_getD, List.getElem?_take, if_pos hi]
  have hml : (m.take k).length = k := by rw [List.length_take]; omega
  refine ⟨by have := Own.cutHead h.own (k := k) (by omega); simpa using this, by rw [hml, List.length_take]; omega, fun i hi => ?_, fun i hi => ?_, fun i j hi hj hij => ?_⟩
  · rw [hml] at hi; rw [(hn i hi).1, (hn i hi).2]; exact h.row i (by omega)
  · rw [hml] at hi; rw [(hn i hi).2]; exact h.pos i (by omega)
  · rw [hml] at hi hj; rw [(hn i hi).1, (hn j hj).1]; exact h.each i j (by omega) (by omega) hij
/-- A row is cut, and stored again. -/
theorem PMat.cutRow (h : PMat W B v vs m) {i k : Nat} (hi : i < m.length) (hk : k ≤ (nthm m i).length) (h0 : 0 < k) :
    PMat (W.setCell (vat v i) (vcut (nthv vs i) 0 k (vcap (nthv vs i)) 2)) B v (vs.set i (vcut (nthv vs i) 0 k (vcap (nthv vs i)) 2)) (m.set i ((nthm m i).take k)) := by
  have hiv : i < vs.length := Nat.lt_of_lt_of_le hi h.len
  obtain ⟨cur, hcur, _⟩ := h.own.getCell hiv
  obtain ⟨r, hr⟩ : ∃ r, nthv vs i = r := ⟨_, rfl⟩
  obtain ⟨us, hrow⟩ := h.row i hi
  rw [hr] at hrow ⊢
  have hvl := hrow.vlen
  have hcap : 0 < vcap r := by have := hrow.isSl.le; have := h.pos i hi; omega
  have eb := vblk_cutHead hrow.isSl (k := k) (s := 2) (by have := hrow.isSl.le; omega) hcap
  have keep : ∀ {x us' ps'}, PRow W B x us' ps' → PRow (W.setCell (vat v i) (vcut r 0 k (vcap r) 2)) B x us' ps' := fun {x us' ps'} hx =>
    hx.setOther (p := vat v i) (Own.ne_of_type (Ne.symm rows_ne_poly) hx.own hcur) rows_ne_int hcur _
  have hcutr : PRow W B (vcut r 0 k (vcap r) 2) (us.take k) ((nthm m i).take k) := by
    refine ⟨?_, by simp [hrow.len], fun j hj => ?_⟩
    · rw [← pcs_take2 us _ hrow.len]; exact Own.cutHead hrow.own (by omega)
    · rw [List.length_take] at hj
      have e1 : nthv (us.take k) j = nthv us j := by unfold nthv; rw [List.getD_eq_getElem?_getD, List.getD_eq_getElem?_getD, List.getElem?_take, if_pos (by omega)]
      have e2 : nthp ((nthm m i).take k) j = nthp (nthm m i) j := by unfold nthp; rw [List.getD_eq_getElem?_getD, List.getD_eq_getElem?_getD, List.getElem?_take, if_pos (by omega)]
      rw [e1, e2]; exact hrow.each j (by omega)
  refine ⟨h.own.set hiv _, by simp [h.len], fun j hj => ?_, fun j hj => ?_, fun a b ha hb hab => ?_⟩
  · rw [List.length_set] at hj
    rw [nthv_set (Nat.lt_of_lt_of_le hj h.len), nthm_set hj]
    by_cases e : j = i
    · rw [if_pos e, if_pos e]; exact ⟨_, keep hcutr⟩
    · rw [if_neg e, if_neg e]
      obtain ⟨us', k'⟩ := h.row j hj
      exact ⟨us', keep k'⟩
  · rw [List.length_set] at hj
    rw [nthm_set hj]
    split
    · rw [List.length_take]; have := h.pos i hi; omega
    · exact h.pos j hj
  · rw [List.length_set] at ha hb
    have key : ∀ j, j < m.length → vblk (nthv (vs.set i (vcut r 0 k (vcap r) 2)) j) = vblk (nthv vs j) := fun j hj => by
      rw [nthv_set (Nat.lt_of_lt_of_le hj h.len)]
      by_cases e : j = i
      · rw [if_pos e, eb, e, hr]
      · rw [if_neg e]
    rw [key a ha, key b hb]; exact h.each a b ha hb hab
end

end Go.Proofs.Ytckopilciekfbaa

