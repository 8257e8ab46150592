/- Elements: an own row appended, in a region that draws its order. -/
import Derived.Test.YtplekfgadbjgdaaQMatchingCounts0
import Derived.Test.YtplekfgadbjgdaaQMatchingCounts1
import Derived.Test.YtplekfgadbjgdaaQMatchingCounts10
import Derived.Test.YtplekfgadbjgdaaQMatchingCounts11
import Derived.Test.YtplekfgadbjgdaaQMatchingCounts12
import Derived.Test.YtplekfgadbjgdaaQMatchingCounts13
import Derived.Test.YtplekfgadbjgdaaQMatchingCounts14
import Derived.Test.YtplekfgadbjgdaaQMatchingCounts15
import Derived.Test.YtplekfgadbjgdaaQMatchingCounts16
import Derived.Test.YtplekfgadbjgdaaQMatchingCounts17
import Derived.Test.YtplekfgadbjgdaaQMatchingCounts18
import Derived.Test.YtplekfgadbjgdaaQMatchingCounts19
import Derived.Test.YtplekfgadbjgdaaQMatchingCounts20
import Derived.Test.YtplekfgadbjgdaaQMatchingCounts21
import Derived.Test.YtplekfgadbjgdaaQMatchingCounts22
import Derived.Test.YtplekfgadbjgdaaQMatchingCounts23
import Derived.Test.YtplekfgadbjgdaaQMatchingCounts24
import Derived.Test.YtplekfgadbjgdaaQMatchingCounts25
import Derived.Test.YtplekfgadbjgdaaQMatchingCounts26
import Derived.Test.YtplekfgadbjgdaaQMatchingCounts27
import Derived.Test.YtplekfgadbjgdaaQMatchingCounts28
import Derived.Test.YtplekfgadbjgdaaQMatchingCounts29
import Derived.Test.YtplekfgadbjgdaaQMatchingCounts30
import Derived.Test.YtplekfgadbjgdaaQMatchingCounts36
import Derived.Shelf.Strings.Builder1
import Derived.Deep.RegionLaw
import Derived.RangeFuncNested
import Derived.RangeFuncBound
import Derived.RangeFuncCalls
import Derived.RangeFuncLeaves
import Derived.RangeFuncBox
import Derived.Shelf.Abstract
import Derived.Shelf.RegionOpen
import Derived.OwnWalkIn
import Derived.TacticsInMore
import Derived.LoopNIn
import Derived.LoopIn
import Derived.Maps.AppendAt
namespace Go.Proofs.Ytplekfgadbjgdaa
open Go.RowKit Go.Sl

section
variable {W : World} {B : Nat} {u : Value} {vs : List Value} {xss : List (List Int)}
theorem RO.set (h : RO W B u vs xss) {i k : Nat} (hi : i < xss.length) (hk : k < (nthr xss i).length) (x : Int) : RO (W.setCell (vat (nthv vs i) k) (.int .i64 x)) B u vs (xss.set i ((nthr xss i).set k x)) := by
  have hn : ∀ j, j < xss.length → nthr (xss.set i ((nthr xss i).set k x)) j = if j = i then (nthr xss i).set k x else nthr xss j := by
    intro j hj
    by_cases e : j = i
    · subst e; rw [if_pos rfl, nthr_lt (by simp; omega)]; simp
    · rw [if_neg e, nthr_lt (by simp; omega), nthr_lt hj]; simp [Ne.symm e]
  refine ⟨h.own.setOther (fun b hb e => ?_) _, by rw [List.length_set]; exact h.len, fun j hj => ?_, fun j hj => ?_, fun j hj => ?_, fun a b hab hb => ?_⟩
  · simp only [vat_block] at e
    exact h.apart i hi (by rw [hb, e])
  · rw [List.length_set] at hj
    rw [hn j hj]
    by_cases e : j = i
    · subst e; rw [if_pos rfl]; exact (h.row j hj).set hk x
    · rw [if_neg e]
      refine (h.row j hj).setOther (fun b hb eb => ?_) _
      rw [h.rowAt hj] at hb
      simp only [vat_block] at eb
      have hbb : vblk (nthv vs j) = b := Option.some.inj hb
      rcases Nat.lt_or_gt_of_ne e with hlt | hgt
      · exact h.each j i hlt hi (by omega)
      · exact h.each i j hgt hj (by omega)
  · rw [List.length_set] at hj
    rw [hn j hj]
    split
    · rw [List.length_set]; exact h.pos i hi
    · exact h.pos j hj
  · rw [List.length_set] at hj; exact h.apart j hj
  · rw [List.length_set] at hb; exact h.each a b hab hb
theorem RO.setFar (h : RO W B u vs xss) {p : Addr} (hp : p.block < B) (x : Value) : RO (W.setCell p x) B u vs xss :=
  ⟨h.own.setOther (fun b hb e => by have := (h.own.lt b hb).1; omega) _, h.len, fun i hi => (h.row i hi).setOther (fun b hb e => by have := ((h.row i hi).lt b hb).1; omega) _, h.pos, h.apart, h.each⟩
end

/-- The first i rows have been written over, and the first k elements of the next one. -/
structure Fld (L m i k : Nat) (xss : List (List Int)) : Prop where
  len : xss.length = L + 1
  each : ∀ j, j < L + 1 → (nthr xss j).length = m + 1
  done : ∀ j, j < i → j < L + 1 → ∀ t, t < m + 1 → nth (nthr xss j) t = -1 - (j : Int)
  here : ∀ t, t < k → t < m + 1 → nth (nthr xss i) t = -1 - (i : Int)
theorem Fld.next {L m i : Nat} {xss : List (List Int)} (h : Fld L m i (m + 1) xss) : Fld L m (i + 1) 0 xss :=
  ⟨h.len, h.each, fun j hj hl t ht => by
    rcases Nat.lt_or_ge j i with h1 | h1
    · exact h.done j h1 hl t ht
    · obtain rfl : j = i := by omega
      exact h.here t ht ht, fun t ht => by omega⟩
theorem Fld.step {L m i k : Nat} {xss : List (List Int)} (h : Fld L m i k xss) (hi : i < L + 1) (hk : k < m + 1) : Fld L m i (k + 1) (xss.set i ((nthr xss i).set k (-1 - (i : Int)))) := by
  have hl := h.len
  have hn : ∀ j, j < L + 1 → nthr (xss.set i ((nthr xss i).set k (-1 - (i : Int)))) j = if j = i then (nthr xss i).set k (-1 - (i : Int)) else nthr xss j := by
    intro j hj
    by_cases e : j = i
    · subst e; rw [if_pos rfl, nthr_lt (by simp; omega)]; simp
    · rw [if_neg e, nthr_lt (by simp; omega)]
      simp only [List.getElem_set, if_neg (Ne.symm e)]
      exact (nthr_lt (by omega)).symm
  refine ⟨by rw [List.length_set]; exact hl, fun j hj => ?_, fun j hj hjl t ht => ?_, fun t ht htm => ?_⟩
  · rw [hn j hj]; split
    · rw [List.length_set]; exact h.each i hi
    · exact h.each j hj
  · rw [hn j hjl, if_neg (by omega)]; exact h.done j hj hjl t ht
  · rw [hn i hi, if_pos rfl]
    by_cases e : t = k
    · subst e; exact nth_set_same _ (by rw [h.each i hi]; exact htm)
    · rw [nth_set_other _ (Ne.symm e)]; exact h.here t (by omega) htm
end Go.Proofs.Ytplekfgadbjgdaa

namespace Go.Proofs.Ytplekfgadbjgdaa
open Go.RowKit Go.Sl Go.TL

/-- A variable in its box. -/
def Cel (w : World) (b : Nat) (v : Value) (t : TypeId) : Prop := w.heap[b]? = some (.cells #[v] t (0, 0))
section
variable {w w' : World} {b : Nat} {v : Value} {t : TypeId}
theorem Cel.lt (h : Cel w b v t) : b < w.heap.size := (Array.getElem?_eq_some_iff.1 h).1
theorem Cel.cell (h : Cel w b v t) : w.cell? ⟨b, 0, none⟩ = some v := cell_of_one h
theorem Cel.free (h : Cel w b v t) : w.frozen? ⟨b, 0, none⟩ = false := free_of_one h
theorem Cel.below (h : Cel w b v t) (hb : Below w.heap.size w w') : Cel w' b v t := (hb.block _ h.lt).trans h
theorem Cel.other (h : Cel w b v t) {p : Addr} (hp : b ≠ p.block) (u : Value) : Cel (w.setCell p u) b v t := (Below.heap_setCell w p u b hp).trans h
theorem Cel.set (h : Cel w b v t) (u : Value) : Cel (w.setCell ⟨b, 0, none⟩ u) b u t := one_setCell h
theorem Cel.grown (h : Cel w b v t) {r : Option Nat} (hg : w.grownBy w' r) (hr : r ≠ some b) : Cel w' b v t := (hg.block b h.lt (Ne.symm hr)).trans h
end
def fnV (bd bn bo bf : Nat) : Value := .func (.func 59) #[] #[.pointer (some ⟨bd, 0, none⟩), .pointer (some ⟨bn, 0, none⟩), .pointer (some ⟨bo, 0, none⟩), .pointer (some ⟨bf, 0, none⟩)]
structure FS (B0 B1 bd bn bo bf n : Nat) (dv ov : Value) (E : List Nat) (vs : List Value) (xss : List (List Int)) (w : World) : Prop where
  kd : Cel w bd dv 22
  kn : Cel w bn (.int .i64 n) 3
  ko : Cel w bo ov 24
  kf : Cel w bf (fnV bd bn bo bf) 1
  od : OwnI w B0 dv (dz E)
  ro : RO w B1 ov vs xss
  lts : bd < B1 ∧ bn < B1 ∧ bo < B1 ∧ bf < B1 ∧ vblk dv < B1 ∧ B0 ≤ vblk dv ∧ B0 ≤ bo ∧ B0 ≤ B1 ∧ B1 ≤ w.heap.size
  nes : bd ≠ vblk dv ∧ bn ≠ vblk dv ∧ bo ≠ vblk dv ∧ bf ≠ vblk dv ∧ bd ≠ bo ∧ bn ≠ bo ∧ bf ≠ bo
section
variable {B0 B1 bd bn bo bf n : Nat} {dv ov : Value} {E : List Nat} {vs : List Value} {xss : List (List Int)} {w w' : World}
theorem FS.below (h : FS B0 B1 bd bn bo bf n dv ov E vs xss w) (hb : Below w.heap.size w w') : FS B0 B1 bd bn bo bf n dv ov E vs xss w' :=
  ⟨h.kd.below hb, h.kn.below hb, h.ko.below hb, h.kf.below hb, h.od.below hb, h.ro.below hb, by have := h.lts; have := hb.size; omega, h.nes⟩
theorem FS.setD (h : FS B0 B1 bd bn bo bf n dv ov E vs xss w) {i : Nat} (hi : i < E.length) (e : Nat) (x : Int) (hx : (e : Int) - 1 = x) : FS B0 B1 bd bn bo bf n dv ov (E.set i e) vs xss (w.setCell (vat dv i) (.int .i64 x)) := by
  subst hx
  have n := h.nes
  have eb : (vat dv i).block = vblk dv := vat_block _ _
  refine ⟨h.kd.other (by rw [eb]; exact n.1) _, h.kn.other (by rw [eb]; exact n.2.1) _, h.ko.other (by rw [eb]; exact n.2.2.1) _, h.kf.other (by rw [eb]; exact n.2.2.2.1) _, ?_, h.ro.setFar (by rw [eb]; exact h.lts.2.2.2.2.1) _, by have := h.lts; simp; omega, h.nes⟩
  rw [dz_set]
  exact h.od.set (by rw [dz_length]; exact hi) _
theorem FS.pushed (h : FS B0 B1 bd bn bo bf n dv ov E vs xss w) {v' r : Value} {ys : List Int} (hr : RO w' B1 v' (vs ++ [r]) (xss ++ [ys])) (hg : w.grownBy w' (Go.Sl.row ov)) : FS B0 B1 bd bn bo bf n dv v' E (vs ++ [r]) (xss ++ [ys]) (w'.setCell ⟨bo, 0, none⟩ v') := by
  have hl : ∀ b, b < B1 → Go.Sl.row ov ≠ some b := fun b hb e => by have := (h.ro.own.lt b e).1; omega
  have l := h.lts
  have n := h.nes
  have hd : OwnI w' B0 dv (dz E) := h.od.grown hg fun k hk e => by
    have hk2 := row_eq hk
    have := hl k (by rw [← hk2.2]; exact l.2.2.2.2.1)
    exact this e
  refine ⟨(h.kd.grown hg (hl _ l.1)).other n.2.2.2.2.1 _, (h.kn.grown hg (hl _ l.2.1)).other n.2.2.2.2.2.1 _, (h.ko.grown hg (hl _ l.2.2.1)).set _, (h.kf.grown hg (hl _ l.2.2.2.1)).other n.2.2.2.2.2.2 _, ?_, hr.setFar l.2.2.1 _, by have := hg.size; simp; omega, n⟩
  exact hd.setOther (fun b hb e => by have h1 := (row_eq hb).2; have h2 := n.2.2.1; have h3 : bo = b := e; omega) _
theorem FS.belowSet (h : FS B0 B1 bd bn bo bf n dv ov E vs xss w) {w0 : World} (hb : Below B0 w0 w) (i : Nat) (x : Value) : Below B0 w0 (w.setCell (vat dv i) x) :=
  hb.setCell (by rw [vat_block]; exact h.lts.2.2.2.2.2.1) _
end
theorem fillT_mono {n f i : Nat} {E : List Nat} {k : Nat} (h : i + 1 ≤ k) : ∀ d, (fillT n f i E k).length ≤ (fillT n f i E (k + d)).length
  | 0 => Nat.le_refl _
  | d + 1 => by
    rw [← Nat.add_assoc, fillT_succ (by omega), List.length_append]
    have := fillT_mono (n := n) (f := f) (E := E) h d
    omega

end Go.Proofs.Ytplekfgadbjgdaa

namespace Go.Proofs.Ytplekfgadbjgdaa
open Go.RowKit Go.Sl Go.TL

theorem ro_pushed {w w' : World} {B : Nat} {v v' r : Value} {vs : List Value} {xss : List (List Int)} {ys : List Int} (hown : RO w B v vs xss) (hy : OwnI w B r ys) (h0 : 0 < ys.length)
    (hap : Go.Sl.row v ≠ some (vblk r)) (hea : ∀ i, i < xss.length → vblk (nthv vs i) ≠ vblk r)
    (h1 : Go.Sl.Own w' B 22 1 v' (vs ++ [r])) (h2 : (w.alloc (.cells #[r] 22)).grownBy w' (Go.Sl.row v)) (h3 : ∀ k, Go.Sl.row v' = some k → Go.Sl.row v = some k ∨ (w.alloc (.cells #[r] 22)).heap.size ≤ k) :
    RO w' B v' (vs ++ [r]) (xss ++ [ys]) ∧ w.grownBy w' (Go.Sl.row v) := by
  have hvl := hown.len
  have hg : w.grownBy w' (Go.Sl.row v) := ⟨h2.os, h2.tape, h2.output, by have := h2.size; simp at this; omega, fun k hk hr => (h2.block k (by simp; omega) hr).trans (Below.heap_alloc w _ k hk)⟩
  have hfr : ∀ k, Go.Sl.row v' = some k → Go.Sl.row v = some k ∨ w.heap.size ≤ k := by
    intro k hk; rcases h3 k hk with h | h
    · exact .inl h
    · exact .inr (by simp at h; omega)
  have hnv : ∀ i, i < xss.length → nthv (vs ++ [r]) i = nthv vs i ∧ nthr (xss ++ [ys]) i = nthr xss i := by
    intro i hi
    simp [nthv, nthr, List.getElem?_append, hvl, hi]
  have hlast : nthv (vs ++ [r]) xss.length = r ∧ nthr (xss ++ [ys]) xss.length = ys := by
    simp [nthv, nthr, hvl]
  have hrr : Go.Sl.row r = some (vblk r) := row_some (by have := hy.ints.cap; omega)
  have hrl := (hy.lt _ hrr).2
  refine ⟨⟨h1, by simp [hvl], fun i hi => ?_, fun i hi => ?_, fun i hi e => ?_, fun i j hij hj => ?_⟩, hg⟩
  · simp only [List.length_append, List.length_cons, List.length_nil] at hi
    rcases Nat.lt_or_ge i xss.length with hlt | hge
    · rw [(hnv i hlt).1, (hnv i hlt).2]
      refine Go.Sl.Own.grown (hown.row i hlt) hg fun k hk e => ?_
      rw [hown.rowAt hlt] at hk
      exact hown.apart i hlt (by rw [e, hk])
    · obtain rfl : i = xss.length := by omega
      rw [hlast.1, hlast.2]
      refine Go.Sl.Own.grown hy hg fun k hk e => ?_
      rw [hrr] at hk
      exact hap (by rw [e, hk])
  · simp only [List.length_append, List.length_cons, List.length_nil] at hi
    rcases Nat.lt_or_ge i xss.length with hlt | hge
    · rw [(hnv i hlt).2]; exact hown.pos i hlt
    · obtain rfl : i = xss.length := by omega
      rw [hlast.2]; exact h0
  · simp only [List.length_append, List.length_cons, List.length_nil] at hi
    rcases Nat.lt_or_ge i xss.length with hlt | hge
    · rw [(hnv i hlt).1] at e
      rcases hfr _ e with h4 | h4
      · exact hown.apart i hlt h4
      · have := (hown.blk hlt).2; omega
    · obtain rfl : i = xss.length := by omega
      rw [hlast.1] at e
      rcases hfr _ e with h4 | h4
      · exact hap h4
      · omega
  · simp only [List.length_append, List.length_cons, List.length_nil] at hj
    rw [(hnv i (by omega)).1]
    rcases Nat.lt_or_ge j xss.length with hlt | hge
    · rw [(hnv j hlt).1]; exact hown.each i j hij hlt
    · obtain rfl : j = xss.length := by omega
      rw [hlast.1]; exact hea i hij
set_option maxRecDepth 100000 in
theorem step_pushRO {w W : World} {r : Value} {o : Oper} {a : Act} {K : Act → World → Prop} {Q : Exit → Act → World → Prop} (s x : Operand) (hW : W = w.alloc (.cells #[r] 22))
    (ho : o.op = .call { callee := .builtin .append, args := #[s, x], argTypes := #[24, 24] })
    {B : Nat} {v : Value} {vs : List Value} {xss : List (List Int)} {ys : List Int} (hs : a.eval s = v) (hx : a.eval x = .slice (some ⟨w.heap.size, 0, none⟩) 1 1) (hown : RO w B v vs xss) (hy : OwnI w B r ys) (h0 : 0 < ys.length) (hB : B ≤ w.heap.size) (hlen : xss.length ≤ 1000000000000)
    (hap : Go.Sl.row v ≠ some (vblk r)) (hea : ∀ i, i < xss.length → vblk (nthv vs i) ≠ vblk r)
    (h : ∀ v' w', RO w' B v' (vs ++ [r]) (xss ++ [ys]) → w.grownBy w' (Go.Sl.row v) → K (a.put o.dst v') w') :
    Oper.wp Try.prog o a W K Q := by
  subst hW
  obtain ⟨i, hi, hz0, hz1, hz2⟩ := info_parts info_slice
  have hl : vlen v = xss.length := hown.rows.len
  obtain ⟨v', w', hr, h1, h2, h3⟩ := run_append_sl (P := Try.prog) (w.alloc (.cells #[r] 22)) B 24 o.type 22 i _ 1 24 Try.underlying24 hi hz0 hz1 hz2 rfl (by decide) (Go.Sl.Own.alloc hown.own _) (sl_one w r 22)
    (by intro u hu; simp at hu; subst hu; exact oneCell'_sl hy.isSl) (by simp only [vlen_mk, hl, maxLen]; omega) (by simp only [vlen_mk, hl]; omega) (by simp; omega)
  obtain ⟨k1, k2⟩ := ro_pushed hown hy h0 hap hea h1 h2 h3
  unfold Oper.wp execOp
  simp only [ho, resolve, invoke, builtin, Sem.run_bind, Sem.run_pure, Result.andThen_ok, List.map_toArray, List.map_cons, List.map_nil, hs, hx, hr]
  exact h v' w' k1 k2

end Go.Proofs.Ytplekfgadbjgdaa

