/- Square matrices of ints made row by row. -/
import Derived.Test.YtplekfgadbjgdaaQTopSums0
import Derived.Test.YtplekfgadbjgdaaQTopSums1
import Derived.Test.YtplekfgadbjgdaaQTopSums3
import Derived.Test.YtplekfgadbjgdaaQTopSums4
import Derived.Test.YtplekfgadbjgdaaQTopSums5
import Derived.Test.YtplekfgadbjgdaaQTopSums6
import Derived.Test.YtplekfgadbjgdaaQTopSums7
import Derived.Test.YtplekfgadbjgdaaQTopSums8
import Derived.Test.YtplekfgadbjgdaaQTopSums10
import Derived.Test.YtplekfgadbjgdaaQTopSums15
import Derived.Test.YtplekfgadbjgdaaQTopSums18
import Derived.Test.YtplekfgadbjgdaaQTopSums19
import Derived.Test.YtplekfgadbjgdaaQTopSums25
import Derived.Test.YtplekfgadbjgdaaQTopSums26
import Derived.Test.YtplekfgadbjgdaaQTopSums46
import Derived.Deep.RegionLaw
import Derived.RangeFuncNested
import Derived.RangeFuncCalls
import Derived.OrdersIn
import Derived.OrdersHeld
import Derived.Deep.RegionHeld
import Derived.Shelf.Strings.Builder1
import Derived.RangeFuncBound
import Derived.RangeFuncLeaves
import Derived.RangeFuncBox
import Derived.Shelf.Abstract
import Derived.Shelf.RegionOpen
import Derived.OwnWalkIn
import Derived.TacticsInMore
import Derived.LoopNIn
import Derived.LoopIn
import Derived.Maps.AppendAt
namespace Go.Proofs.Ytplekfgadbjgdaa
open Go.RowKit Go.Sl

/-- The first k points of the cycle of i. -/
def orb (a : List Int) (i k : Nat) : List Int := (List.range k).map fun t => ((itr a t i : Nat) : Int)
theorem mem_orb {a : List Int} {i k : Nat} {x : Int} : x ∈ orb a i k ↔ ∃ t, t < k ∧ ((itr a t i : Nat) : Int) = x := by simp [orb]

/-- The components so far. -/
structure Comps (a : List Int) (D : List Bool) (C : List (List Int)) : Prop where
  mem : ∀ k, k < C.length → ∀ x ∈ nthr C k, 0 ≤ x ∧ x.toNat < a.length ∧ at? D x.toNat = true
  dis : ∀ k l, k < C.length → l < C.length → ∀ x, x ∈ nthr C k → x ∈ nthr C l → k = l
  cov : ∀ i, i < a.length → at? D i = true → ∃ k, k < C.length ∧ (i : Int) ∈ nthr C k
  clo : ∀ k, k < C.length → ∀ x ∈ nthr C k, nth a x.toNat ∈ nthr C k
  srt : ∀ k, k < C.length → SortedL (nthr C k)
theorem Comps.stay {a : List Int} {D E : List Bool} {C : List (List Int)} {i : Nat} (h : Comps a D C) (h1 : Cyc1 a D i 0 E) : Comps a E C := by
  have e : ∀ j, at? E j = true ↔ at? D j = true := fun j => by
    rw [h1.mark]
    exact ⟨fun h => h.elim id (fun ⟨t, ht, _⟩ => by omega), .inl⟩
  exact ⟨fun k hk x hx => by rw [e]; exact h.mem k hk x hx, h.dis, fun i hi hd => h.cov i hi ((e i).1 hd), h.clo, h.srt⟩
theorem Comps.step {a : List Int} {D E : List Bool} {C : List (List Int)} {L : List Nat} {i k : Nat} {ys : List Int} (ha : IsPerm a) (hi : i < a.length) (h : Comps a D C) (hc : Cyc a D L) (h1 : Cyc1 a D i k E) {L' : List Nat} (hc2 : Cyc a E L')
    (hp : ys.Perm (orb a i k)) (hs : SortedL ys) : Comps a E (C ++ [ys]) := by
  have hm : ∀ x, x ∈ ys ↔ ∃ t, t < k ∧ ((itr a t i : Nat) : Int) = x := fun x => by rw [hp.mem_iff, mem_orb]
  have hlt : ∀ t, itr a t i < a.length := fun t => itr_lt ha t hi
  have hl : (C ++ [ys]).length = C.length + 1 := by simp
  refine ⟨fun j hj x hx => ?_, fun j l hj hl' x hx hx' => ?_, fun j hj hjm => ?_, fun j hj x hx => ?_, fun j hj => ?_⟩
  · rw [nthr_snocL] at hx
    by_cases e : j = C.length
    · rw [if_pos e] at hx
      obtain ⟨t, ht, rfl⟩ := (hm x).1 hx
      refine ⟨by omega, by simpa using hlt t, ?_⟩
      simp only [Int.toNat_natCast]
      exact (h1.mark _).2 (.inr ⟨t, ht, rfl⟩)
    · rw [if_neg e] at hx
      obtain ⟨h2, h3, h4⟩ := h.mem j (by omega) x hx
      exact ⟨h2, h3, (h1.mark _).2 (.inl h4)⟩
  · rw [nthr_snocL] at hx hx'
    have key : ∀ j, j < C.length → ∀ x, x ∈ nthr C j → ¬ x ∈ ys := fun j hj x hx hy => by
      obtain ⟨t, ht, rfl⟩ := (hm x).1 hy
      have := (h.mem j hj _ hx).2.2
      simp only [Int.toNat_natCast] at this
      rw [h1.new t ht] at this; cases this
    by_cases e : j = C.length <;> by_cases e' : l = C.length
    · omega
    · rw [if_pos e] at hx; rw [if_neg e'] at hx'
      exact absurd hx (key l (by omega) x hx')
    · rw [if_neg e] at hx; rw [if_pos e'] at hx'
      exact absurd hx' (key j (by omega) x hx)
    · rw [if_neg e] at hx; rw [if_neg e'] at hx'
      exact h.dis j l (by omega) (by omega) x hx hx'
  · rcases (h1.mark j).1 hjm with h2 | ⟨t, ht, he⟩
    · obtain ⟨l, hl', hx⟩ := h.cov j hj h2
      exact ⟨l, by omega, by rw [nthr_snocL, if_neg (by omega)]; exact hx⟩
    · exact ⟨C.length, by omega, by rw [nthr_snocL, if_pos rfl]; exact (hm _).2 ⟨t, ht, by rw [he]⟩⟩
  · rw [nthr_snocL] at hx ⊢
    by_cases e : j = C.length
    · rw [if_pos e] at hx ⊢
      obtain ⟨t, ht, rfl⟩ := (hm x).1 hx
      simp only [Int.toNat_natCast]
      have hr := ha.range _ (nth_mem (hlt t))
      have h2 := hc2.forth (itr a t i) (hlt t) ((h1.mark _).2 (.inr ⟨t, ht, rfl⟩))
      rcases (h1.mark _).1 h2 with h3 | ⟨s, hs', he⟩
      · have := hc.back _ (hlt t) h3
        rw [h1.new t ht] at this; cases this
      · exact (hm _).2 ⟨s, hs', by rw [he]; omega⟩
    · rw [if_neg e] at hx ⊢
      exact h.clo j (by omega) x hx
  · rw [nthr_snocL]
    by_cases e : j = C.length
    · rw [if_pos e]; exact hs
    · rw [if_neg e]; exact h.srt j (by omega)

end Go.Proofs.Ytplekfgadbjgdaa

namespace Go.Proofs.Ytplekfgadbjgdaa
open Go.RowKit Go.Sl

def matI (N : Nat) (F : Nat → Nat → Int) : List (List Int) := (List.range N).map fun u => (List.range N).map fun v => F u v
theorem matI_length (N : Nat) (F : Nat → Nat → Int) : (matI N F).length = N := by simp [matI]
theorem nthr_matI {N : Nat} {F : Nat → Nat → Int} {u : Nat} (h : u < N) : nthr (matI N F) u = (List.range N).map fun v => F u v := by
  rw [nthr_lt (by rw [matI_length]; exact h)]; simp [matI]
theorem nth_row {N : Nat} {f : Nat → Int} {v : Nat} (h : v < N) : nth ((List.range N).map fun v => f v) v = f v := by rw [nth_lt (by simpa using h)]; simp
theorem row_matI_length {N : Nat} {F : Nat → Nat → Int} {u : Nat} (h : u < N) : (nthr (matI N F) u).length = N := by rw [nthr_matI h]; simp
theorem matI_set {N : Nat} {F : Nat → Nat → Int} {a b : Nat} (ha : a < N) (x : Int) : (matI N F).set a ((nthr (matI N F) a).set b x) = matI N (fun u v => if u = a ∧ v = b then x else F u v) := by
  rw [nthr_matI ha]
  refine List.ext_getElem (by simp [matI]) fun i h1 h2 => ?_
  have hi : i < N := by simpa [matI] using h2
  rw [List.getElem_set]
  by_cases e : a = i
  · subst e
    rw [if_pos rfl]
    refine List.ext_getElem (by simp [matI]) fun j h3 h4 => ?_
    rw [List.getElem_set]
    by_cases e2 : b = j
    · subst e2; simp [matI]
    · simp [matI, e2, Ne.symm e2]
  · rw [if_neg e]; simp [matI, Ne.symm e]
theorem matI_congr {N : Nat} {F G : Nat → Nat → Int} (h : ∀ u v, u < N → v < N → F u v = G u v) : matI N F = matI N G := by
  unfold matI
  refine List.map_congr_left fun u hu => List.map_congr_left fun v hv => h u v (List.mem_range.1 hu) (List.mem_range.1 hv)
/-- Rows stored one by one into a slice that is there. -/
structure IPart (W : World) (B : Nat) (v : Value) (vs : List Value) (xss : List (List Int)) : Prop where
  own : Go.Sl.Own W B 22 1 v vs
  len : xss.length ≤ vs.length
  row : ∀ i, i < xss.length → OwnI W B (nthv vs i) (nthr xss i)
  pos : ∀ i, i < xss.length → 0 < (nthr xss i).length
  each : ∀ i j, i < j → j < xss.length → vblk (nthv vs i) ≠ vblk (nthv vs j)
section
variable {W W' : World} {B : Nat} {v : Value} {vs : List Value} {xss : List (List Int)}
theorem IPart.below (h : IPart W B v vs xss) (hb : Below W.heap.size W W') : IPart W' B v vs xss := ⟨h.own.below hb, h.len, fun i hi => (h.row i hi).below hb, h.pos, h.each⟩
theorem IPart.but (h : IPart W B v vs xss) {D : Nat} (hD : D < B) (hg : W.grownBy W' (some D)) : IPart W' B v vs xss :=
  ⟨h.own.grown hg fun k hk e => by have := (h.own.lt k hk).1; injection e; omega, h.len, fun i hi => (h.row i hi).grown hg fun k hk e => by have := ((h.row i hi).lt k hk).1; injection e; omega, h.pos, h.each⟩
theorem iPart_start (h : Go.Sl.Own W B 22 1 v vs) : IPart W B v vs [] := ⟨h, by simp, fun i hi => absurd hi (by simp), fun i hi => absurd hi (by simp), fun i j _ hj => absurd hj (by simp)⟩
theorem nthv_setL {vs : List Value} {i j : Nat} {q : Value} (h : i < vs.length) : nthv (vs.set j q) i = if i = j then q else nthv vs i := by
  rw [nthv_lt (by simp; exact h), nthv_lt h, List.getElem_set]
  by_cases e : j = i
  · rw [if_pos e, if_pos e.symm]
  · rw [if_neg e, if_neg (Ne.symm e)]
theorem IPart.setRow (h : IPart W B v vs xss) {r : Value} {ys : List Int} (hl : xss.length < vs.length) (hr : OwnI W B r ys) (h0 : 0 < ys.length) (hnew : ∀ i, i < xss.length → vblk (nthv vs i) ≠ vblk r) :
    IPart (W.setCell (vat v xss.length) r) B v (vs.set xss.length r) (xss ++ [ys]) := by
  have hrv : Go.Sl.row v = some (vblk v) := row_some (by have := h.own.2.1; have := h.own.1.le; omega)
  have keep : ∀ {x : Value} {zs : List Int}, OwnI W B x zs → OwnI (W.setCell (vat v xss.length) r) B x zs := fun {x zs} hx =>
    hx.setOther (fun k hk e => own_twoT (Ne.symm ints_ne_int) hx h.own k hk (by rw [hrv, ← e, vat_block])) _
  refine ⟨h.own.set hl r, by simp; omega, fun i hi => ?_, fun i hi => ?_, fun i j hij hj => ?_⟩
  · rw [List.length_append] at hi; simp only [List.length_cons, List.length_nil] at hi
    rw [nthv_setL (by omega), nthr_snocL]
    by_cases e : i = xss.length
    · rw [if_pos e, if_pos e]; exact keep hr
    · rw [if_neg e, if_neg e]; exact keep (h.row i (by omega))
  · rw [List.length_append] at hi; simp only [List.length_cons, List.length_nil] at hi
    rw [nthr_snocL]
    by_cases e : i = xss.length
    · rw [if_pos e]; exact h0
    · rw [if_neg e]; exact h.pos i (by omega)
  · rw [List.length_append] at hj; simp only [List.length_cons, List.length_nil] at hj
    rw [nthv_setL (by omega), nthv_setL (by omega), if_neg (by omega)]
    by_cases e : j = xss.length
    · rw [if_pos e]; exact hnew i (by omega)
    · rw [if_neg e]; exact h.each i j hij (by omega)
theorem IPart.ro (h : IPart W B v vs xss) (hl : vs.length = xss.length) : RO W B v vs xss := by
  refine ⟨h.own, hl, h.row, h.pos, fun i hi e => ?_, h.each⟩
  have hrow : Go.Sl.row (nthv vs i) = some (vblk (nthv vs i)) := row_some (by have := (h.row i hi).ints.cap; have := h.pos i hi; omega)
  exact own_twoT (Ne.symm ints_ne_int) (h.row i hi) h.own _ hrow e
end
theorem RO.setFree {W : World} {B : Nat} {u : Value} {vs : List Value} {xss : List (List Int)} (h : RO W B u vs xss) {p : Addr} (hu : ∀ b, Go.Sl.row u = some b → p.block ≠ b) (hr : ∀ i, i < xss.length → p.block ≠ vblk (nthv vs i)) (x : Value) : RO (W.setCell p x) B u vs xss :=
  ⟨h.own.setOther hu _, h.len, fun i hi => (h.row i hi).setOther (fun b hb e => by rw [h.rowAt hi] at hb; exact hr i hi (by rw [e]; exact (Option.some.inj hb).symm)) _, h.pos, h.apart, h.each⟩
theorem zeros_matI (N k : Nat) (hk : k < N) : (matI N fun _ _ => 0).take k ++ [List.replicate N 0] = (matI N fun _ _ => 0).take (k + 1) := by
  rw [List.take_succ_eq_append_getElem (by rw [matI_length]; exact hk)]
  congr 2
  simp [matI, List.map_const']

end Go.Proofs.Ytplekfgadbjgdaa

