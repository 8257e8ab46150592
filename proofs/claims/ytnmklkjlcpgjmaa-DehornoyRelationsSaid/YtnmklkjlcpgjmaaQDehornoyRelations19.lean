/- Slices of the call's own that need not begin at the head of their block: read, stored into, cut, appended to. -/
import Derived.Test.YtnmklkjlcpgjmaaQDehornoyRelations0
import Derived.Test.YtnmklkjlcpgjmaaQDehornoyRelations1
import Derived.Test.YtnmklkjlcpgjmaaQDehornoyRelations2
import Derived.Test.YtnmklkjlcpgjmaaQDehornoyRelations3
import Derived.Test.YtnmklkjlcpgjmaaQDehornoyRelations8
import Derived.Test.YtnmklkjlcpgjmaaQDehornoyRelations9
import Derived.Test.YtnmklkjlcpgjmaaQDehornoyRelations10
import Derived.Test.YtnmklkjlcpgjmaaQDehornoyRelations11
import Derived.Test.YtnmklkjlcpgjmaaQDehornoyRelations12
import Derived.Test.YtnmklkjlcpgjmaaQDehornoyRelations13
import Derived.Test.YtnmklkjlcpgjmaaQDehornoyRelations15
import Derived.Lib.SliceRun
import Derived.ArgAppend
import Derived.Deep.RegionLaw
namespace Go.Proofs.Ytnmklkjlcpgjmaa
open Go.RowKit Go.Sl

theorem letter_bw {top : Int} (h : 0 < top) (x : Int) : letterOf top x ≠ 0 ∧ -top ≤ letterOf top x ∧ letterOf top x ≤ top := by
  have h1 := Int.emod_nonneg x (b := 2 * top) (by omega)
  have h2 := Int.emod_lt_of_pos x (b := 2 * top) (by omega)
  unfold letterOf
  split <;> omega
theorem wordL_bw {n : Int} (h : 1 < n) (raw : List Int) (most : Nat) : BWord n (wordL (n - 1) raw most) := by
  intro x hx
  obtain ⟨y, _, rfl⟩ := List.mem_map.1 hx
  have := letter_bw (top := n - 1) (by omega) y
  omega

end Go.Proofs.Ytnmklkjlcpgjmaa

namespace Go.Proofs.Ytnmklkjlcpgjmaa
open Go.RowKit Go.Sl

/-- The head of one's own slice, the room behind it kept. -/
theorem own_head {w : World} {B : Nat} {v : Value} {xs : List Int} {k : Nat} (h : OwnI w B v xs) (hk : k ≤ xs.length) (hp : 0 < xs.length) : OwnI w B (vcut v 0 k (vcap v) 1) (xs.take k) ∧ row (vcut v 0 k (vcap v) 1) = row v := by
  have hl := h.len
  have hcap := h.ints.cap
  obtain ⟨hB, ho', cur, hg, hcs, htake⟩ := h.2.2 (by omega)
  obtain ⟨a, n, c, rfl, hn, hc, ha⟩ := h.isSl.cases
  rw [vcap_mk] at hcap hcs
  have hnl : xs.length = n := by simpa [vlen_mk] using hl.symm
  obtain ⟨g, o, rfl⟩ := ha (by omega)
  have ho'' : o = 0 := ho'
  subst ho''
  have hcut : vcut (.slice (some ⟨g, 0, none⟩) n c) 0 k (vcap (.slice (some ⟨g, 0, none⟩) n c)) 1 = .slice (some ⟨g, 0, none⟩) k c := by
    have hne : ¬ c = 0 := by omega
    simp [vcut, hne, Addr.add_lit]
  rw [hcut]
  refine ⟨⟨isSl_mk _ _ _ _ (by omega) hc, by simp; omega, fun _ => ⟨hB, rfl, cur, hg, by rw [vcap_mk]; omega, ?_⟩⟩, ?_⟩
  · have e : ((xs.take k).map (Value.int .i64)).length = k := by simp; omega
    rw [e, List.map_take, ← htake, List.take_take, List.length_map, Nat.min_eq_left hk]
  · rw [row_some (by rw [vcap_mk]; omega), row_some (by rw [vcap_mk]; omega)]; rfl

theorem psh_out {out : List Int} (s : List Int) (x : Int) (h : out = s.reverse) :
    (psh s x).reverse = if 0 < out.length ∧ nth out (out.length - 1) = -x then out.take (out.length - 1) else out ++ [x] := by
  subst h
  cases s with
  | nil => simp [psh]
  | cons y t =>
    have h1 : nth (y :: t).reverse ((y :: t).reverse.length - 1) = y := by
      rw [nth_lt (by simp)]; simp
    have h2 : (y :: t).reverse.take ((y :: t).reverse.length - 1) = t.reverse := by simp
    rw [h1, h2, psh]
    by_cases hy : y = -x
    · rw [if_pos hy, if_pos ⟨by simp, hy⟩]
    · rw [if_neg hy, if_neg (fun h => hy h.2)]; simp

end Go.Proofs.Ytnmklkjlcpgjmaa

namespace Go.Proofs.Ytnmklkjlcpgjmaa
open Go.RowKit Go.Sl

theorem IsWord.small {xs : List Int} (h : IsWord xs) : ∀ x ∈ xs, -1000 ≤ x ∧ x ≤ 1000 := fun x hx => by have := h x hx; omega
theorem IsWord.inv {xs : List Int} (h : IsWord xs) : IsWord (invL xs) := by
  intro x hx
  simp only [invL, List.mem_reverse, List.mem_map] at hx
  obtain ⟨y, hy, rfl⟩ := hx
  have := h y hy
  omega
theorem IsWord.red {xs : List Int} (h : IsWord xs) : IsWord (redL xs) := fun x hx => h x (redL_mem hx)
theorem IsWord.append {xs ys : List Int} (h : IsWord xs) (k : IsWord ys) : IsWord (xs ++ ys) := fun x hx => (List.mem_append.1 hx).elim (h x) (k x)
end Go.Proofs.Ytnmklkjlcpgjmaa

namespace Go.Proofs.Ytnmklkjlcpgjmaa
open Go.RowKit Go.Sl

/-- The call's own slice of the call's own rows, none empty, each in a block of its own. -/
structure RO (W : World) (B : Nat) (v : Value) (vs : List Value) (xss : List (List Int)) : Prop where
  own : Go.Sl.Own W B 22 1 v vs
  len : vs.length = xss.length
  row : ∀ i, i < xss.length → OwnI W B (nthv vs i) (nthr xss i)
  pos : ∀ i, i < xss.length → 0 < (nthr xss i).length
  apart : ∀ i, i < xss.length → Go.Sl.row v ≠ some (vblk (nthv vs i))
  each : ∀ i j, i < j → j < xss.length → vblk (nthv vs i) ≠ vblk (nthv vs j)
section
variable {W W' : World} {B : Nat} {u r : Value} {vs : List Value} {xss : List (List Int)} {ys : List Int}
theorem RO.rows (h : RO W B u vs xss) : RowsV W u vs xss := ⟨h.own.sl, h.len, fun i hi => (h.row i hi).ints⟩
theorem RO.below (h : RO W B u vs xss) (hb : Below W.heap.size W W') : RO W' B u vs xss := ⟨h.own.below hb, h.len, fun i hi => (h.row i hi).below hb, h.pos, h.apart, h.each⟩
theorem RO.low {B' : Nat} (h : RO W B u vs xss) (hB : B' ≤ B) : RO W B' u vs xss := ⟨h.own.low hB, h.len, fun i hi => (h.row i hi).low hB, h.pos, h.apart, h.each⟩
theorem RO.rowAt (h : RO W B u vs xss) {i : Nat} (hi : i < xss.length) : Go.Sl.row (nthv vs i) = some (vblk (nthv vs i)) := row_some (by have := (h.row i hi).ints.cap; have := h.pos i hi; omega)
theorem RO.blk (h : RO W B u vs xss) {i : Nat} (hi : i < xss.length) : B ≤ vblk (nthv vs i) ∧ vblk (nthv vs i) < W.heap.size := (h.row i hi).lt _ (h.rowAt hi)
end
end Go.Proofs.Ytnmklkjlcpgjmaa

namespace Go.Proofs.Ytnmklkjlcpgjmaa
open Go.RowKit Go.Sl

/-- The slice is the call's own: its cells lie somewhere in a block from B on that is not frozen. -/
def OwnG (w : World) (B : Nat) (e : TypeId) (v : Value) (cs : List Value) : Prop :=
  IsSl v ∧ cs.length = vlen v ∧ (0 < vcap v → B ≤ vblk v ∧ ∃ cur, w.heap[vblk v]? = some (.cells cur e (0, 0)) ∧ voff v + vcap v ≤ cur.size ∧ ∀ j, j < cs.length → cur[voff v + j]? = cs[j]?)
section
variable {w w' : World} {B : Nat} {e : TypeId} {v : Value} {cs : List Value}
theorem OwnG.isSl (h : OwnG w B e v cs) : IsSl v := h.1
theorem OwnG.len (h : OwnG w B e v cs) : vlen v = cs.length := h.2.1.symm
theorem OwnG.cap_of (h : OwnG w B e v cs) {j : Nat} (hj : j < cs.length) : 0 < vcap v := by have := h.1.le; have := h.2.1; omega
theorem OwnG.cell (h : OwnG w B e v cs) {j : Nat} (hj : j < cs.length) : w.cell? (vat v j) = some cs[j] := by
  obtain ⟨_, cur, hh, _, hc⟩ := h.2.2 (h.cap_of hj)
  have := hc j hj
  rw [List.getElem?_eq_getElem hj] at this
  simp [World.cell?, vat, hh, this]
theorem OwnG.sl (h : OwnG w B e v cs) : Sl w v 1 cs := by
  refine ⟨h.1, by have := h.2.1; omega, fun j u hu => ?_⟩
  have hj := (List.getElem?_eq_some_iff.1 hu).1
  rw [h.cell hj]
  rw [List.getElem?_eq_getElem hj] at hu
  exact hu
theorem OwnG.frozen (h : OwnG w B e v cs) {j : Nat} (hj : j < vcap v) : w.frozen? (vat v j) = false := by
  obtain ⟨_, cur, hh, _⟩ := h.2.2 (by omega)
  simp [World.frozen?, vat, hh]
theorem OwnG.there (h : OwnG w B e v cs) {j : Nat} (hj : j < vcap v) : (w.cell? (vat v j)).isSome = true := by
  obtain ⟨_, cur, hh, hs, _⟩ := h.2.2 (by omega)
  simp [World.cell?, vat, hh]
  omega
theorem OwnG.ge (h : OwnG w B e v cs) (h0 : 0 < vcap v) (j : Nat) : B ≤ (vat v j).block := (h.2.2 h0).1
theorem OwnG.lt (h : OwnG w B e v cs) : ∀ k, row v = some k → B ≤ k ∧ k < w.heap.size := by
  intro k hk
  obtain ⟨h0, rfl⟩ := row_eq hk
  obtain ⟨hB, cur, hh, _⟩ := h.2.2 h0
  exact ⟨hB, (Array.getElem?_eq_some_iff.1 hh).1⟩
theorem OwnG.low (h : OwnG w B e v cs) {B' : Nat} (hB : B' ≤ B) : OwnG w B' e v cs := ⟨h.1, h.2.1, fun h0 => let ⟨a, b⟩ := h.2.2 h0; ⟨Nat.le_trans hB a, b⟩⟩
theorem OwnG.of_block (h : OwnG w B e v cs) (hb : ∀ k, row v = some k → w'.heap[k]? = w.heap[k]?) : OwnG w' B e v cs :=
  ⟨h.1, h.2.1, fun h0 => by
    obtain ⟨a, cur, c, d⟩ := h.2.2 h0
    exact ⟨a, cur, by rw [hb _ (row_some h0)]; exact c, d⟩⟩
theorem OwnG.below (h : OwnG w B e v cs) (hb : Below w.heap.size w w') : OwnG w' B e v cs := h.of_block fun k hk => hb.block _ (h.lt k hk).2
theorem OwnG.alloc (h : OwnG w B e v cs) (o : Obj) : OwnG (w.alloc o) B e v cs := h.of_block fun k hk => Below.heap_alloc w o _ (h.lt k hk).2
theorem OwnG.setOther (h : OwnG w B e v cs) {p : Addr} (hp : ∀ k, row v = some k → p.block ≠ k) (u : Value) : OwnG (w.setCell p u) B e v cs :=
  h.of_block fun k hk => Below.heap_setCell w p u k (fun e => hp k hk e.symm)
theorem OwnG.grown (h : OwnG w B e v cs) {r : Option Nat} (hg : w.grownBy w' r) (hr : ∀ k, row v = some k → r ≠ some k) : OwnG w' B e v cs :=
  h.of_block fun k hk => hg.block _ (h.lt k hk).2 (fun e => hr k hk e.symm)
theorem OwnG.set (h : OwnG w B e v cs) {j : Nat} (hj : j < cs.length) (u : Value) : OwnG (w.setCell (vat v j) u) B e v (cs.set j u) := by
  refine ⟨h.1, by rw [List.length_set]; exact h.2.1, fun h0 => ?_⟩
  obtain ⟨hB, cur, hh, hs, hc⟩ := h.2.2 h0
  have hle := h.1.le
  have hl := h.2.1
  refine ⟨hB, cur.setIfInBounds (voff v + j) u, ?_, by simpa using hs, fun i hi => ?_⟩
  · simp [World.setCell, vat, Array.getElem?_modify, hh]
  · rw [List.length_set] at hi
    by_cases e1 : i = j
    · subst e1
      rw [Array.getElem?_setIfInBounds_self_of_lt (by omega), List.getElem?_set_self hj]
    · rw [Array.getElem?_setIfInBounds_ne (by omega), List.getElem?_set_ne (fun e => e1 e.symm)]
      exact hc i hi
/-- The slice without its first element. -/
theorem OwnG.tail {c : Value} (h : OwnG w B e v (c :: cs)) : OwnG w B e (vcut v 1 (vlen v) (vcap v) 1) cs := by
  have hl := h.2.1
  have hle := h.1.le
  rw [List.length_cons] at hl
  refine ⟨isSl_cut h.1 (by omega) hle (Nat.le_refl _), by rw [vlen_cut]; omega, fun h0 => ?_⟩
  rw [vcap_cut] at h0
  obtain ⟨hB, cur, hh, hs, hc⟩ := h.2.2 (by omega)
  have h1 := vat_cut h.1 (l := 1) (h := vlen v) (m := vcap v) (s := 1) 0 (by omega) (Nat.le_refl _)
  have eb : vblk (vcut v 1 (vlen v) (vcap v) 1) = vblk v := by have := congrArg Addr.block h1; rwa [vat_block, vat_block] at this
  have eo : voff (vcut v 1 (vlen v) (vcap v) 1) = voff v + 1 := by
    have := congrArg Addr.off h1
    simpa [vat] using this
  refine ⟨by rw [eb]; exact hB, cur, by rw [eb]; exact hh, by rw [eo, vcap_cut]; omega, fun j hj => ?_⟩
  rw [eo, show voff v + 1 + j = voff v + (j + 1) by omega, hc (j + 1) (by simp; omega)]
  simp
/-- The slice's first k elements. -/
theorem OwnG.head (h : OwnG w B e v cs) {k : Nat} (hk : k ≤ cs.length) : OwnG w B e (vcut v 0 k (vcap v) 1) (cs.take k) := by
  have hl := h.2.1
  have hle := h.1.le
  refine ⟨isSl_cut h.1 (by omega) (by omega) (Nat.le_refl _), by rw [vlen_cut, List.length_take]; omega, fun h0 => ?_⟩
  rw [vcap_cut] at h0
  obtain ⟨hB, cur, hh, hs, hc⟩ := h.2.2 (by omega)
  have h1 := vat_cut h.1 (l := 0) (h := k) (m := vcap v) (s := 1) 0 (by omega) (Nat.le_refl _)
  have eb : vblk (vcut v 0 k (vcap v) 1) = vblk v := by have := congrArg Addr.block h1; rwa [vat_block, vat_block] at this
  have eo : voff (vcut v 0 k (vcap v) 1) = voff v := by
    have := congrArg Addr.off h1
    simpa [vat] using this
  refine ⟨by rw [eb]; exact hB, cur, by rw [eb]; exact hh, by rw [eo, vcap_cut]; omega, fun j hj => ?_⟩
  rw [List.length_take] at hj
  rw [eo, hc j (by omega), List.getElem?_take, if_pos (by omega)]
end

end Go.Proofs.Ytnmklkjlcpgjmaa

