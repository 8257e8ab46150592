/- Arguments as data: what a slice of ints or an int that came in reads as. -/
import Derived.Test.YtplekfgadbjgdaaQDehornoySigns0
import Derived.Test.YtplekfgadbjgdaaQDehornoySigns1
import Derived.Test.YtplekfgadbjgdaaQDehornoySigns2
import Derived.Test.YtplekfgadbjgdaaQDehornoySigns5
import Derived.Test.YtplekfgadbjgdaaQDehornoySigns8
import Derived.Lib.SliceRun
import Derived.ArgAppend
import Derived.ProofKit
import Derived.OpenShut
namespace Go.Proofs.Ytplekfgadbjgdaa
open Go.RowKit Go.Sl

/-- The slice is the call's own: its cells lie somewhere in a block from B on that is not frozen. -/
def OwnG (w : World) (B : Nat) (e : TypeId) (v : Value) (cs : List Value) : Prop :=
  IsSl v ∧ cs.length = vlen v ∧ (0 < vcap v → B ≤ vblk v ∧ ∃ cur, w.heap[vblk v]? = some (.cells cur e (0, 0)) ∧ voff v + vcap v ≤ cur.size ∧ ∀ j, j < cs.length → cur[voff v + j]? = cs[j]?)
section
variable {w w' : World} {B : Nat} {e : TypeId} {v : Value} {cs : List Value}
theorem OwnG.isSl (h : OwnG w B e v cs) : IsSl v := h.1
theorem OwnG.len (h : OwnG w B e v cs) : vlen v = cs.length := h.2.1.symm
theorem OwnG.cap_of (h : OwnG w B e v cs) {j : Nat} (hj : j < cs.length) : 0 < vcap v := by have := h.1.le; have := h.2.1; omega
theorem ownG_nil (w : World) (B : Nat) (e : TypeId) : OwnG w B e (.slice none 0 0) [] := ⟨isSl_nil, by simp, by simp⟩
theorem own_G (h : Own w B e 1 v cs) : OwnG w B e v cs := by
  refine ⟨h.1, by have := h.2.1; omega, fun h0 => ?_⟩
  obtain ⟨a, b, cur, c, d, f⟩ := h.2.2 h0
  refine ⟨a, cur, c, by omega, fun j hj => ?_⟩
  have h1 : (cur.toList.take cs.length)[j]? = cs[j]? := by rw [f]
  rw [List.getElem?_take, if_pos hj] at h1
  rw [b, Nat.zero_add]
  simpa using h1
theorem OwnG.cell (h : OwnG w B e v cs) {j : Nat} (hj : j < cs.length) : w.cell? (vat v j) = some cs[j] := by
  obtain ⟨_, cur, hh, _, hc⟩ := h.2.2 (h.cap_of hj)
  have := hc j hj
  rw [List.getElem?_eq_getElem hj] at this
  simp [World.cell?, vat, hh, this]
theorem OwnG.sl (h : OwnG w B e v cs) : Sl w v 1 cs := by
  refine ⟨h.1, by have := h.2.1; omega, fun j u hu => ?_⟩
  have hj := (List.getElem?_eq_some_iff.1 hu).1
  rw [h.cell hj]
  rw [List.getElem?_eq_getElem hj] at hu
  exact hu
theorem OwnG.frozen (h : OwnG w B e v cs) {j : Nat} (hj : j < vcap v) : w.frozen? (vat v j) = false := by
  obtain ⟨_, cur, hh, _⟩ := h.2.2 (by omega)
  simp [World.frozen?, vat, hh]
theorem OwnG.there (h : OwnG w B e v cs) {j : Nat} (hj : j < vcap v) : (w.cell? (vat v j)).isSome = true := by
  obtain ⟨_, cur, hh, hs, _⟩ := h.2.2 (by omega)
  simp [World.cell?, vat, hh]
  omega
theorem OwnG.ge (h : OwnG w B e v cs) (h0 : 0 < vcap v) (j : Nat) : B ≤ (vat v j).block := (h.2.2 h0).1
theorem OwnG.lt (h : OwnG w B e v cs) : ∀ k, row v = some k → B ≤ k ∧ k < w.heap.size := by
  intro k hk
  obtain ⟨h0, rfl⟩ := row_eq hk
  obtain ⟨hB, cur, hh, _⟩ := h.2.2 h0
  exact ⟨hB, (Array.getElem?_eq_some_iff.1 hh).1⟩
theorem OwnG.low (h : OwnG w B e v cs) {B' : Nat} (hB : B' ≤ B) : OwnG w B' e v cs := ⟨h.1, h.2.1, fun h0 => let ⟨a, b⟩ := h.2.2 h0; ⟨Nat.le_trans hB a, b⟩⟩
theorem OwnG.of_block (h : OwnG w B e v cs) (hb : ∀ k, row v = some k → w'.heap[k]? = w.heap[k]?) : OwnG w' B e v cs :=
  ⟨h.1, h.2.1, fun h0 => by
    obtain ⟨a, cur, c, d⟩ := h.2.2 h0
    exact ⟨a, cur, by rw [hb _ (row_some h0)]; exact c, d⟩⟩
theorem OwnG.below (h : OwnG w B e v cs) (hb : Below w.heap.size w w') : OwnG w' B e v cs := h.of_block fun k hk => hb.block _ (h.lt k hk).2
theorem OwnG.alloc (h : OwnG w B e v cs) (o : Obj) : OwnG (w.alloc o) B e v cs := h.of_block fun k hk => Below.heap_alloc w o _ (h.lt k hk).2
theorem OwnG.setOther (h : OwnG w B e v cs) {p : Addr} (hp : ∀ k, row v = some k → p.block ≠ k) (u : Value) : OwnG (w.setCell p u) B e v cs :=
  h.of_block fun k hk => Below.heap_setCell w p u k (fun e => hp k hk e.symm)
theorem OwnG.grown (h : OwnG w B e v cs) {r : Option Nat} (hg : w.grownBy w' r) (hr : ∀ k, row v = some k → r ≠ some k) : OwnG w' B e v cs :=
  h.of_block fun k hk => hg.block _ (h.lt k hk).2 (fun e => hr k hk e.symm)
theorem OwnG.set (h : OwnG w B e v cs) {j : Nat} (hj : j < cs.length) (u : Value) : OwnG (w.setCell (vat v j) u) B e v (cs.set j u) := by
  refine ⟨h.1, by rw [List.length_set]; exact h.2.1, fun h0 => ?_⟩
  obtain ⟨hB, cur, hh, hs, hc⟩ := h.2.2 h0
  have hle := h.1.le
  have hl := h.2.1
  refine ⟨hB, cur.setIfInBounds (voff v + j) u, ?_, by simpa using hs, fun i hi => ?_⟩
  · simp [World.setCell, vat, Array.getElem?_modify, hh]
  · rw [List.length_set] at hi
    by_cases e1 : i = j
    · subst e1
      rw [Array.getElem?_setIfInBounds_self_of_lt (by omega), List.getElem?_set_self hj]
    · rw [Array.getElem?_setIfInBounds_ne (by omega), List.getElem?_set_ne (fun e => e1 e.symm)]
      exact hc i hi
/-- The slice without its first element. -/
theorem OwnG.tail {c : Value} (h : OwnG w B e v (c :: cs)) : OwnG w B e (vcut v 1 (vlen v) (vcap v) 1) cs := by
  have hl := h.2.1
  have hle := h.1.le
  rw [List.length_cons] at hl
  refine ⟨isSl_cut h.1 (by omega) hle (Nat.le_refl _), by rw [vlen_cut]; omega, fun h0 => ?_⟩
  rw [vcap_cut] at h0
  obtain ⟨hB, cur, hh, hs, hc⟩ := h.2.2 (by omega)
  have h1 := vat_cut h.1 (l := 1) (h := vlen v) (m := vcap v) (s := 1) 0 (by omega) (Nat.le_refl _)
  have eb : vblk (vcut v 1 (vlen v) (vcap v) 1) = vblk v := by have := congrArg Addr.block h1; rwa [vat_block, vat_block] at this
  have eo : voff (vcut v 1 (vlen v) (vcap v) 1) = voff v + 1 := by
    have := congrArg Addr.off h1
    simpa [vat] using this
  refine ⟨by rw [eb]; exact hB, cur, by rw [eb]; exact hh, by rw [eo, vcap_cut]; omega, fun j hj => ?_⟩
  rw [eo, show voff v + 1 + j = voff v + (j + 1) by omega, hc (j + 1) (by simp; omega)]
  simp
/-- The slice's first k elements. -/
theorem OwnG.head (h : OwnG w B e v cs) {k : Nat} (hk : k ≤ cs.length) : OwnG w B e (vcut v 0 k (vcap v) 1) (cs.take k) := by
  have hl := h.2.1
  have hle := h.1.le
  refine ⟨isSl_cut h.1 (by omega) (by omega) (Nat.le_refl _), by rw [vlen_cut, List.length_take]; omega, fun h0 => ?_⟩
  rw [vcap_cut] at h0
  obtain ⟨hB, cur, hh, hs, hc⟩ := h.2.2 (by omega)
  have h1 := vat_cut h.1 (l := 0) (h := k) (m := vcap v) (s := 1) 0 (by omega) (Nat.le_refl _)
  have eb : vblk (vcut v 0 k (vcap v) 1) = vblk v := by have := congrArg Addr.block h1; rwa [vat_block, vat_block] at this
  have eo : voff (vcut v 0 k (vcap v) 1) = voff v := by
    have := congrArg Addr.off h1
    simpa [vat] using this
  refine ⟨by rw [eb]; exact hB, cur, by rw [eb]; exact hh, by rw [eo, vcap_cut]; omega, fun j hj => ?_⟩
  rw [List.length_take] at hj
  rw [eo, hc j (by omega), List.getElem?_take, if_pos (by omega)]
end

/-- append of one row. -/
theorem run_pushG {w : World} (ty : TypeId) {B : Nat} {v u : Value} {cs : List Value} (hown : OwnG w B 22 v cs) (hu : IsSl u) (hB : B ≤ w.heap.size) (hlen : cs.length ≤ 1000000) :
    ∃ v' w', (Builtin.append_ #[24, 24] ty #[v, .slice (some ⟨w.heap.size, 0, none⟩) 1 1]).run Try.prog (w.alloc (.cells #[u] 22)) = .ok v' w' ∧
      OwnG w' B 22 v' (cs ++ [u]) ∧ w.grownBy w' (row v) ∧ (∀ k, row v' = some k → row v = some k ∨ w.heap.size ≤ k) ∧ IsSl v' := by
  obtain ⟨i, hi, hz0, hz1, hz2⟩ := info_parts info_slice
  have hl := hown.2.1
  have h1u : ∀ x ∈ [u], x.oneCell' = true := by intro x hx; simp at hx; subst hx; exact oneCell'_sl hu
  have hnews : ∀ j x, [u][j]? = some x → (w.alloc (.cells #[u] 22)).cell? ((⟨w.heap.size, 0, none⟩ : Addr).add j) = some x := by
    intro j x hx
    have := (sl_one w u 22).2.2 j x hx
    rw [vat_mk] at this
    rw [Addr.add_lit]; exact this
  have hown' := hown.alloc (.cells #[u] 22)
  have gal : ∀ {w2 : World} {r : Option Nat}, (w.alloc (.cells #[u] 22)).grownBy w2 r → w.grownBy w2 r := by
    intro w2 r hg
    exact ⟨hg.os, hg.tape, hg.output, by have := hg.size; simp at this; omega, fun k hk hr => (hg.block k (by simp; omega) hr).trans (Below.heap_alloc w _ k hk)⟩
  by_cases hnil : vcap v = 0
  · -- no room, no cells: nil, or an empty slice
    have hcs : cs = [] := List.eq_nil_of_length_eq_zero (by have := hown.1.le; omega)
    subst hcs
    obtain ⟨a, n, c, rfl, hn, hc, ha⟩ := hown.1.cases
    simp only [vcap_mk, vlen_mk, List.length_nil] at hnil hl
    subst hnil
    obtain rfl : n = 0 := hl.symm
    have hx := sl_one w u 22
    obtain ⟨v', w', hr, ho, hg, hrow⟩ := run_append_sl (P := Try.prog) (w.alloc (.cells #[u] 22)) B 24 ty 22 i _ 1 24 Try.underlying24 hi hz0 hz1 hz2 rfl (by decide)
      (v := .slice a 0 0) (x := .slice (some ⟨w.heap.size, 0, none⟩) 1 1) (cs := []) (news := [u]) ⟨hown.1, by simp, by simp⟩ hx h1u (by simp [maxLen]) (by simp) (by simp; omega)
    have hrow' : ∀ k, row v' = some k → row (.slice a 0 0) = some k ∨ w.heap.size ≤ k := fun k hk => (hrow k hk).imp id (fun h => by simp at h; omega)
    exact ⟨v', w', hr, by simpa using own_G ho, gal hg, hrow', ho.1⟩
  · obtain ⟨a, n, c, rfl, hn, hc, ha⟩ := hown.1.cases
    simp only [vcap_mk, vlen_mk] at hnil hl
    obtain ⟨g, o, rfl⟩ := ha (by omega)
    by_cases hroom : n + 1 ≤ c
    · have hr := run_append_room_cells (P := Try.prog) (w.alloc (.cells #[u] 22)) 24 ty 22 i Try.underlying24 hi g o n c ⟨w.heap.size, 0, none⟩ 1 1 [u] (by rw [hz1]; rfl) hnews h1u hroom
        (by intro j hj; have := hown'.there (j := n + j) (by simp at hj ⊢; omega); rw [vat_mk] at this; rw [hz1, Nat.mul_one, show o + n + j = o + (n + j) by omega]; exact this)
        (by intro j hj; have := hown'.frozen (j := n + j) (by simp at hj ⊢; omega); rw [vat_mk] at this; rw [hz1, Nat.mul_one, show o + n + j = o + (n + j) by omega]; exact this)
      rw [hz1, Nat.mul_one] at hr
      have hset : (w.alloc (.cells #[u] 22)).setCells g (o + n) [u] = (w.alloc (.cells #[u] 22)).setCell ⟨g, o + n, none⟩ u := rfl
      rw [hset] at hr
      refine ⟨_, _, hr, ⟨isSl_mk _ _ _ _ hroom hc, by simp; omega, fun _ => ?_⟩, gal ⟨rfl, rfl, rfl, by simp, fun k _ hk => Below.heap_setCell _ _ _ k (fun e => hk (by rw [row_some (v := .slice (some ⟨g, o, none⟩) n c) (by simp; omega), vblk_mk, e]))⟩, fun k hk => .inl ?_, isSl_mk _ _ _ _ hroom hc⟩
      · obtain ⟨hBg, cur, hh, hs, hcc⟩ := hown'.2.2 (by simp; omega)
        have e1 : vblk (.slice (some ⟨g, o, none⟩) n c) = g := rfl
        have e2 : voff (.slice (some ⟨g, o, none⟩) n c) = o := rfl
        have e3 : vblk (.slice (some ⟨g, o, none⟩) (n + 1) c) = g := rfl
        have e4 : voff (.slice (some ⟨g, o, none⟩) (n + 1) c) = o := rfl
        rw [e1] at hBg hh
        rw [e2, vcap_mk] at hs
        rw [e2] at hcc
        rw [e3, e4, vcap_mk]
        refine ⟨hBg, cur.setIfInBounds (o + n) u, by simp only [World.setCell, Array.getElem?_modify, hh]; simp, by simpa using hs, fun j hj => ?_⟩
        rw [List.length_append] at hj
        simp only [List.length_cons, List.length_nil] at hj
        by_cases ej : j = n
        · subst ej
          rw [Array.getElem?_setIfInBounds_self_of_lt (by omega), ← hl]; simp
        · rw [Array.getElem?_setIfInBounds_ne (by omega), hcc j (by omega), List.getElem?_append_left (by omega)]
      · obtain ⟨_, hk⟩ := row_eq hk
        rw [row_some (v := .slice (some ⟨g, o, none⟩) n c) (by simp; omega), vblk_mk]; simpa [vblk] using hk
    · obtain ⟨v', w', hr, ho, hg⟩ := run_append_arg_grows (P := Try.prog) (w.alloc (.cells #[u] 22)) 24 ty 22 i _ 1 24 Try.underlying24 hi hz0 hz1 hz2 rfl (by decide)
        ⟨g, o, none⟩ n c cs (by omega) (by intro j x hx; have := hown'.sl.2.2 j x hx; rw [vat_mk] at this; rw [Addr.add_lit]; exact this) ⟨w.heap.size, 0, none⟩ 1 1 [u] (by simp) hnews (by omega) (by simp only [maxLen]; omega) (by omega)
      obtain ⟨hol, ho⟩ := ho
      rcases ho with ⟨rfl, h0⟩ | ⟨g2, c2, cur, rfl, hb2, hh2, h3, h4, h5, h6⟩
      · simp at h0
      · refine ⟨_, _, hr, ⟨isSl_mk _ _ _ _ h3 h4, by simp; omega, fun _ => ⟨?_, cur, hh2, ?_, fun j hj => ?_⟩⟩, gal ⟨hg.os, hg.tape, hg.output, hg.size, fun k hk _ => hg.block k hk (by simp)⟩, fun k hk => .inr ?_, isSl_mk _ _ _ _ h3 h4⟩
        · show B ≤ g2; simp at hb2; omega
        · show 0 + c2 ≤ cur.size; omega
        · show cur[0 + j]? = _
          have h7 : (cur.toList.take (cs ++ [u]).length)[j]? = (cs ++ [u])[j]? := by rw [hol, h6]
          rw [List.getElem?_take, if_pos hj] at h7
          rw [Nat.zero_add]; simpa using h7
        · obtain ⟨_, hk⟩ := row_eq hk
          have : g2 = k := hk
          simp at hb2; omega

end Go.Proofs.Ytplekfgadbjgdaa

namespace Go.Proofs.Ytplekfgadbjgdaa
open Go.RowKit Go.Sl

/-- The call's own slice of the call's own rows, none empty, each in a block of its own. -/
structure RO (W : World) (B : Nat) (v : Value) (vs : List Value) (xss : List (List Int)) : Prop where
  own : Go.Sl.Own W B 22 1 v vs
  len : vs.length = xss.length
  row : ∀ i, i < xss.length → OwnI W B (nthv vs i) (nthr xss i)
  pos : ∀ i, i < xss.length → 0 < (nthr xss i).length
  apart : ∀ i, i < xss.length → Go.Sl.row v ≠ some (vblk (nthv vs i))
  each : ∀ i j, i < j → j < xss.length → vblk (nthv vs i) ≠ vblk (nthv vs j)
section
variable {W W' : World} {B : Nat} {u r : Value} {vs : List Value} {xss : List (List Int)} {ys : List Int}
theorem RO.rows (h : RO W B u vs xss) : RowsV W u vs xss := ⟨h.own.sl, h.len, fun i hi => (h.row i hi).ints⟩
theorem RO.below (h : RO W B u vs xss) (hb : Below W.heap.size W W') : RO W' B u vs xss := ⟨h.own.below hb, h.len, fun i hi => (h.row i hi).below hb, h.pos, h.apart, h.each⟩
theorem RO.low {B' : Nat} (h : RO W B u vs xss) (hB : B' ≤ B) : RO W B' u vs xss := ⟨h.own.low hB, h.len, fun i hi => (h.row i hi).low hB, h.pos, h.apart, h.each⟩
theorem RO.rowAt (h : RO W B u vs xss) {i : Nat} (hi : i < xss.length) : Go.Sl.row (nthv vs i) = some (vblk (nthv vs i)) := row_some (by have := (h.row i hi).ints.cap; have := h.pos i hi; omega)
theorem RO.blk (h : RO W B u vs xss) {i : Nat} (hi : i < xss.length) : B ≤ vblk (nthv vs i) ∧ vblk (nthv vs i) < W.heap.size := (h.row i hi).lt _ (h.rowAt hi)
end
end Go.Proofs.Ytplekfgadbjgdaa

namespace Go.Proofs.Ytplekfgadbjgdaa
open Go.ChangeShapes Go.WideShapes Go.ChangeAt Go.RowKit Go.Sl

theorem own_knob : ownKnob Try.prog.godebug = none := by kernel_rfl
theorem laid_out : laidOutB Try.prog = true := by kernel_rfl
theorem cells_int : Try.prog.cellsOf 3 = 1 := by kernel_rfl

theorem wf_bounds {n : Int} (h : (Lit.int .i64 n).wf = true) : I64 n := by
  have h1 : IntKind.i64.min = -9223372036854775808 := rfl
  have h2 : IntKind.i64.max = 9223372036854775807 := rfl
  simp only [Lit.wf, Bool.and_eq_true, decide_eq_true_eq] at h
  unfold I64
  omega

set_option maxRecDepth 100000 in
theorem arg_int {H : Type} {enc : TypeId × Value → H} {W : World} {base b0 : Nat} {v : Value} {d : DataW H} {ps : List MemPlace} (hv : Value.okWide Try.prog W .any base 3 v)
    (h : DataW.Trod enc Try.prog W b0 (fun _ => true) true 3 v d ps) : ∃ n : Int, v = .int .i64 n ∧ I64 n := by
  obtain ⟨n, rfl, _, _, wn⟩ := open_int Try.underlying3 hv h
  exact ⟨n, rfl, wf_bounds wn⟩

set_option maxRecDepth 100000 in
theorem arg_ints {H : Type} {enc : TypeId × Value → H} {W : World} {base b0 : Nat} {v : Value} {d : DataW H} {ps : List MemPlace} (hv : Value.okWide Try.prog W .any base 22 v)
    (h : DataW.Trod enc Try.prog W b0 (fun _ => true) true 22 v d ps) : ∃ xs : List Int, Ints W v xs ∧ ∀ x ∈ xs, I64 x := by
  obtain ⟨a0, len, cap, rfl⟩ := okWide_slice Try.underlying22 hv
  obtain ⟨fuel, hf⟩ := h
  rcases open_ints Try.underlying22 Try.underlying3 cells_int hf with ⟨hcs, hx⟩ | ⟨a, len', cap', zs, hcs, _, hl, hm, hz, hx, hcell, hwz⟩
  · simp [Value.cells] at hcs
    obtain ⟨rfl, rfl, rfl⟩ := hcs
    exact ⟨[], ints_nil W, by simp⟩
  · simp [Value.cells] at hcs
    obtain ⟨rfl, rfl, rfl⟩ := hcs
    simp only [if_true] at hz
    refine ⟨zs.take len, ⟨⟨rfl, hl, hm, fun h0 => ?_⟩, by simp; omega, fun j u hu => ?_⟩, fun x hx => wf_bounds (hwz x (List.mem_of_mem_take hx))⟩
    · simp only [vcap_mk] at h0
      obtain ⟨b, off, spot⟩ := a
      have hspot : spot = none := by simpa [Addr.add] using World.cell?_spot (hcell 0 (by omega))
      subst hspot
      rfl
    · have hj : j < len := by
        have := (List.getElem?_eq_some_iff.1 hu).1
        simp at this; omega
      obtain ⟨b, off, spot⟩ := a
      have hspot : spot = none := by simpa [Addr.add] using World.cell?_spot (hcell 0 (by omega))
      subst hspot
      have h1 := hcell j (by omega)
      rw [Addr.add_lit] at h1
      rw [vat_mk, h1]
      rw [List.map_take, List.getElem?_take, if_pos hj] at hu
      simp at hu
      obtain ⟨a, ha, rfl⟩ := hu
      simp [List.getD, ha]

end Go.Proofs.Ytplekfgadbjgdaa

