/- polymatrix.Expand walked. -/
import Derived.Test.YtckopilciekfbaaQAlexSymm0
import Derived.Test.YtckopilciekfbaaQAlexSymm1
import Derived.Test.YtckopilciekfbaaQAlexSymm2
import Derived.Test.YtckopilciekfbaaQAlexSymm3
import Derived.Test.YtckopilciekfbaaQAlexSymm4
import Derived.Test.YtckopilciekfbaaQAlexSymm5
import Derived.Test.YtckopilciekfbaaQAlexSymm6
import Derived.Test.YtckopilciekfbaaQAlexSymm7
import Derived.Test.YtckopilciekfbaaQAlexSymm8
import Derived.Test.YtckopilciekfbaaQAlexSymm10
import Derived.Test.YtckopilciekfbaaQAlexSymm11
import Derived.Test.YtckopilciekfbaaQAlexSymm12
import Derived.Test.YtckopilciekfbaaQAlexSymm13
import Derived.Test.YtckopilciekfbaaQAlexSymm14
import Derived.Test.YtckopilciekfbaaQAlexSymm15
import Derived.Test.YtckopilciekfbaaQAlexSymm16
import Derived.Test.YtckopilciekfbaaQAlexSymm17
import Derived.Test.YtckopilciekfbaaQAlexSymm20
import Derived.Test.YtckopilciekfbaaQAlexSymm27
import Derived.Test.YtckopilciekfbaaQAlexSymm28
import Derived.Test.YtckopilciekfbaaQAlexSymm29
import Derived.Test.YtckopilciekfbaaQAlexSymm30
import Derived.Test.YtckopilciekfbaaQAlexSymm31
import Derived.Test.YtckopilciekfbaaQAlexSymm32
import Derived.Deep.RegionHeld3
import Derived.RangeFuncNested
import Derived.RangeFuncBound
import Derived.RangeFuncCalls
import Derived.RangeFuncLeaves
import Derived.RangeFuncBox
import Derived.Shelf.Abstract
import Derived.Shelf.RegionOpen
import Derived.OwnWalkIn
import Derived.TacticsInMore
import Derived.LoopNIn
import Derived.LoopIn
import Derived.Maps.AppendAt
namespace Go.Proofs.Ytckopilciekfbaa
open Go.RowKit Go.Sl

theorem pcs_take : ∀ (us : List Value) (ps : List LP), us.length = ps.length → ∀ c, (pcs us ps).take (c * 2) = pcs (us.take c) (ps.take c)
  | [], [], _, c => by simp [pcs]
  | u :: us, p :: ps, h, 0 => by simp [pcs]
  | u :: us, p :: ps, h, c + 1 => by
    have := pcs_take us ps (by simpa using h) c
    rw [show (c + 1) * 2 = c * 2 + 1 + 1 by omega]
    simp only [pcs, List.take_succ_cons, this]
theorem pcs_drop : ∀ (us : List Value) (ps : List LP), us.length = ps.length → ∀ c, (pcs us ps).drop (c * 2) = pcs (us.drop c) (ps.drop c)
  | [], [], _, c => by simp [pcs]
  | u :: us, p :: ps, h, 0 => by simp [pcs]
  | u :: us, p :: ps, h, c + 1 => by
    have := pcs_drop us ps (by simpa using h) c
    rw [show (c + 1) * 2 = c * 2 + 1 + 1 by omega]
    simp only [pcs, List.drop_succ_cons, this]
theorem pcs_app : ∀ (us : List Value) (ps : List LP), us.length = ps.length → ∀ (vs : List Value) (qs : List LP), pcs us ps ++ pcs vs qs = pcs (us ++ vs) (ps ++ qs)
  | [], [], _, _, _ => rfl
  | u :: us, p :: ps, h, vs, qs => by
    have := pcs_app us ps (by simpa using h) vs qs
    simp only [pcs, List.cons_append, this]
theorem pcs_one : ∀ (us : List Value) (ps : List LP), (∀ j, j < ps.length → IsSl (nthv us j)) → us.length = ps.length → ∀ x ∈ pcs us ps, x.oneCell' = true
  | [], [], _, _, x, hx => by simp [pcs] at hx
  | u :: us, p :: ps, h, hl, x, hx => by
    simp only [pcs, List.mem_cons] at hx
    rcases hx with rfl | rfl | hx
    · rfl
    · have := h 0 (by simp); simp [nthv] at this; exact oneCell'_sl this
    · exact pcs_one us ps (fun j hj => by have := h (j + 1) (by simpa using hj); simpa [nthv] using this) (by simpa using hl) x hx
theorem nthv_take {us : List Value} {c j : Nat} (h : j < c) : nthv (us.take c) j = nthv us j := by
  unfold nthv; rw [List.getD_eq_getElem?_getD, List.getD_eq_getElem?_getD, List.getElem?_take, if_pos h]
theorem nthv_drop (us : List Value) (c j : Nat) : nthv (us.drop c) j = nthv us (c + j) := by
  unfold nthv; rw [List.getD_eq_getElem?_getD, List.getD_eq_getElem?_getD, List.getElem?_drop]
theorem nthp_take {us : List LP} {c j : Nat} (h : j < c) : nthp (us.take c) j = nthp us j := by
  unfold nthp; rw [List.getD_eq_getElem?_getD, List.getD_eq_getElem?_getD, List.getElem?_take, if_pos h]
theorem nthp_drop (us : List LP) (c j : Nat) : nthp (us.drop c) j = nthp us (c + j) := by
  unfold nthp; rw [List.getD_eq_getElem?_getD, List.getD_eq_getElem?_getD, List.getElem?_drop]
theorem PRead.takeL {w : World} {v : Value} {us : List Value} {ps : List LP} (h : PRead w v us ps) {c : Nat} (hc : c ≤ ps.length) : PRead w (vcut v 0 c (vcap v) 2) (us.take c) (ps.take c) := by
  have hl := h.vlen
  have hcap := h.isSl.le
  refine ⟨?_, by simp [h.len], fun j hj => ?_⟩
  · have := h.sl.cut (l := 0) (r := c) (m := vcap v) (by omega) (by omega) (by omega) (Nat.le_refl _)
    rw [Nat.zero_mul, List.drop_zero, Nat.sub_zero, pcs_take us ps h.len] at this
    exact this
  · rw [List.length_take] at hj
    rw [nthv_take (by omega), nthp_take (by omega)]
    exact h.each j (by omega)
theorem PRead.dropL {w : World} {v : Value} {us : List Value} {ps : List LP} (h : PRead w v us ps) {c : Nat} (hc : c ≤ ps.length) : PRead w (vcut v c ps.length (vcap v) 2) (us.drop c) (ps.drop c) := by
  have hl := h.vlen
  have hcap := h.isSl.le
  refine ⟨?_, by simp [h.len], fun j hj => ?_⟩
  · have := h.sl.cut (l := c) (r := ps.length) (m := vcap v) hc (by omega) (by omega) (Nat.le_refl _)
    rw [pcs_drop us ps h.len] at this
    have e : (pcs (us.drop c) (ps.drop c)).take ((ps.length - c) * 2) = pcs (us.drop c) (ps.drop c) := List.take_of_length_le (by rw [pcs_length _ _ (by simp [h.len])]; simp)
    rwa [e] at this
  · rw [List.length_drop] at hj
    rw [nthv_drop, nthp_drop]
    exact h.each _ (by omega)
theorem PRead.one {w : World} {v : Value} {us : List Value} {ps : List LP} (h : PRead w v us ps) : ∀ u ∈ pcs us ps, u.oneCell' = true := pcs_one us ps (fun j hj => (h.each j hj).isSl) h.len
theorem wp_prows2 {w : World} {o : Oper} {a : Act} {K : Act → World → Prop} {Q : Exit → Act → World → Prop} (x y : Operand) (ho : o.op = Op.buildSlice 73 2 #[(0, x), (1, y)])
    {v u : Value} (hx : a.eval x = v) (hy : a.eval y = u) (hv : IsSl v) (hu : IsSl u)
    (h : K (a.put o.dst (.slice (some ⟨w.heap.size, 0, none⟩) 2 2)) (w.alloc (.cells #[v, u] 75))) : Oper.wp Try.prog o a w K Q := by
  obtain ⟨i, hi, hz0, hz1, hz2⟩ := info_parts info_polys
  have hrn := run_build2 (P := Try.prog) w 73 75 i _ Try.underlying73 hi hz0 hz1 rfl (cells_of_sl hv) (cells_of_sl hu)
  unfold Oper.wp execOp
  simp only [ho, Sem.run_bind, List.map_toArray, List.map_cons, List.map_nil, hx, hy, hrn, Result.andThen_ok]
  exact h
theorem wp_prows1 {w : World} {o : Oper} {a : Act} {K : Act → World → Prop} {Q : Exit → Act → World → Prop} (x : Operand) (ho : o.op = Op.buildSlice 73 1 #[(0, x)])
    {v : Value} (hx : a.eval x = v) (hv : IsSl v)
    (h : K (a.put o.dst (.slice (some ⟨w.heap.size, 0, none⟩) 1 1)) (w.alloc (.cells #[v] 75))) : Oper.wp Try.prog o a w K Q := by
  obtain ⟨i, hi, hz0, hz1, hz2⟩ := info_parts info_polys
  have hrn := run_build1 (P := Try.prog) w 73 75 i _ Try.underlying73 hi hz0 hz1 rfl (cells_of_sl hv)
  unfold Oper.wp execOp
  simp only [ho, Sem.run_bind, List.map_toArray, List.map_cons, List.map_nil, hx, hrn, Result.andThen_ok]
  exact h
theorem wp_pushPRow {w : World} {o : Oper} {a : Act} {K : Act → World → Prop} {Q : Exit → Act → World → Prop} (s x : Operand)
    (ho : o.op = .call { callee := .builtin .append, args := #[s, x], argTypes := #[73, 73] })
    {B : Nat} {v r : Value} {vs : List Value} (hs : a.eval s = v) (hx : a.eval x = .slice (some ⟨w.heap.size, 0, none⟩) 1 1) (hown : Go.Sl.Own w B 75 1 v vs) (hr : IsSl r) (hB : B ≤ w.heap.size) (hlen : vs.length ≤ 1000000)
    (h : ∀ v' w', Go.Sl.Own w' B 75 1 v' (vs ++ [r]) → w.grownBy w' (row v) → (∀ k, row v' = some k → row v = some k ∨ w.heap.size ≤ k) → K (a.put o.dst v') w') :
    Oper.wp Try.prog o a (w.alloc (.cells #[r] 75)) K Q := by
  obtain ⟨i, hi, hz0, hz1, hz2⟩ := info_parts info_polys
  have hl := hown.2.1
  obtain ⟨v', w', hrn, h1, h2, h3⟩ := run_append_sl (P := Try.prog) (w.alloc (.cells #[r] 75)) B 73 o.type 75 i _ 1 24 Try.underlying73 hi hz0 hz1 hz2 rfl (by decide) (hown.alloc _) (sl_one w r 75)
    (by intro u hu; simp at hu; subst hu; exact oneCell'_sl hr) (by simp only [vlen_mk, maxLen]; omega) (by simp only [vlen_mk]; omega) (by simp; omega)
  unfold Oper.wp execOp
  simp only [ho, resolve, invoke, builtin, Sem.run_bind, Sem.run_pure, Result.andThen_ok, List.map_toArray, List.map_cons, List.map_nil, hs, hx, hrn]
  refine h v' w' h1 ?_ ?_
  · exact ⟨h2.os, h2.tape, h2.output, by have := h2.size; simp at this; omega, fun k hk hr => (h2.block k (by simp; omega) hr).trans (Below.heap_alloc w _ k hk)⟩
  · intro k hk; rcases h3 k hk with h | h
    · exact .inl h
    · exact .inr (by simp at h; omega)
theorem sl_two' (w : World) (u v : Value) (e : TypeId) : Sl (w.alloc (.cells #[u, v] e)) (.slice (some ⟨w.heap.size, 0, none⟩) 2 2) 1 [u, v] := by
  refine ⟨isSl_mk _ _ _ _ (Nat.le_refl _) (by unfold maxLen; omega), by simp, fun j x hx => ?_⟩
  have := cell_of_row (w.alloc (.cells #[u, v] e)) w.heap.size j #[u, v] e (0, 0) (heap_alloc_new w (.cells #[u, v] e))
  rw [vat_mk, Nat.zero_add, this]
  simpa using hx
theorem rowsC_2 {w : World} {a b : Value} {cs ds : List Value} (ha : Sl w a 2 cs) (hb : Sl w b 2 ds) (h1 : ∀ u ∈ cs, u.oneCell' = true) (h2 : ∀ u ∈ ds, u.oneCell' = true) (e : TypeId) :
    RowsC (w.alloc (.cells #[a, b] e)) (.slice (some ⟨w.heap.size, 0, none⟩) 2 2) [a, b] [cs, ds] := by
  refine ⟨sl_two' w a b e, rfl, fun i hi => ?_, fun i hi => ?_⟩
  · simp at hi
    rcases (show i = 0 ∨ i = 1 by omega) with rfl | rfl
    · exact ha.alloc _
    · exact hb.alloc _
  · simp at hi
    rcases (show i = 0 ∨ i = 1 by omega) with rfl | rfl
    · exact h1
    · exact h2

end Go.Proofs.Ytckopilciekfbaa

