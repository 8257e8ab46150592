/- RingOwn: for every input the statement returns true, and nothing that was there has changed. -/
import Derived.Test.YtplekfgadbjgdaaQTopSums0
import Derived.Test.YtplekfgadbjgdaaQTopSums1
import Derived.Test.YtplekfgadbjgdaaQTopSums2
import Derived.Test.YtplekfgadbjgdaaQTopSums3
import Derived.Test.YtplekfgadbjgdaaQTopSums4
import Derived.Test.YtplekfgadbjgdaaQTopSums5
import Derived.Test.YtplekfgadbjgdaaQTopSums6
import Derived.Test.YtplekfgadbjgdaaQTopSums7
import Derived.Test.YtplekfgadbjgdaaQTopSums8
import Derived.Test.YtplekfgadbjgdaaQTopSums9
import Derived.Test.YtplekfgadbjgdaaQTopSums10
import Derived.Test.YtplekfgadbjgdaaQTopSums11
import Derived.Test.YtplekfgadbjgdaaQTopSums12
import Derived.Test.YtplekfgadbjgdaaQTopSums13
import Derived.Test.YtplekfgadbjgdaaQTopSums14
import Derived.Test.YtplekfgadbjgdaaQTopSums15
import Derived.Test.YtplekfgadbjgdaaQTopSums16
import Derived.Test.YtplekfgadbjgdaaQTopSums17
import Derived.Test.YtplekfgadbjgdaaQTopSums18
import Derived.Test.YtplekfgadbjgdaaQTopSums19
import Derived.Test.YtplekfgadbjgdaaQTopSums21
import Derived.Test.YtplekfgadbjgdaaQTopSums22
import Derived.Test.YtplekfgadbjgdaaQTopSums23
import Derived.Test.YtplekfgadbjgdaaQTopSums24
import Derived.Test.YtplekfgadbjgdaaQTopSums25
import Derived.Deep.RegionHeld3
import Derived.Shelf.Abstract
import Derived.RangeFuncNested
import Derived.RangeFuncBound
import Derived.RangeFuncCalls
import Derived.RangeFuncLeaves
import Derived.RangeFuncBox
import Derived.Shelf.RegionOpen
import Derived.OwnWalkIn
import Derived.TacticsInMore
import Derived.LoopNIn
import Derived.LoopIn
import Derived.Maps.AppendAt
import Derived.Deep.RegionLaw
import Derived.OrdersIn
import Derived.OrdersHeld
import Derived.Deep.RegionHeld
import Derived.Shelf.Strings.Builder1
namespace Go.Proofs.Ytplekfgadbjgdaa
open Go.RowKit Go.Sl

theorem pcs_take : ∀ (us : List Value) (ps : List LP), us.length = ps.length → ∀ c, (pcs us ps).take (c * 2) = pcs (us.take c) (ps.take c)
  | [], [], _, c => by simp [pcs]
  | u :: us, p :: ps, h, 0 => by simp [pcs]
  | u :: us, p :: ps, h, c + 1 => by
    have := pcs_take us ps (by simpa using h) c
    rw [show (c + 1) * 2 = c * 2 + 1 + 1 by omega]
    simp only [pcs, List.take_succ_cons, this]
theorem pcs_drop : ∀ (us : List Value) (ps : List LP), us.length = ps.length → ∀ c, (pcs us ps).drop (c * 2) = pcs (us.drop c) (ps.drop c)
  | [], [], _, c => by simp [pcs]
  | u :: us, p :: ps, h, 0 => by simp [pcs]
  | u :: us, p :: ps, h, c + 1 => by
    have := pcs_drop us ps (by simpa using h) c
    rw [show (c + 1) * 2 = c * 2 + 1 + 1 by omega]
    simp only [pcs, List.drop_succ_cons, this]
theorem pcs_app : ∀ (us : List Value) (ps : List LP), us.length = ps.length → ∀ (vs : List Value) (qs : List LP), pcs us ps ++ pcs vs qs = pcs (us ++ vs) (ps ++ qs)
  | [], [], _, _, _ => rfl
  | u :: us, p :: ps, h, vs, qs => by
    have := pcs_app us ps (by simpa using h) vs qs
    simp only [pcs, List.cons_append, this]
theorem pcs_one : ∀ (us : List Value) (ps : List LP), (∀ j, j < ps.length → IsSl (nthv us j)) → us.length = ps.length → ∀ x ∈ pcs us ps, x.oneCell' = true
  | [], [], _, _, x, hx => by simp [pcs] at hx
  | u :: us, p :: ps, h, hl, x, hx => by
    simp only [pcs, List.mem_cons] at hx
    rcases hx with rfl | rfl | hx
    · rfl
    · have := h 0 (by simp); simp [nthv] at this; exact oneCell'_sl this
    · exact pcs_one us ps (fun j hj => by have := h (j + 1) (by simpa using hj); simpa [nthv] using this) (by simpa using hl) x hx
theorem nthv_take {us : List Value} {c j : Nat} (h : j < c) : nthv (us.take c) j = nthv us j := by
  unfold nthv; rw [List.getD_eq_getElem?_getD, List.getD_eq_getElem?_getD, List.getElem?_take, if_pos h]
theorem nthv_drop (us : List Value) (c j : Nat) : nthv (us.drop c) j = nthv us (c + j) := by
  unfold nthv; rw [List.getD_eq_getElem?_getD, List.getD_eq_getElem?_getD, List.getElem?_drop]
theorem nthp_take {us : List LP} {c j : Nat} (h : j < c) : nthp (us.take c) j = nthp us j := by
  unfold nthp; rw [List.getD_eq_getElem?_getD, List.getD_eq_getElem?_getD, List.getElem?_take, if_pos h]
theorem nthp_drop (us : List LP) (c j : Nat) : nthp (us.drop c) j = nthp us (c + j) := by
  unfold nthp; rw [List.getD_eq_getElem?_getD, List.getD_eq_getElem?_getD, List.getElem?_drop]
theorem PRead.takeL {w : World} {v : Value} {us : List Value} {ps : List LP} (h : PRead w v us ps) {c : Nat} (hc : c ≤ ps.length) : PRead w (vcut v 0 c (vcap v) 2) (us.take c) (ps.take c) := by
  have hl := h.vlen
  have hcap := h.isSl.le
  refine ⟨?_, by simp [h.len], fun j hj => ?_⟩
  · have := h.sl.cut (l := 0) (r := c) (m := vcap v) (by omega) (by omega) (by omega) (Nat.le_refl _)
    rw [Nat.zero_mul, List.drop_zero, Nat.sub_zero, pcs_take us ps h.len] at this
    exact this
  · rw [List.length_take] at hj
    rw [nthv_take (by omega), nthp_take (by omega)]
    exact h.each j (by omega)
theorem PRead.dropL {w : World} {v : Value} {us : List Value} {ps : List LP} (h : PRead w v us ps) {c : Nat} (hc : c ≤ ps.length) : PRead w (vcut v c ps.length (vcap v) 2) (us.drop c) (ps.drop c) := by
  have hl := h.vlen
  have hcap := h.isSl.le
  refine ⟨?_, by simp [h.len], fun j hj => ?_⟩
  · have := h.sl.cut (l := c) (r := ps.length) (m := vcap v) hc (by omega) (by omega) (Nat.le_refl _)
    rw [pcs_drop us ps h.len] at this
    have e : (pcs (us.drop c) (ps.drop c)).take ((ps.length - c) * 2) = pcs (us.drop c) (ps.drop c) := List.take_of_length_le (by rw [pcs_length _ _ (by simp [h.len])]; simp)
    rwa [e] at this
  · rw [List.length_drop] at hj
    rw [nthv_drop, nthp_drop]
    exact h.each _ (by omega)
theorem PRead.one {w : World} {v : Value} {us : List Value} {ps : List LP} (h : PRead w v us ps) : ∀ u ∈ pcs us ps, u.oneCell' = true := pcs_one us ps (fun j hj => (h.each j hj).isSl) h.len
theorem wp_prows2 {w : World} {o : Oper} {a : Act} {K : Act → World → Prop} {Q : Exit → Act → World → Prop} (x y : Operand) (ho : o.op = Op.buildSlice 90 2 #[(0, x), (1, y)])
    {v u : Value} (hx : a.eval x = v) (hy : a.eval y = u) (hv : IsSl v) (hu : IsSl u)
    (h : K (a.put o.dst (.slice (some ⟨w.heap.size, 0, none⟩) 2 2)) (w.alloc (.cells #[v, u] 92))) : Oper.wp Try.prog o a w K Q := by
  obtain ⟨i, hi, hz0, hz1, hz2⟩ := info_parts info_polys
  have hrn := run_build2 (P := Try.prog) w 90 92 i _ Try.underlying90 hi hz0 hz1 rfl (cells_of_sl hv) (cells_of_sl hu)
  unfold Oper.wp execOp
  simp only [ho, Sem.run_bind, List.map_toArray, List.map_cons, List.map_nil, hx, hy, hrn, Result.andThen_ok]
  exact h
theorem wp_prows1 {w : World} {o : Oper} {a : Act} {K : Act → World → Prop} {Q : Exit → Act → World → Prop} (x : Operand) (ho : o.op = Op.buildSlice 90 1 #[(0, x)])
    {v : Value} (hx : a.eval x = v) (hv : IsSl v)
    (h : K (a.put o.dst (.slice (some ⟨w.heap.size, 0, none⟩) 1 1)) (w.alloc (.cells #[v] 92))) : Oper.wp Try.prog o a w K Q := by
  obtain ⟨i, hi, hz0, hz1, hz2⟩ := info_parts info_polys
  have hrn := run_build1 (P := Try.prog) w 90 92 i _ Try.underlying90 hi hz0 hz1 rfl (cells_of_sl hv)
  unfold Oper.wp execOp
  simp only [ho, Sem.run_bind, List.map_toArray, List.map_cons, List.map_nil, hx, hrn, Result.andThen_ok]
  exact h
theorem wp_pushPRow {w : World} {o : Oper} {a : Act} {K : Act → World → Prop} {Q : Exit → Act → World → Prop} (s x : Operand)
    (ho : o.op = .call { callee := .builtin .append, args := #[s, x], argTypes := #[90, 90] })
    {B : Nat} {v r : Value} {vs : List Value} (hs : a.eval s = v) (hx : a.eval x = .slice (some ⟨w.heap.size, 0, none⟩) 1 1) (hown : Go.Sl.Own w B 92 1 v vs) (hr : IsSl r) (hB : B ≤ w.heap.size) (hlen : vs.length ≤ 1000000)
    (h : ∀ v' w', Go.Sl.Own w' B 92 1 v' (vs ++ [r]) → w.grownBy w' (row v) → (∀ k, row v' = some k → row v = some k ∨ w.heap.size ≤ k) → K (a.put o.dst v') w') :
    Oper.wp Try.prog o a (w.alloc (.cells #[r] 92)) K Q := by
  obtain ⟨i, hi, hz0, hz1, hz2⟩ := info_parts info_polys
  have hl := hown.2.1
  obtain ⟨v', w', hrn, h1, h2, h3⟩ := run_append_sl (P := Try.prog) (w.alloc (.cells #[r] 92)) B 90 o.type 92 i _ 1 24 Try.underlying90 hi hz0 hz1 hz2 rfl (by decide) (hown.alloc _) (sl_one w r 92)
    (by intro u hu; simp at hu; subst hu; exact oneCell'_sl hr) (by simp only [vlen_mk, maxLen]; omega) (by simp only [vlen_mk]; omega) (by simp; omega)
  unfold Oper.wp execOp
  simp only [ho, resolve, invoke, builtin, Sem.run_bind, Sem.run_pure, Result.andThen_ok, List.map_toArray, List.map_cons, List.map_nil, hs, hx, hrn]
  refine h v' w' h1 ?_ ?_
  · exact ⟨h2.os, h2.tape, h2.output, by have := h2.size; simp at this; omega, fun k hk hr => (h2.block k (by simp; omega) hr).trans (Below.heap_alloc w _ k hk)⟩
  · intro k hk; rcases h3 k hk with h | h
    · exact .inl h
    · exact .inr (by simp at h; omega)
theorem sl_two' (w : World) (u v : Value) (e : TypeId) : Sl (w.alloc (.cells #[u, v] e)) (.slice (some ⟨w.heap.size, 0, none⟩) 2 2) 1 [u, v] := by
  refine ⟨isSl_mk _ _ _ _ (Nat.le_refl _) (by unfold maxLen; omega), by simp, fun j x hx => ?_⟩
  have := cell_of_row (w.alloc (.cells #[u, v] e)) w.heap.size j #[u, v] e (0, 0) (heap_alloc_new w (.cells #[u, v] e))
  rw [vat_mk, Nat.zero_add, this]
  simpa using hx
theorem rowsC_2 {w : World} {a b : Value} {cs ds : List Value} (ha : Sl w a 2 cs) (hb : Sl w b 2 ds) (h1 : ∀ u ∈ cs, u.oneCell' = true) (h2 : ∀ u ∈ ds, u.oneCell' = true) (e : TypeId) :
    RowsC (w.alloc (.cells #[a, b] e)) (.slice (some ⟨w.heap.size, 0, none⟩) 2 2) [a, b] [cs, ds] := by
  refine ⟨sl_two' w a b e, rfl, fun i hi => ?_, fun i hi => ?_⟩
  · simp at hi
    rcases (show i = 0 ∨ i = 1 by omega) with rfl | rfl
    · exact ha.alloc _
    · exact hb.alloc _
  · simp at hi
    rcases (show i = 0 ∨ i = 1 by omega) with rfl | rfl
    · exact h1
    · exact h2

end Go.Proofs.Ytplekfgadbjgdaa

namespace Go.Proofs.Ytplekfgadbjgdaa
open Go.RowKit Go.Sl

theorem setCell_size' (w : World) (p : Addr) (v : Value) : (w.setCell p v).heap.size = w.heap.size := by simp
theorem own_ne {w : World} {B B' : Nat} {e e' : TypeId} {v u : Value} {cs ds : List Value} (h : Go.Sl.Own w B e 1 v cs) (k : Go.Sl.Own w B' e' 1 u ds) (hc : 0 < cs.length) (hd : 0 < ds.length) (he : e ≠ e') : vblk v ≠ vblk u := by
  intro heq
  obtain ⟨cur, hg, -⟩ := Go.Sl.Own.getCell h hc
  obtain ⟨cur', hg', -⟩ := Go.Sl.Own.getCell k hd
  rw [heq, hg'] at hg
  injection hg with hg
  injection hg with h1 h2
  exact he h2.symm
theorem wpList_makeV {w : World} {ops : Array Oper} {rest : List Oper} {o : Oper} {a : Act} {Q : Exit → Act → World → Prop} (hgd : o.guard = none) (l c : Operand) (ho : o.op = Op.makeSlice 24 l c)
    (L C : Int) (n : Nat) (hl : a.eval l = .int .i64 L) (hc : a.eval c = .int .i64 C) (hL : L = (n : Int)) (hC : C = (n : Int)) (hm : n ≤ 1000000)
    (h : ∀ v' w', Go.Sl.Own w' w.heap.size 22 1 v' (List.replicate n (.slice none 0 0)) → w.grownBy w' none → vlen v' = n → w'.heap.size = w.heap.size + 1 → wpList Try.prog ops Q rest (a.put o.dst v') w') : wpList Try.prog ops Q (o :: rest) a w := by
  obtain ⟨i, hi, hz0, hz1, hz2⟩ := info_parts info_slice
  exact wpList_make_sl hgd l c _ ho 22 i (.slice none 0 0) 24 Try.underlying24 hi hz0 hz1 hz2 rfl L C n hl hc hL hC (by omega) (by simp only [maxLen]; omega) h

theorem zero_set {w : World} {B B' : Nat} {v u : Value} {j : Nat} (h : OwnI w B v [0, 0]) (k : OwnI w B' u [0, 0]) (hj : j < 2) : OwnI (w.setCell (vat u j) (.int .i64 0)) B v [0, 0] := by
  by_cases hb : vblk v = vblk u
  · have e : vat u j = vat v j := by
      obtain ⟨_, _, _, h0, -⟩ := Go.Sl.Own.getCell h (j := 0) (by simp)
      obtain ⟨_, _, _, k0, -⟩ := Go.Sl.Own.getCell k (j := 0) (by simp)
      unfold vat
      rw [hb, h0, k0]
    rw [e]
    have := h.set (k := j) (by simpa using hj) 0
    have e2 : [0, 0].set j (0 : Int) = [0, 0] := by
      have : j = 0 ∨ j = 1 := by omega
      rcases this with rfl | rfl <;> rfl
    rwa [e2] at this
  · exact h.setOther (fun k hk e => hb (by rw [vat_block] at e; rw [e]; exact (row_eq hk).2)) _

/-- A matrix of two rows of two zeros, all of the call's own. -/
structure ZM (w : World) (B0 B2 : Nat) (mv : Value) (vs : List Value) : Prop where
  own : Go.Sl.Own w B0 22 1 mv vs
  len : vs.length = 2
  rows : ∀ j, j < 2 → OwnI w B0 (nthv vs j) [0, 0]
  blk : ∀ j, j < 2 → vblk (nthv vs j) < B2
theorem ZM.below {w w' : World} {B0 B2 : Nat} {mv : Value} {vs : List Value} (h : ZM w B0 B2 mv vs) (hb : Below w.heap.size w w') : ZM w' B0 B2 mv vs :=
  ⟨h.own.below hb, h.len, fun j hj => (h.rows j hj).below hb, h.blk⟩
theorem ZM.store {w : World} {B0 B2 : Nat} {mv : Value} {vs : List Value} (h : ZM w B0 B2 mv vs) {j k : Nat} (hj : j < 2) (hk : k < 2) : ZM (w.setCell (vat (nthv vs j) k) (.int .i64 0)) B0 B2 mv vs :=
  ⟨h.own.setOther (fun b hb e => own_ne h.own (h.rows j hj) (by rw [h.len]; decide) (by simp) (by decide) (by rw [vat_block] at e; rw [e]; exact (row_eq hb).2)) _, h.len,
    fun i hi => zero_set (h.rows i hi) (h.rows j hj) hk, h.blk⟩
end Go.Proofs.Ytplekfgadbjgdaa

namespace Go.Proofs.Ytplekfgadbjgdaa
open Go.RowKit Go.Sl

/-- The word is a conjugate of the generator. -/
def Cj (r : List Int) (m : Nat) : Prop := ∃ y, IsWord y ∧ r = redL (y ++ [(m : Int) + 1] ++ invL y)
theorem Cj.word {r : List Int} {m : Nat} (h : Cj r m) (hm : m < 6) : IsWord r := by
  obtain ⟨y, hy, rfl⟩ := h
  refine ((hy.append ?_).append hy.inv).red
  intro x hx
  simp at hx
  omega
end Go.Proofs.Ytplekfgadbjgdaa

namespace Go.Proofs.Ytplekfgadbjgdaa
open Go.RowKit Go.Sl

def vsum (f : Nat → Rat) : Nat → Rat
  | 0 => 0
  | k + 1 => vsum f k + f k
theorem vsum_congr {f g : Nat → Rat} (n : Nat) (h : ∀ k, k < n → f k = g k) : vsum f n = vsum g n := by
  induction n with
  | zero => rfl
  | succ n ih => rw [vsum, vsum, ih (fun k hk => h k (by omega)), h n (by omega)]
theorem vsum_pair {f g : Nat → Rat} {p : Nat} (h : ∀ k, k ≠ p → k ≠ p + 1 → g k = f k) (h2 : g p + g (p + 1) = f p + f (p + 1)) : ∀ m, vsum g (p + 2 + m) = vsum f (p + 2 + m) := by
  intro m
  induction m with
  | zero =>
    show vsum g p + g p + g (p + 1) = vsum f p + f p + f (p + 1)
    rw [vsum_congr p (fun k hk => h k (by omega) (by omega))]; grind
  | succ m ih => rw [show p + 2 + (m + 1) = p + 2 + m + 1 by omega, vsum, vsum, ih, h _ (by omega) (by omega)]
theorem vsum_bact {t : Rat} (ht : t ≠ 0) {x : Int} {n : Nat} (h0 : x ≠ 0) (hn : x.natAbs < n) (f : Nat → Rat) : vsum (bact t x f) n = vsum f n := by
  obtain ⟨p, hp⟩ : ∃ p : Nat, x.natAbs = p + 1 := ⟨x.natAbs - 1, by omega⟩
  obtain ⟨m, rfl⟩ : ∃ m, n = p + 2 + m := ⟨n - p - 2, by omega⟩
  have h2 : t⁻¹ * t = 1 := Rat.inv_mul_cancel t ht
  refine vsum_pair (p := p) (fun k h1 h2 => ?_) ?_ m
  · unfold bact bactP bactN
    rw [hp, Nat.add_sub_cancel]
    split <;> dsimp only <;> rw [if_neg h1, if_neg h2]
  · unfold bact bactP bactN
    rw [hp, Nat.add_sub_cancel]
    split <;> dsimp only <;> grind
theorem vsum_bacts {t : Rat} (ht : t ≠ 0) {n : Nat} (xs : List Int) : NWord n xs → ∀ f, vsum (bacts t xs f) n = vsum f n := by
  induction xs with
  | nil => intro _ f; rfl
  | cons x s ih =>
    intro hw f
    have hx := hw x (by simp)
    show vsum (bacts t s (bact t x f)) n = _
    rw [ih (fun y hy => hw y (by simp [hy])), vsum_bact ht hx.1 hx.2]
theorem vsum_unit {i : Nat} (n : Nat) : vsum (unitV i) n = if i < n then 1 else 0 := by
  induction n with
  | zero => rfl
  | succ n ih =>
    rw [vsum, ih]
    unfold unitV
    by_cases h : i < n
    · rw [if_pos h, if_neg (by omega), if_pos (by omega)]; grind
    · by_cases h2 : n = i
      · rw [if_neg h, if_pos h2, if_pos (by omega)]; grind
      · rw [if_neg h, if_neg h2, if_neg (by omega)]; grind

theorem bact_lin {t : Rat} (x : Int) (f g : Nat → Rat) (c : Rat) : bact t x (fun k => f k + c * g k) = fun k => bact t x f k + c * bact t x g k := by
  funext k
  unfold bact bactP bactN
  split <;> dsimp only <;> split <;> (try split) <;> grind
theorem bacts_lin {t : Rat} (xs : List Int) : ∀ (f g : Nat → Rat) (c : Rat), bacts t xs (fun k => f k + c * g k) = fun k => bacts t xs f k + c * bacts t xs g k := by
  induction xs with
  | nil => intro f g c; rfl
  | cons x s ih =>
    intro f g c
    show bacts t s (bact t x _) = _
    rw [bact_lin, ih]; rfl
theorem bacts_zero {t : Rat} (xs : List Int) : bacts t xs (fun _ => 0) = fun _ => 0 := by
  have := bacts_lin (t := t) xs (fun _ => 0) (fun _ => 0) (-1)
  funext k
  have h := congrFun this k
  simp only [Rat.mul_zero, Rat.add_zero] at h
  grind
theorem bact_pow {t : Rat} (ht : t ≠ 0) (x : Int) : bact t x (fun k => t ^ k) = fun k => t ^ k := by
  have h2 : t⁻¹ * t = 1 := Rat.inv_mul_cancel t ht
  funext k
  unfold bact bactP bactN
  split
  · dsimp only
    split
    · rename_i h; subst h; rw [Rat.pow_succ]; grind
    · split
      · rename_i h; rw [h]; rw [Rat.pow_succ]; grind
      · rfl
  · dsimp only
    split
    · rename_i h; subst h; rw [Rat.pow_succ]; grind
    · split
      · rename_i h; rw [h]; rw [Rat.pow_succ]
      · rfl
theorem bacts_pow {t : Rat} (ht : t ≠ 0) (xs : List Int) : bacts t xs (fun k => t ^ k) = fun k => t ^ k := by
  induction xs with
  | nil => rfl
  | cons x s ih => show bacts t s (bact t x _) = _; rw [bact_pow ht, ih]
theorem bacts_sum {t : Rat} (xs : List Int) (c : Nat → Rat) (i : Nat) : ∀ K, vsum (fun k => c k * bacts t xs (unitV k) i) K = bacts t xs (fun j => vsum (fun k => c k * unitV k j) K) i := by
  intro K
  induction K with
  | zero => show (0 : Rat) = bacts t xs (fun _ => 0) i; rw [bacts_zero]
  | succ K ih =>
    show vsum _ K + _ = bacts t xs (fun j => vsum (fun k => c k * unitV k j) K + c K * unitV K j) i
    rw [bacts_lin, ih]
theorem vsum_pick (c : Nat → Rat) (j : Nat) : ∀ n, vsum (fun k => c k * unitV k j) n = if j < n then c j else 0 := by
  intro n
  induction n with
  | zero => rfl
  | succ n ih =>
    rw [vsum, ih]
    unfold unitV
    by_cases h : j < n
    · rw [if_pos h, if_neg (by omega), if_pos (by omega)]; grind
    · by_cases h2 : j = n
      · rw [if_neg h, if_pos h2, if_pos (by omega), h2]; grind
      · rw [if_neg h, if_neg h2, if_neg (by omega)]; grind

end Go.Proofs.Ytplekfgadbjgdaa

namespace Go.Proofs.Ytplekfgadbjgdaa
open Go.RowKit Go.Sl

theorem top_mull (a b : List Int) (ha : a ≠ []) (hb : b ≠ []) : nth (mull a b) (a.length - 1 + (b.length - 1)) = nth a (a.length - 1) * nth b (b.length - 1) := by
  have hp : 0 < b.length := List.length_pos_iff.2 hb
  induction a with
  | nil => exact absurd rfl ha
  | cons x a ih =>
    rw [mull, nth_addl]
    cases a with
    | nil =>
      simp only [mull, List.length_cons, List.length_nil, Nat.zero_add, Nat.sub_self]
      rw [nth_cons_zero]
      have : nth [0] (b.length - 1) = 0 := by
        cases hb1 : b.length - 1 with
        | zero => rfl
        | succ k => rw [nth_cons_succ, nth_nil]
      rw [this]; omega
    | cons y a =>
      have ih' := ih (by simp)
      simp only [List.length_cons] at ih' ⊢
      rw [show a.length + 1 + 1 - 1 + (b.length - 1) = (a.length + 1 - 1 + (b.length - 1)) + 1 by omega, nth_cons_succ, ih', nth_ge (l := b) (k := a.length + 1 - 1 + (b.length - 1) + 1) (by omega), show a.length + 1 + 1 - 1 = (a.length + 1 - 1) + 1 by omega, nth_cons_succ]
      simp
theorem mull_ne {a b : List Int} (ha : a ≠ []) (hb : b ≠ []) : mull a b ≠ [] := by
  intro e
  have := mull_length a b ha hb
  rw [e] at this
  have := List.length_pos_iff.2 ha
  have := List.length_pos_iff.2 hb
  simp at *; omega
theorem head_mull (a b : List Int) (ha : a ≠ []) : nth (mull a b) 0 = nth a 0 * nth b 0 := by
  cases a with
  | nil => exact absurd rfl ha
  | cons x a => rw [mull, nth_addl, nth_cons_zero, nth_cons_zero]; omega
/-- The product of two trimmed polynomials needs no trimming. -/
theorem pmul_exact {x y : LP} (hx : Trimmed x) (hy : Trimmed y) (h1 : x.c ≠ []) (h2 : y.c ≠ []) : pmul x y = ⟨x.low + y.low, mull x.c y.c⟩ := by
  refine trimP_eq ⟨fun e => absurd e (mull_ne h1 h2), fun _ => ?_, fun _ => ?_⟩ fun t _ => rfl
  · rw [head_mull _ _ h1]
    exact Int.mul_ne_zero (hx.first h1) (hy.first h2)
  · simp only
    rw [mull_length _ _ h1 h2]
    have p1 := List.length_pos_iff.2 h1
    have p2 := List.length_pos_iff.2 h2
    rw [show x.c.length + y.c.length - 1 - 1 = x.c.length - 1 + (y.c.length - 1) by omega, top_mull _ _ h1 h2]
    exact Int.mul_ne_zero (hx.last h1) (hy.last h2)

end Go.Proofs.Ytplekfgadbjgdaa

namespace Go.Proofs.Ytplekfgadbjgdaa
open Go.RowKit Go.Sl

/-- The value at x (1 or -1) of the terms with the exponents e, e + 1, .. -/
def atR (x : Int) : Int → List Int → Int
  | _, [] => 0
  | e, c :: cs => (if x < 0 ∧ e % 2 ≠ 0 then -c else c) + atR x (e + 1) cs
theorem atR_le (x : Int) (l : List Int) : ∀ e, (atR x e l).natAbs ≤ n1 l := by
  induction l with
  | nil => intro e; simp [atR]
  | cons c cs ih =>
    intro e
    have := ih (e + 1)
    rw [atR, n1]
    split <;> omega
/-- The polynomial of the inverse of the variable. -/
def pconj (p : LP) : LP := trimP (1 - p.low - p.c.length) p.c.reverse
theorem pconj_trimmed (p : LP) : Trimmed (pconj p) := trimP_trimmed _ _
theorem within_pconj {p : LP} {lo hi : Int} (h : Within p lo hi) : Within (pconj p) (1 - hi) (1 - lo) := by
  rcases h with h | h
  · left; unfold pconj; rw [h]; rfl
  · have := within_trimP (1 - p.low - p.c.length) p.c.reverse
    refine this.mono (by omega) (by simp; omega)
theorem n1_pconj (p : LP) : n1 (pconj p).c ≤ n1 p.c := by
  have := n1_trimP (1 - p.low - p.c.length) p.c.reverse
  rwa [n1_reverse] at this

/-- The sign that makes the last coefficient positive. -/
def lsign (p : LP) : Int := if nth p.c (p.c.length - 1) < 0 then -1 else 1
def pnorm (p : LP) : LP := pmul ⟨0, p.c⟩ (pterm (lsign p) 0)
theorem ev_pnorm (p : LP) {t : Rat} (ht : t ≠ 0) : ev (pnorm p) t = evL p.c t * lsign p := by
  unfold pnorm
  rw [ev_pmul _ _ ht, ev_pterm _ _ ht, ev, Rat.zpow_zero]
  grind
/-- Normal forms ignore units. -/
theorem pnorm_unit {x : LP} (hx : Trimmed x) {s e : Int} (hs : s = 1 ∨ s = -1) : pnorm (pmul x ⟨e, [s]⟩) = pnorm x := by
  by_cases h0 : x.c = []
  · refine ev_ext (pmul_trimmed _ _) (pmul_trimmed _ _) fun t ht => ?_
    rw [ev_pnorm _ ht, ev_pnorm _ ht, pmul_nil (.inl h0), h0]
    simp [pzero, evL]
  · have hu : Trimmed ⟨e, [s]⟩ := ⟨fun h => by simp at h, fun _ => by simp [nth]; omega, fun _ => by simp [nth]; omega⟩
    have hm := pmul_exact hx hu h0 (by simp)
    have ht1 := top_mull x.c [s] h0 (by simp)
    have hl := mull_length x.c [s] h0 (by simp)
    have hl2 : 0 < x.c.length := List.length_pos_iff.2 h0
    refine ev_ext (pmul_trimmed _ _) (pmul_trimmed _ _) fun t ht => ?_
    rw [ev_pnorm _ ht, ev_pnorm _ ht, hm]
    show evL (mull x.c [s]) t * _ = _
    rw [evL_mull]
    have hlast := hx.last h0
    have hls : lsign ⟨x.low + e, mull x.c [s]⟩ = s * lsign x := by
      unfold lsign
      simp only [hl, List.length_cons, List.length_nil] at ht1 ⊢
      rw [show x.c.length + (0 + 1) - 1 - 1 = x.c.length - 1 by omega]
      simp only [Nat.zero_add, Nat.sub_self, Nat.add_zero] at ht1
      rw [ht1, nth_cons_zero]
      rcases hs with rfl | rfl
      · simp
      · split <;> split <;> omega
    rw [hls, Rat.intCast_mul]
    rcases hs with rfl | rfl
    · simp [evL]; grind
    · simp [evL]; grind
theorem within_pnorm {p : LP} {lo hi : Int} (h : Within p lo hi) : Within (pnorm p) 0 (hi - lo) := by
  have h1 : Within ⟨0, p.c⟩ 0 (hi - lo) := by
    rcases h with h | h
    · exact .inl h
    · exact .inr ⟨Int.le_refl _, by show 0 + (p.c.length : Int) ≤ _; omega⟩
  have := within_pmul h1 (within_pterm (lsign p) 0)
  exact this.mono (by omega) (by omega)

end Go.Proofs.Ytplekfgadbjgdaa

namespace Go.Proofs.Ytplekfgadbjgdaa
open Go.RowKit Go.Sl
open Go.Det (sumN dt mul upd Alt uni)

theorem vsum_sumN (f : Nat → Rat) (n : Nat) : vsum f n = sumN f n := by
  induction n with
  | zero => rfl
  | succ n ih => rw [vsum, sumN, ih]
/-- The entries of the Burau matrix. -/
def BW (t : Rat) (w : List Int) (i j : Nat) : Rat := bacts t w (unitV i) j
theorem unit_uni (i j : Nat) : unitV i j = uni i j := by unfold unitV uni; by_cases h : i = j <;> simp [h, eq_comm]
theorem sumN_pick' (n : Nat) (c : Nat → Rat) {i : Nat} (hi : i < n) : sumN (fun k => c k * uni k i) n = c i := by
  rw [Go.Det.sumN_one n i hi (fun k _ hk => by unfold uni; rw [if_neg hk]; simp)]
  unfold uni; simp
/-- A word acts as its matrix does. -/
theorem bacts_sumN {t : Rat} {n : Nat} {w : List Int} (hw : NWord n w) (f : Nat → Rat) {j : Nat} (hj : j < n) : bacts t w f j = sumN (fun k => f k * BW t w k j) n := by
  have h1 := bacts_sum (t := t) w f j n
  rw [vsum_sumN] at h1
  show _ = sumN (fun k => f k * bacts t w (unitV k) j) n
  rw [h1]
  refine bacts_congr w _ _ hw (fun i hi => ?_) j hj
  rw [vsum_pick, if_pos hi]
theorem comb {n : Nat} {F : (Nat → Nat → Rat) → Rat} (h : Alt n F) (A : Nat → Nat → Rat) (c : Nat → Rat) {r : Nat} (hr : r < n) : F (upd A r (fun j => sumN (fun k => c k * A k j) n)) = c r * F A := by
  rw [h.sum A hr]
  rw [Go.Det.sumN_one n r hr fun k hk hkr => ?_]
  · rw [Go.Det.upd_self]
  · rw [h.zero hk hr hkr _ fun j _ => by rw [Go.Det.upd_other _ _ hkr, Go.Det.upd_same]]; simp
end Go.Proofs.Ytplekfgadbjgdaa

namespace Go.Proofs.Ytplekfgadbjgdaa
open Go.RowKit Go.Sl

theorem BWord.nword {n : Nat} {xs : List Int} (h : BWord (n : Int) xs) : NWord n xs := fun x hx => by have := h x hx; omega

end Go.Proofs.Ytplekfgadbjgdaa

namespace Go.Proofs.Ytplekfgadbjgdaa
open Go.RowKit Go.Sl

/-- A right change of m + 1 bells. -/
def Chg (m : Nat) (c : Int) : Prop := ∃ q : Nat, c = q ∧ q < 2 ^ m ∧ q < 64 ∧ q &&& (2 * q) = 0
theorem apart_of : ∀ q : Fin 64, q.val &&& (2 * q.val) = 0 → ∀ j : Fin 6, q.val.testBit j.val = true → q.val.testBit (j.val + 1) = false := by decide +kernel
theorem Chg.apart {m : Nat} {c : Int} (h : Chg m c) : Apart c.toNat := by
  obtain ⟨q, rfl, -, hq, h0⟩ := h
  rw [Int.toNat_natCast]
  intro j hj
  by_cases hj6 : j < 6
  · exact apart_of ⟨q, hq⟩ h0 ⟨j, hj6⟩ hj
  · have : q < 2 ^ j := Nat.lt_of_lt_of_le hq (Nat.le_trans (by decide : 64 ≤ 2 ^ 6) (Nat.pow_le_pow_right (by omega) (by omega)))
    rw [Nat.testBit_lt_two_pow this] at hj
    cases hj

end Go.Proofs.Ytplekfgadbjgdaa

namespace Go.Proofs.Ytplekfgadbjgdaa
open Go.RowKit Go.Sl

/-- The call's own slice of the call's own rows, none empty, each in a block of its own. -/
structure RO (W : World) (B : Nat) (v : Value) (vs : List Value) (xss : List (List Int)) : Prop where
  own : Go.Sl.Own W B 22 1 v vs
  len : vs.length = xss.length
  row : ∀ i, i < xss.length → OwnI W B (nthv vs i) (nthr xss i)
  pos : ∀ i, i < xss.length → 0 < (nthr xss i).length
  apart : ∀ i, i < xss.length → Go.Sl.row v ≠ some (vblk (nthv vs i))
  each : ∀ i j, i < j → j < xss.length → vblk (nthv vs i) ≠ vblk (nthv vs j)
section
variable {W W' : World} {B : Nat} {u r : Value} {vs : List Value} {xss : List (List Int)} {ys : List Int}
theorem RO.rows (h : RO W B u vs xss) : RowsV W u vs xss := ⟨h.own.sl, h.len, fun i hi => (h.row i hi).ints⟩
theorem RO.below (h : RO W B u vs xss) (hb : Below W.heap.size W W') : RO W' B u vs xss := ⟨h.own.below hb, h.len, fun i hi => (h.row i hi).below hb, h.pos, h.apart, h.each⟩
theorem RO.low {B' : Nat} (h : RO W B u vs xss) (hB : B' ≤ B) : RO W B' u vs xss := ⟨h.own.low hB, h.len, fun i hi => (h.row i hi).low hB, h.pos, h.apart, h.each⟩
theorem RO.rowAt (h : RO W B u vs xss) {i : Nat} (hi : i < xss.length) : Go.Sl.row (nthv vs i) = some (vblk (nthv vs i)) := row_some (by have := (h.row i hi).ints.cap; have := h.pos i hi; omega)
theorem RO.blk (h : RO W B u vs xss) {i : Nat} (hi : i < xss.length) : B ≤ vblk (nthv vs i) ∧ vblk (nthv vs i) < W.heap.size := (h.row i hi).lt _ (h.rowAt hi)
end
end Go.Proofs.Ytplekfgadbjgdaa

namespace Go.Proofs.Ytplekfgadbjgdaa
open Go.RowKit Go.Sl

section
variable {W : World} {B : Nat} {u : Value} {vs : List Value} {xss : List (List Int)}
theorem RO.set (h : RO W B u vs xss) {i k : Nat} (hi : i < xss.length) (hk : k < (nthr xss i).length) (x : Int) : RO (W.setCell (vat (nthv vs i) k) (.int .i64 x)) B u vs (xss.set i ((nthr xss i).set k x)) := by
  have hn : ∀ j, j < xss.length → nthr (xss.set i ((nthr xss i).set k x)) j = if j = i then (nthr xss i).set k x else nthr xss j := by
    intro j hj
    by_cases e : j = i
    · subst e; rw [if_pos rfl, nthr_lt (by simp; omega)]; simp
    · rw [if_neg e, nthr_lt (by simp; omega), nthr_lt hj]; simp [Ne.symm e]
  refine ⟨h.own.setOther (fun b hb e => ?_) _, by rw [List.length_set]; exact h.len, fun j hj => ?_, fun j hj => ?_, fun j hj => ?_, fun a b hab hb => ?_⟩
  · simp only [vat_block] at e
    exact h.apart i hi (by rw [hb, e])
  · rw [List.length_set] at hj
    rw [hn j hj]
    by_cases e : j = i
    · subst e; rw [if_pos rfl]; exact (h.row j hj).set hk x
    · rw [if_neg e]
      refine (h.row j hj).setOther (fun b hb eb => ?_) _
      rw [h.rowAt hj] at hb
      simp only [vat_block] at eb
      have hbb : vblk (nthv vs j) = b := Option.some.inj hb
      rcases Nat.lt_or_gt_of_ne e with hlt | hgt
      · exact h.each j i hlt hi (by omega)
      · exact h.each i j hgt hj (by omega)
  · rw [List.length_set] at hj
    rw [hn j hj]
    split
    · rw [List.length_set]; exact h.pos i hi
    · exact h.pos j hj
  · rw [List.length_set] at hj; exact h.apart j hj
  · rw [List.length_set] at hb; exact h.each a b hab hb
end

/-- The first i rows have been written over, and the first k elements of the next one. -/
structure Fld (L m i k : Nat) (xss : List (List Int)) : Prop where
  len : xss.length = L + 1
  each : ∀ j, j < L + 1 → (nthr xss j).length = m + 1
  done : ∀ j, j < i → j < L + 1 → ∀ t, t < m + 1 → nth (nthr xss j) t = -1 - (j : Int)
  here : ∀ t, t < k → t < m + 1 → nth (nthr xss i) t = -1 - (i : Int)
theorem Fld.next {L m i : Nat} {xss : List (List Int)} (h : Fld L m i (m + 1) xss) : Fld L m (i + 1) 0 xss :=
  ⟨h.len, h.each, fun j hj hl t ht => by
    rcases Nat.lt_or_ge j i with h1 | h1
    · exact h.done j h1 hl t ht
    · obtain rfl : j = i := by omega
      exact h.here t ht ht, fun t ht => by omega⟩
theorem Fld.step {L m i k : Nat} {xss : List (List Int)} (h : Fld L m i k xss) (hi : i < L + 1) (hk : k < m + 1) : Fld L m i (k + 1) (xss.set i ((nthr xss i).set k (-1 - (i : Int)))) := by
  have hl := h.len
  have hn : ∀ j, j < L + 1 → nthr (xss.set i ((nthr xss i).set k (-1 - (i : Int)))) j = if j = i then (nthr xss i).set k (-1 - (i : Int)) else nthr xss j := by
    intro j hj
    by_cases e : j = i
    · subst e; rw [if_pos rfl, nthr_lt (by simp; omega)]; simp
    · rw [if_neg e, nthr_lt (by simp; omega)]
      simp only [List.getElem_set, if_neg (Ne.symm e)]
      exact (nthr_lt (by omega)).symm
  refine ⟨by rw [List.length_set]; exact hl, fun j hj => ?_, fun j hj hjl t ht => ?_, fun t ht htm => ?_⟩
  · rw [hn j hj]; split
    · rw [List.length_set]; exact h.each i hi
    · exact h.each j hj
  · rw [hn j hjl, if_neg (by omega)]; exact h.done j hj hjl t ht
  · rw [hn i hi, if_pos rfl]
    by_cases e : t = k
    · subst e; exact nth_set_same _ (by rw [h.each i hi]; exact htm)
    · rw [nth_set_other _ (Ne.symm e)]; exact h.here t (by omega) htm
end Go.Proofs.Ytplekfgadbjgdaa

