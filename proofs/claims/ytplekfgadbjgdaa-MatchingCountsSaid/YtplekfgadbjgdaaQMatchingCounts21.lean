/- The graph of temperleylieb: lists of lines in blocks of their own; lines are laid and taken away. -/
import Derived.Test.YtplekfgadbjgdaaQMatchingCounts0
import Derived.Test.YtplekfgadbjgdaaQMatchingCounts1
import Derived.Test.YtplekfgadbjgdaaQMatchingCounts10
import Derived.Test.YtplekfgadbjgdaaQMatchingCounts11
import Derived.Test.YtplekfgadbjgdaaQMatchingCounts12
import Derived.Test.YtplekfgadbjgdaaQMatchingCounts13
import Derived.Test.YtplekfgadbjgdaaQMatchingCounts14
import Derived.Test.YtplekfgadbjgdaaQMatchingCounts15
import Derived.Test.YtplekfgadbjgdaaQMatchingCounts16
import Derived.Test.YtplekfgadbjgdaaQMatchingCounts17
import Derived.Test.YtplekfgadbjgdaaQMatchingCounts18
import Derived.Test.YtplekfgadbjgdaaQMatchingCounts19
import Derived.Test.YtplekfgadbjgdaaQMatchingCounts20
import Derived.Deep.RegionHeld3
import Derived.Deep.RegionLaw
import Derived.RangeFuncNested
import Derived.RangeFuncBound
import Derived.RangeFuncCalls
import Derived.RangeFuncLeaves
import Derived.RangeFuncBox
import Derived.Shelf.Abstract
import Derived.Shelf.RegionOpen
import Derived.OwnWalkIn
import Derived.TacticsInMore
import Derived.LoopNIn
import Derived.LoopIn
import Derived.Maps.AppendAt
namespace Go.Proofs.Ytplekfgadbjgdaa
open Go.RowKit Go.Sl
open Go.TL (lnAt addLn tlWalk)

def iz (xs : List Nat) : List Int := xs.map Int.ofNat
theorem iz_length (xs : List Nat) : (iz xs).length = xs.length := by simp [iz]
theorem iz_app (xs : List Nat) (x : Nat) : iz (xs ++ [x]) = iz xs ++ [(x : Int)] := by simp [iz]
theorem nth_iz {xs : List Nat} {k : Nat} (h : k < xs.length) : nth (iz xs) k = ((xs[k] : Nat) : Int) := by rw [nth_lt (by simpa [iz] using h)]; simp [iz]
theorem iz_erase (xs : List Nat) : ∀ i : Nat, iz (xs.eraseIdx i) = (iz xs).eraseIdx i := by
  induction xs with
  | nil => intro i; rfl
  | cons x xs ih =>
    intro i
    cases i with
    | zero => rfl
    | succ i => simp only [List.eraseIdx_cons_succ, iz, List.map_cons]; congr 1; exact ih i
theorem lnAt_set {L : List (List Nat)} {a i : Nat} (hi : i < L.length) (x : List Nat) : lnAt (L.set a x) i = if i = a then x else lnAt L i := by
  unfold lnAt
  rw [List.getD_eq_getElem?_getD, List.getD_eq_getElem?_getD, List.getElem?_set]
  by_cases e : a = i
  · subst e; rw [if_pos rfl, if_pos rfl, if_pos hi]; rfl
  · rw [if_neg e, if_neg (Ne.symm e)]
theorem nthv_setN {vs : List Value} {a i : Nat} (hi : i < vs.length) (x : Value) : nthv (vs.set a x) i = if i = a then x else nthv vs i := by
  by_cases e : i = a
  · subst e; rw [if_pos rfl]; simp [nthv, hi]
  · rw [if_neg e]; simp [nthv, Ne.symm e]

/-- The graph in its box g: the rows own blocks of their own from B on. -/
structure GW (W : World) (B g : Nat) (mv : Value) (vs : List Value) (L : List (List Nat)) : Prop where
  box : W.heap[g]? = some (.cells #[mv] 155 (0, 0))
  own : Go.Sl.Own W B 22 1 mv vs
  len : vs.length = L.length
  row : ∀ i, i < L.length → OwnGI W B (nthv vs i) (iz (lnAt L i))
  each : ∀ i j, i < j → j < L.length → ∀ k, Go.Sl.row (nthv vs i) = some k → Go.Sl.row (nthv vs j) ≠ some k
  ge : B ≤ g
section
variable {W W' : World} {B g : Nat} {mv : Value} {vs : List Value} {L : List (List Nat)}
theorem GW.lt (h : GW W B g mv vs L) : g < W.heap.size := (Array.getElem?_eq_some_iff.1 h.box).1
theorem GW.below (h : GW W B g mv vs L) (hb : Below W.heap.size W W') : GW W' B g mv vs L :=
  ⟨(hb.block _ h.lt).trans h.box, h.own.below hb, h.len, fun i hi => (h.row i hi).below hb, h.each, h.ge⟩
theorem GW.c0 (h : GW W B g mv vs L) : W.cell? ⟨g, 0, none⟩ = some mv := by simp [World.cell?, h.box]
theorem GW.low {B' : Nat} (h : GW W B g mv vs L) (hB : B' ≤ B) : GW W B' g mv vs L := ⟨h.box, h.own.low hB, h.len, fun i hi => (h.row i hi).low hB, h.each, Nat.le_trans hB h.ge⟩
theorem GW.cell (h : GW W B g mv vs L) {i : Nat} (hi : i < L.length) : W.cell? (vat mv i) = some (nthv vs i) := by
  rw [nthv_lt (by rw [h.len]; exact hi)]; exact h.own.cell (j := i) (by rw [h.len]; exact hi)
theorem GW.frozen (h : GW W B g mv vs L) {i : Nat} (hi : i < L.length) : W.frozen? (vat mv i) = false := h.own.frozen (j := i) (by rw [h.len]; exact hi)
theorem GW.vlen (h : GW W B g mv vs L) : Go.Sl.vlen mv = L.length := by have := h.own.2.1; have := h.len; omega
theorem GW.rowTy (h : GW W B g mv vs L) {i k : Nat} (hi : i < L.length) (hk : Go.Sl.row (nthv vs i) = some k) : ∃ cur, W.heap[k]? = some (.cells cur 3 (0, 0)) := by
  obtain ⟨h0, rfl⟩ := row_eq hk
  obtain ⟨_, cur, hh, _⟩ := (h.row i hi).2.2 h0
  exact ⟨cur, hh⟩
theorem GW.rowNe (h : GW W B g mv vs L) {i k : Nat} (hi : i < L.length) (hk : Go.Sl.row (nthv vs i) = some k) : k ≠ g ∧ Go.Sl.row mv ≠ some k := by
  obtain ⟨cur, hh⟩ := h.rowTy hi hk
  refine ⟨fun e => ?_, fun e => ?_⟩
  · rw [e, h.box] at hh
    have := (Obj.cells.inj (Option.some.inj hh)).2.1
    revert this; decide
  · obtain ⟨h0, e1⟩ := row_eq e
    obtain ⟨_, _, cur2, hh2, _⟩ := h.own.2.2 h0
    rw [e1, hh] at hh2
    have := (Obj.cells.inj (Option.some.inj hh2)).2.1
    revert this; decide
theorem GW.slNe (h : GW W B g mv vs L) {k : Nat} (hk : Go.Sl.row mv = some k) : k ≠ g := fun e => by
  obtain ⟨h0, e1⟩ := row_eq hk
  obtain ⟨_, _, cur2, hh2, _⟩ := h.own.2.2 h0
  rw [e1, e, h.box] at hh2
  have := (Obj.cells.inj (Option.some.inj hh2)).2.1
  revert this; decide
theorem GW.grownOwn (h : GW W B g mv vs L) {i : Nat} (hi : i < L.length) (hg : W.grownBy W' (Go.Sl.row (nthv vs i))) : Go.Sl.Own W' B 22 1 mv vs := h.own.grown hg fun _k hk e => (h.rowNe hi e).2 hk
theorem GW.grownBox (h : GW W B g mv vs L) {i : Nat} (hi : i < L.length) (hg : W.grownBy W' (Go.Sl.row (nthv vs i))) : W'.cell? ⟨g, 0, none⟩ = some mv := by
  simp [World.cell?, hg.block g h.lt (fun e => (h.rowNe hi e.symm).1 rfl), h.box]
/-- A row is put anew: what it was may have been changed, all else is as it was. -/
theorem GW.put (h : GW W B g mv vs L) {i : Nat} (hi : i < L.length) {r : Value} {ys : List Nat} (hg : W.grownBy W' (Go.Sl.row (nthv vs i))) (hr : OwnGI W' B r (iz ys))
    (hrow : ∀ k, Go.Sl.row r = some k → Go.Sl.row (nthv vs i) = some k ∨ W.heap.size ≤ k) :
    GW (W'.setCell (vat mv i) r) B g mv (vs.set i r) (L.set i ys) := by
  have hiv : i < vs.length := by rw [h.len]; exact hi
  have hmr : Go.Sl.row mv = some (vblk mv) := row_some (by have := h.own.1.le; have := h.own.2.1; omega)
  have own' : Go.Sl.Own W' B 22 1 mv vs := h.own.grown hg fun k hk e => (h.rowNe hi e).2 hk
  have hnew : ∀ j, j < L.length → j ≠ i → ∀ k, Go.Sl.row (nthv vs j) = some k → Go.Sl.row r ≠ some k := fun j hj hne k hk e => by
    rcases hrow k e with q | q
    · rcases Nat.lt_or_gt_of_ne hne with s | s
      · exact h.each j i s hi k hk q
      · exact h.each i j s hj k q hk
    · have := ((h.row j hj).lt k hk).2; omega
  have hrm : ∀ k, Go.Sl.row r = some k → k ≠ vblk mv := fun k hk e => by
    rcases hrow k hk with q | q
    · exact (h.rowNe hi q).2 (by rw [hmr, e])
    · have := (h.own.lt _ hmr).2; omega
  refine ⟨?_, own'.set hiv r, by simp [h.len], fun j hj => ?_, fun a b hab hb k hk => ?_, h.ge⟩
  · have e1 : g ≠ (vat mv i).block := by rw [vat_block]; exact fun e => h.slNe hmr e.symm
    rw [Below.heap_setCell W' (vat mv i) r g e1, hg.block g h.lt (fun e => (h.rowNe hi e.symm).1 rfl)]
    exact h.box
  · rw [List.length_set] at hj
    rw [nthv_setN (by rw [h.len]; exact hj), lnAt_set hj]
    by_cases e : j = i
    · rw [if_pos e, if_pos e]
      exact hr.setOther (fun k hk e2 => hrm k hk (by rw [← e2, vat_block])) _
    · rw [if_neg e, if_neg e]
      have h1 := (h.row j hj).grown hg fun k hk e2 => by
        rcases Nat.lt_or_gt_of_ne e with s | s
        · exact h.each j i s hi k hk e2
        · exact h.each i j s hj k e2 hk
      exact h1.setOther (fun k hk e2 => (h.rowNe hj hk).2 (by rw [hmr, ← e2, vat_block])) _
  · rw [List.length_set] at hb
    rw [nthv_setN (by rw [h.len]; omega)] at hk
    rw [nthv_setN (by rw [h.len]; exact hb)]
    by_cases ea : a = i
    · rw [if_pos ea] at hk
      rw [if_neg (by omega)]
      exact fun q => hnew b hb (by omega) k q hk
    · rw [if_neg ea] at hk
      by_cases eb : b = i
      · rw [if_pos eb]; exact hnew a (by omega) ea k hk
      · rw [if_neg eb]; exact h.each a b hab hb k hk
end

/-- append of one number, where the slice need not begin at the head of its block. -/
theorem run_pushGI {w : World} (ty : TypeId) {B : Nat} {v : Value} {xs : List Int} {z : Int} (hown : OwnGI w B v xs) (hB : B ≤ w.heap.size) (hlen : xs.length ≤ 1000000) :
    ∃ v' w', (Builtin.append_ #[22, 22] ty #[v, .slice (some ⟨w.heap.size, 0, none⟩) 1 1]).run Try.prog (w.alloc (.cells #[.int .i64 z] 3)) = .ok v' w' ∧
      OwnGI w' B v' (xs ++ [z]) ∧ w.grownBy w' (row v) ∧ (∀ k, row v' = some k → row v = some k ∨ w.heap.size ≤ k) ∧ IsSl v' := by
  obtain ⟨i, hi, hz0, hz1, hz2⟩ := info_parts info_int
  have hl := hown.2.1
  rw [List.length_map] at hl
  have h1u : ∀ x ∈ [Value.int .i64 z], x.oneCell' = true := by intro x hx; simp at hx; subst hx; rfl
  have hnews : ∀ j x, [Value.int .i64 z][j]? = some x → (w.alloc (.cells #[.int .i64 z] 3)).cell? ((⟨w.heap.size, 0, none⟩ : Addr).add j) = some x := by
    intro j x hx
    have := (sl_one w (.int .i64 z) 3).2.2 j x hx
    rw [vat_mk] at this
    rw [Addr.add_lit]; exact this
  have hown' : OwnG (w.alloc (.cells #[.int .i64 z] 3)) B 3 v (xs.map (Value.int .i64)) := OwnG.alloc hown _
  have gal : ∀ {w2 : World} {r : Option Nat}, (w.alloc (.cells #[.int .i64 z] 3)).grownBy w2 r → w.grownBy w2 r := by
    intro w2 r hg
    exact ⟨hg.os, hg.tape, hg.output, by have := hg.size; simp at this; omega, fun k hk hr => (hg.block k (by simp; omega) hr).trans (Below.heap_alloc w _ k hk)⟩
  have emap : (xs ++ [z]).map (Value.int .i64) = xs.map (Value.int .i64) ++ [Value.int .i64 z] := by simp
  by_cases hnil : vcap v = 0
  · have hcs : xs = [] := List.eq_nil_of_length_eq_zero (by have := hown.1.le; omega)
    subst hcs
    obtain ⟨a, n, c, rfl, hn, hc, ha⟩ := hown.1.cases
    simp only [vcap_mk, vlen_mk, List.length_nil] at hnil hl
    subst hnil
    obtain rfl : n = 0 := hl.symm
    have hx := sl_one w (.int .i64 z) 3
    obtain ⟨v', w', hr, ho, hg, hrow⟩ := run_append_sl (P := Try.prog) (w.alloc (.cells #[.int .i64 z] 3)) B 22 ty 3 i _ 1 8 Try.underlying22 hi hz0 hz1 hz2 rfl (by decide)
      (v := .slice a 0 0) (x := .slice (some ⟨w.heap.size, 0, none⟩) 1 1) (cs := []) (news := [.int .i64 z]) ⟨hown.1, by simp, by simp⟩ hx h1u (by simp [maxLen]) (by simp) (by simp; omega)
    have hrow' : ∀ k, row v' = some k → row (.slice a 0 0) = some k ∨ w.heap.size ≤ k := fun k hk => (hrow k hk).imp id (fun h => by simp at h; omega)
    exact ⟨v', w', hr, by unfold OwnGI; simpa using own_G ho, gal hg, hrow', ho.1⟩
  · obtain ⟨a, n, c, rfl, hn, hc, ha⟩ := hown.1.cases
    simp only [vcap_mk, vlen_mk] at hnil hl
    obtain ⟨g, o, rfl⟩ := ha (by omega)
    by_cases hroom : n + 1 ≤ c
    · have hr := run_append_room_cells (P := Try.prog) (w.alloc (.cells #[.int .i64 z] 3)) 22 ty 3 i Try.underlying22 hi g o n c ⟨w.heap.size, 0, none⟩ 1 1 [.int .i64 z] (by rw [hz1]; rfl) hnews h1u hroom
        (by intro j hj; have := hown'.there (j := n + j) (by simp at hj ⊢; omega); rw [vat_mk] at this; rw [hz1, Nat.mul_one, show o + n + j = o + (n + j) by omega]; exact this)
        (by intro j hj; have := hown'.frozen (j := n + j) (by simp at hj ⊢; omega); rw [vat_mk] at this; rw [hz1, Nat.mul_one, show o + n + j = o + (n + j) by omega]; exact this)
      rw [hz1, Nat.mul_one] at hr
      have hset : (w.alloc (.cells #[.int .i64 z] 3)).setCells g (o + n) [.int .i64 z] = (w.alloc (.cells #[.int .i64 z] 3)).setCell ⟨g, o + n, none⟩ (.int .i64 z) := rfl
      rw [hset] at hr
      refine ⟨_, _, hr, ⟨isSl_mk _ _ _ _ hroom hc, by simp; omega, fun _ => ?_⟩, gal ⟨rfl, rfl, rfl, by simp, fun k _ hk => Below.heap_setCell _ _ _ k (fun e => hk (by rw [row_some (v := .slice (some ⟨g, o, none⟩) n c) (by simp; omega), vblk_mk, e]))⟩, fun k hk => .inl ?_, isSl_mk _ _ _ _ hroom hc⟩
      · obtain ⟨hBg, cur, hh, hs, hcc⟩ := hown'.2.2 (by simp; omega)
        have e1 : vblk (.slice (some ⟨g, o, none⟩) n c) = g := rfl
        have e2 : voff (.slice (some ⟨g, o, none⟩) n c) = o := rfl
        have e3 : vblk (.slice (some ⟨g, o, none⟩) (n + 1) c) = g := rfl
        have e4 : voff (.slice (some ⟨g, o, none⟩) (n + 1) c) = o := rfl
        rw [e1] at hBg hh
        rw [e2, vcap_mk] at hs
        rw [e2] at hcc
        rw [e3, e4, vcap_mk]
        refine ⟨hBg, cur.setIfInBounds (o + n) (.int .i64 z), by simp only [World.setCell, Array.getElem?_modify, hh]; simp, by simpa using hs, fun j hj => ?_⟩
        rw [emap] at hj ⊢
        rw [List.length_append, List.length_map] at hj
        simp only [List.length_cons, List.length_nil] at hj
        by_cases ej : j = n
        · subst ej
          rw [Array.getElem?_setIfInBounds_self_of_lt (by omega), ← hl, List.getElem?_append_right (by simp)]; simp
        · rw [Array.getElem?_setIfInBounds_ne (by omega), hcc j (by simp; omega), List.getElem?_append_left (by simp; omega)]
      · obtain ⟨_, hk⟩ := row_eq hk
        rw [row_some (v := .slice (some ⟨g, o, none⟩) n c) (by simp; omega), vblk_mk]; simpa [vblk] using hk
    · obtain ⟨v', w', hr, ho, hg⟩ := run_append_arg_grows (P := Try.prog) (w.alloc (.cells #[.int .i64 z] 3)) 22 ty 3 i _ 1 8 Try.underlying22 hi hz0 hz1 hz2 rfl (by decide)
        ⟨g, o, none⟩ n c (xs.map (Value.int .i64)) (by simp; omega) (by intro j x hx; have := hown'.sl.2.2 j x hx; rw [vat_mk] at this; rw [Addr.add_lit]; exact this) ⟨w.heap.size, 0, none⟩ 1 1 [.int .i64 z] (by simp) hnews (by omega) (by simp only [maxLen]; omega) (by omega)
      obtain ⟨hol, ho⟩ := ho
      rcases ho with ⟨rfl, h0⟩ | ⟨g2, c2, cur, rfl, hb2, hh2, h3, h4, h5, h6⟩
      · simp at h0
      · refine ⟨_, _, hr, ⟨isSl_mk _ _ _ _ h3 h4, by simp; omega, fun _ => ⟨?_, cur, hh2, ?_, fun j hj => ?_⟩⟩, gal ⟨hg.os, hg.tape, hg.output, hg.size, fun k hk _ => hg.block k hk (by simp)⟩, fun k hk => .inr ?_, isSl_mk _ _ _ _ h3 h4⟩
        · show B ≤ g2; simp at hb2; omega
        · show 0 + c2 ≤ cur.size; omega
        · show cur[0 + j]? = _
          rw [emap] at hj ⊢
          have h7 : (cur.toList.take (xs.map (Value.int .i64) ++ [Value.int .i64 z]).length)[j]? = (xs.map (Value.int .i64) ++ [Value.int .i64 z])[j]? := by rw [hol, h6]
          rw [List.getElem?_take, if_pos hj] at h7
          rw [Nat.zero_add]; simpa using h7
        · obtain ⟨_, hk⟩ := row_eq hk
          have : g2 = k := hk
          simp at hb2; omega
theorem step_push {w : World} {ops : Array Oper} {o : Oper} {a : Act} {K : Act → World → Prop} {Q : Exit → Act → World → Prop} {E : Prop} (hgd : o.guard = none) (s x : Operand)
    (ho : o.op = .call { callee := .builtin .append, args := #[s, x], argTypes := #[22, 22] })
    {v y v1 : Value} {w1 : World} (hs : a.eval s = v) (hx : a.eval x = y) (hr : (Builtin.append_ #[22, 22] o.type #[v, y]).run Try.prog w = .ok v1 w1) (hK : K (a.put o.dst v1) w1) :
    if Region.wanted o (yielded ops a.tmps) = true then Oper.wp Try.prog o a w K Q else E := by
  have hw : Region.wanted o (yielded ops a.tmps) = true := by simp [Region.wanted, hgd]
  rw [if_pos hw]
  unfold Oper.wp execOp
  simp only [ho, resolve, invoke, builtin, Sem.run_bind, Sem.run_pure, Result.andThen_ok, List.map_toArray, List.map_cons, List.map_nil, hs, hx, hr]
  exact hK

theorem body_end0 {fn : Func} {R : Ending → World → Prop} {a : Act} {w : World} (hr : fn.results = #[]) (hd : a.defers = []) (hR : R (.returned (.tuple #[])) w) : bodyPost Try.prog fn R .normal a w :=
  ⟨hd, .tuple #[], by simp [results, hr], hR⟩

set_option maxRecDepth 100000 in
set_option maxHeartbeats 4000000 in
theorem line_calls (a b B g : Nat) (mv : Value) (vs : List Value) (L : List (List Nat)) (w : World) (h : GW w B g mv vs L) (ha : a < L.length) (hb : b < L.length) (hL : ∀ i, (lnAt L i).length ≤ 1000) :
    Calls Try.prog 137 #[.pointer (some ⟨g, 0, none⟩), .int .i64 a, .int .i64 b] w fun e w' => e = .returned (.tuple #[]) ∧ (∃ vs', GW w' B g mv vs' (addLn L a b)) ∧ Below B w w' := by
  have hlb : (lnAt (L.set a (lnAt L a ++ [b])) b).length ≤ 1001 := by
    rw [lnAt_set hb]
    have h1 := hL a
    have h2 := hL b
    split
    · simp; omega
    · omega
  have ca1 := h.c0
  have smv1 := h.own.1
  have lmv1 := h.vlen
  have hla1 : a < (L).length := by simpa using ha
  have ra1 := h.cell hla1
  have fa1 := h.frozen hla1
  obtain ⟨r1, hr1⟩ : ∃ r, nthv vs a = r := ⟨_, rfl⟩
  have hBw1 : B ≤ (w).heap.size := by have := h.lt; have := h.ge; omega
  have gd1 := h.below ((Below.refl (w).heap.size (w)).drew)
  have rd1 := gd1.row a hla1
  rw [hr1] at rd1 ra1
  obtain ⟨s1, w1, hrun1, ho1, hg1, hrow1, ss1⟩ := run_pushGI (w := (w).drew) (z := (b : Int)) 22 rd1 hBw1 (by rw [iz_length]; exact by have := hL a; omega)
  have al1 := gd1.below ((Below.refl (w).drew.heap.size (w).drew).alloc (Nat.le_refl _) (.cells #[.int .i64 b] 3))
  rw [← iz_app] at ho1
  rw [← hr1] at hg1 hrow1
  have gp1 := gd1.put hla1 hg1 ho1 hrow1
  have t01 := gd1.c0
  have t11 := al1.c0
  have al11 := al1.cell hla1
  rw [hr1] at al11
  have gd11 := gd1.cell hla1
  rw [hr1] at gd11
  have ow1 := gd1.grownOwn hla1 hg1
  have t21 := gd1.grownBox hla1 hg1
  have is1 : (w1.cell? (vat mv a)).isSome = true := by rw [ow1.cell (j := a) (by rw [gd1.len]; exact hla1)]; rfl
  have ff1 := ow1.frozen (j := a) (by rw [gd1.len]; exact hla1)
  have t31 := gp1.c0
  have bl1 : Below B (w) (w1.setCell (vat mv a) s1) := by
    have q1 : Below B (w) (w).drew := (Below.refl _ _).drew
    exact (q1.grown hg1 hBw1 fun k hk => ((gd1.row a hla1).lt k hk).1).setCell (ow1.ge (j := a) (by rw [gd1.len]; exact hla1)) _
  have HGP1 := Lib.hid gp1; have HBL1 := Lib.hid bl1
  have alw1 : (World.alloc (w) (.cells #[.int .i64 b] 3)).cell? (vat mv a) = some r1 := al11
  clear gd1 rd1 al1 ho1 hg1 hrow1 ow1 gp1 bl1 hr1 hBw1
  have HLB := Lib.hid hlb
  clear h hL hlb
  go_enter Try.func137, Try.ntmps137
  go_wp2_with fail
  refine wp_region_held_drew (S := fun W => W.cell? ⟨g, 0, none⟩ = some mv) (by kernel_rfl) (t01) (fun hHeld => ?_)
  refine' wpAnyH_take (i := 0) (oi := ?oiz1) (v := ?vz1) ?haz1 (by kernel_rfl) ?hfz1 ?hrz1 ?hQz1 (Or.inl ⟨?hwz1, ?hyz1⟩) (by assumption) ?restz1
  case haz1 => (simp only [List.getElem?_toArray, List.getElem?_cons_zero]; exact rfl)
  case hQz1 => exact fun _ _ _ h => h
  case hfz1 => kernel_rfl
  case hrz1 => kernel_rfl
  case hwz1 => rfl
  case hyz1 => (intro w hSw; (try dsimp only at hSw); have e0 := hSw; go_simp; (try with_reducible rfl))
  try simp only [Act.put, List.setIfInBounds_toArray, List.set_cons_zero, List.set_cons_succ]
  refine' wpAnyH_take (i := 1) (oi := ?oiz2) (v := ?vz2) ?haz2 (by kernel_rfl) ?hfz2 ?hrz2 ?hQz2 (Or.inl ⟨?hwz2, ?hyz2⟩) (by assumption) ?restz2
  case haz2 => (simp only [List.getElem?_toArray, List.getElem?_cons_succ, List.getElem?_cons_zero]; exact rfl)
  case hQz2 => exact fun _ _ _ h => h
  case hfz2 => kernel_rfl
  case hrz2 => kernel_rfl
  case hwz2 => rfl
  case hyz2 => (intro w hSw; (try dsimp only at hSw); have e0 := hSw; go_simp; (try with_reducible rfl))
  try simp only [Act.put, List.setIfInBounds_toArray, List.set_cons_zero, List.set_cons_succ]
  refine' wpAnyH_take (i := 2) (oi := ?oiz3) (v := ?vz3) ?haz3 (by kernel_rfl) ?hfz3 ?hrz3 ?hQz3 (Or.inl ⟨?hwz3, ?hyz3⟩) (by assumption) ?restz3
  case haz3 => (simp only [List.getElem?_toArray, List.getElem?_cons_succ, List.getElem?_cons_zero]; exact rfl)
  case hQz3 => exact fun _ _ _ h => h
  case hfz3 => kernel_rfl
  case hrz3 => kernel_rfl
  case hwz3 => rfl
  case hyz3 => (intro w hSw; (try dsimp only at hSw); have e0 := hSw; go_simp; (try with_reducible rfl))
  try simp only [Act.put, List.setIfInBounds_toArray, List.set_cons_zero, List.set_cons_succ]
  refine' wpAnyH_take (i := 3) (oi := ?oiz4) (v := ?vz4) ?haz4 (by kernel_rfl) ?hfz4 ?hrz4 ?hQz4 (Or.inl ⟨?hwz4, ?hyz4⟩) (by assumption) ?restz4
  case haz4 => (simp only [List.getElem?_toArray, List.getElem?_cons_succ, List.getElem?_cons_zero]; exact rfl)
  case hQz4 => exact fun _ _ _ h => h
  case hfz4 => kernel_rfl
  case hrz4 => kernel_rfl
  case hwz4 => rfl
  case hyz4 => (intro w hSw; (try dsimp only at hSw); have e0 := hSw; go_simp; (try with_reducible rfl))
  try simp only [Act.put, List.setIfInBounds_toArray, List.set_cons_zero, List.set_cons_succ]
  refine' wpAnyH_take (i := 4) (oi := ?oiz5) (v := ?vz5) ?haz5 (by kernel_rfl) ?hfz5 ?hrz5 ?hQz5 (Or.inl ⟨?hwz5, ?hyz5⟩) (by assumption) ?restz5
  case haz5 => (simp only [List.getElem?_toArray, List.getElem?_cons_succ, List.getElem?_cons_zero]; exact rfl)
  case hQz5 => exact fun _ _ _ h => h
  case hfz5 => kernel_rfl
  case hrz5 => kernel_rfl
  case hwz5 => rfl
  case hyz5 => (intro w hSw; (try dsimp only at hSw); have e0 := hSw; go_simp; (try with_reducible rfl))
  try simp only [Act.put, List.setIfInBounds_toArray, List.set_cons_zero, List.set_cons_succ]
  refine' wpAnyH_take (i := 5) (oi := ?oiz6) (v := ?vz6) ?haz6 (by kernel_rfl) ?hfz6 ?hrz6 ?hQz6 (Or.inl ⟨?hwz6, ?hyz6⟩) (by assumption) ?restz6
  case haz6 => (simp only [List.getElem?_toArray, List.getElem?_cons_succ, List.getElem?_cons_zero]; exact rfl)
  case hQz6 => exact fun _ _ _ h => h
  case hfz6 => kernel_rfl
  case hrz6 => kernel_rfl
  case hwz6 => rfl
  case hyz6 => (intro w hSw; (try dsimp only at hSw); have e0 := hSw; go_simp; (try with_reducible rfl))
  try simp only [Act.put, List.setIfInBounds_toArray, List.set_cons_zero, List.set_cons_succ]
  refine' wpAnyH_take (i := 6) (oi := ?oiz7) (v := ?vz7) ?haz7 (by kernel_rfl) ?hfz7 ?hrz7 ?hQz7 (Or.inl ⟨?hwz7, ?hyz7⟩) (by assumption) ?restz7
  case haz7 => (simp only [List.getElem?_toArray, List.getElem?_cons_succ, List.getElem?_cons_zero]; exact rfl)
  case hQz7 => exact fun _ _ _ h => h
  case hfz7 => kernel_rfl
  case hrz7 => kernel_rfl
  case hwz7 => rfl
  case hyz7 => (intro w hSw; (try dsimp only at hSw); have e0 := hSw; go_simp; (try with_reducible rfl))
  try simp only [Act.put, List.setIfInBounds_toArray, List.set_cons_zero, List.set_cons_succ]
  refine' wpAnyH_take (i := 7) (oi := ?oiz8) (v := ?vz8) ?haz8 (by kernel_rfl) ?hfz8 ?hrz8 ?hQz8 (Or.inl ⟨?hwz8, ?hyz8⟩) (by assumption) ?restz8
  case haz8 => (simp only [List.getElem?_toArray, List.getElem?_cons_succ, List.getElem?_cons_zero]; exact rfl)
  case hQz8 => exact fun _ _ _ h => h
  case hfz8 => kernel_rfl
  case hrz8 => kernel_rfl
  case hwz8 => rfl
  case hyz8 => (intro w hSw; (try dsimp only at hSw); have e0 := hSw; go_simp; (try with_reducible rfl))
  try simp only [Act.put, List.setIfInBounds_toArray, List.set_cons_zero, List.set_cons_succ]
  refine' wpAnyH_take (i := 8) (oi := ?oiz9) (v := ?vz9) ?haz9 (by kernel_rfl) ?hfz9 ?hrz9 ?hQz9 (Or.inl ⟨?hwz9, ?hyz9⟩) (by assumption) ?restz9
  case haz9 => (simp only [List.getElem?_toArray, List.getElem?_cons_succ, List.getElem?_cons_zero]; exact rfl)
  case hQz9 => exact fun _ _ _ h => h
  case hfz9 => kernel_rfl
  case hrz9 => kernel_rfl
  case hwz9 => rfl
  case hyz9 => (intro w hSw; (try dsimp only at hSw); have e0 := hSw; go_simp; (try with_reducible rfl))
  try simp only [Act.put, List.setIfInBounds_toArray, List.set_cons_zero, List.set_cons_succ]
  refine' wpAnyH_take (i := 9) (oi := ?oiz10) (v := ?vz10) ?haz10 (by kernel_rfl) ?hfz10 ?hrz10 ?hQz10 (Or.inl ⟨?hwz10, ?hyz10⟩) (by assumption) ?restz10
  case haz10 => (simp only [List.getElem?_toArray, List.getElem?_cons_succ, List.getElem?_cons_zero]; exact rfl)
  case hQz10 => exact fun _ _ _ h => h
  case hfz10 => kernel_rfl
  case hrz10 => kernel_rfl
  case hwz10 => rfl
  case hyz10 => (intro w hSw; (try dsimp only at hSw); have e0 := hSw; go_simp; (try with_reducible rfl))
  try simp only [Act.put, List.setIfInBounds_toArray, List.set_cons_zero, List.set_cons_succ]
  refine' wpAnyH_take (i := 10) (oi := ?oiz11) (v := ?vz11) ?haz11 (by kernel_rfl) ?hfz11 ?hrz11 ?hQz11 (Or.inl ⟨?hwz11, ?hyz11⟩) (by assumption) ?restz11
  case haz11 => (simp only [List.getElem?_toArray, List.getElem?_cons_succ, List.getElem?_cons_zero]; exact rfl)
  case hQz11 => exact fun _ _ _ h => h
  case hfz11 => kernel_rfl
  case hrz11 => kernel_rfl
  case hwz11 => rfl
  case hyz11 => (intro w hSw; (try dsimp only at hSw); have e0 := hSw; go_simp; (try with_reducible rfl))
  try simp only [Act.put, List.setIfInBounds_toArray, List.set_cons_zero, List.set_cons_succ]
  refine' wpAnyH_take (i := 12) (oi := ?oiz12) (v := ?vz12) ?haz12 (by kernel_rfl) ?hfz12 ?hrz12 ?hQz12 (Or.inl ⟨?hwz12, ?hyz12⟩) (by assumption) ?restz12
  case haz12 => (simp only [List.getElem?_toArray, List.getElem?_cons_succ, List.getElem?_cons_zero]; exact rfl)
  case hQz12 => exact fun _ _ _ h => h
  case hfz12 => kernel_rfl
  case hrz12 => kernel_rfl
  case hwz12 => rfl
  case hyz12 => (intro w hSw; (try dsimp only at hSw); have e0 := hSw; go_simp; (try with_reducible rfl))
  try simp only [Act.put, List.setIfInBounds_toArray, List.set_cons_zero, List.set_cons_succ]
  refine wpAnyH_ready (rs := [11, 13]) (by kernel_rfl) (by simp) ?_
  refine' AllReadyH.cons (o := ?oiz65) ?haz65 (fun K hK => ?stepz65) (AllReadyH.cons (o := ?oiz66) ?haz66 (fun K hK => ?stepz66) AllReadyH.nil)
  case haz65 => (simp only [List.getElem?_toArray, List.getElem?_cons_succ, List.getElem?_cons_zero]; exact rfl)
  case haz66 => (simp only [List.getElem?_toArray, List.getElem?_cons_succ, List.getElem?_cons_zero]; exact rfl)
  case stepz65 =>
    go_simp
    refine hK.out _ _ (t01) (fun hHeld => ?_)
    clear hK K
    try simp only [Act.put, List.setIfInBounds_toArray, List.set_cons_zero, List.set_cons_succ]
    refine wpAnyH_ready (rs := [13]) (by kernel_rfl) (by simp) ?_
    refine' AllReadyH.cons (o := ?oiz38) ?haz38 (fun K hK => ?stepz38) AllReadyH.nil
    case haz38 => (simp only [List.getElem?_toArray, List.getElem?_cons_succ, List.getElem?_cons_zero]; exact rfl)
    go_simp
    refine hK.out _ _ (t11) (fun hHeld => ?_)
    clear hK K
    try simp only [Act.put, List.setIfInBounds_toArray, List.set_cons_zero, List.set_cons_succ]
    refine wpAnyH_ready (rs := [14]) (by kernel_rfl) (by simp) ?_
    refine' AllReadyH.cons (o := ?oiz13) ?haz13 (fun K hK => ?stepz13) AllReadyH.nil
    case haz13 => (simp only [List.getElem?_toArray, List.getElem?_cons_succ, List.getElem?_cons_zero]; exact rfl)
    refine step_push rfl (.tmp 17) (.tmp 19) rfl rfl rfl hrun1 ?_
    refine hK.out _ _ (t21) (fun hHeld => ?_)
    clear hK K
    try simp only [Act.put, List.setIfInBounds_toArray, List.set_cons_zero, List.set_cons_succ]
    refine' wpAnyH_take (i := 15) (oi := ?oiz14) (v := ?vz14) ?haz14 (by kernel_rfl) ?hfz14 ?hrz14 ?hQz14 (Or.inl ⟨?hwz14, ?hyz14⟩) (by assumption) ?restz14
    case haz14 => (simp only [List.getElem?_toArray, List.getElem?_cons_succ, List.getElem?_cons_zero]; exact rfl)
    case hQz14 => exact fun _ _ _ h => h
    case hfz14 => kernel_rfl
    case hrz14 => kernel_rfl
    case hwz14 => rfl
    case hyz14 => (intro w hSw; (try dsimp only at hSw); have e0 := hSw; go_simp; (try with_reducible rfl))
    try simp only [Act.put, List.setIfInBounds_toArray, List.set_cons_zero, List.set_cons_succ]
    refine wpAnyH_ready (rs := [16]) (by kernel_rfl) (by simp) ?_
    refine' AllReadyH.cons (o := ?oiz15) ?haz15 (fun K hK => ?stepz15) AllReadyH.nil
    case haz15 => (simp only [List.getElem?_toArray, List.getElem?_cons_succ, List.getElem?_cons_zero]; exact rfl)
    go_simp
    refine hK.out _ _ (t31) (fun hHeld => ?_)
    clear hK K
    try simp only [Act.put, List.setIfInBounds_toArray, List.set_cons_zero, List.set_cons_succ]
    refine wpAnyH_done (by kernel_rfl) ?_ _
    obtain ⟨V, hV⟩ : ∃ V, V = w1.setCell (vat mv a) s1 := ⟨_, rfl⟩
    rw [← hV]
    rw [← hV] at HGP1 HBL1
    clear hV t01 t11 t21 t31 hrun1 al11 gd11 is1 ff1 alw1 ra1 fa1 ca1 hla1 ss1
    have HGQ := HGP1.out
    have cab1 := HGQ.c0
    have smvb1 := HGQ.own.1
    have lmvb1 := HGQ.vlen
    have hlab1 : b < (L.set a (lnAt L a ++ [b])).length := by simpa using hb
    have rab1 := HGQ.cell hlab1
    have fab1 := HGQ.frozen hlab1
    obtain ⟨rb1, hrb1⟩ : ∃ r, nthv (vs.set a s1) b = r := ⟨_, rfl⟩
    have hBwb1 : B ≤ (V).heap.size := by have := HGQ.lt; have := HGQ.ge; omega
    have gdb1 := HGQ.below ((Below.refl (V).heap.size (V)).drew)
    have rdb1 := gdb1.row b hlab1
    rw [hrb1] at rdb1 rab1
    obtain ⟨sb1, wb1, hrunb1, hob1, hgb1, hrowb1, ssb1⟩ := run_pushGI (w := (V).drew) (z := (a : Int)) 22 rdb1 hBwb1 (by rw [iz_length]; exact by have := HLB.out; omega)
    have alb1 := gdb1.below ((Below.refl (V).drew.heap.size (V).drew).alloc (Nat.le_refl _) (.cells #[.int .i64 a] 3))
    rw [← iz_app] at hob1
    rw [← hrb1] at hgb1 hrowb1
    have gpb1 := gdb1.put hlab1 hgb1 hob1 hrowb1
    have t0b1 := gdb1.c0
    have t1b1 := alb1.c0
    have al1b1 := alb1.cell hlab1
    rw [hrb1] at al1b1
    have gd1b1 := gdb1.cell hlab1
    rw [hrb1] at gd1b1
    have owb1 := gdb1.grownOwn hlab1 hgb1
    have t2b1 := gdb1.grownBox hlab1 hgb1
    have isb1 : (wb1.cell? (vat mv b)).isSome = true := by rw [owb1.cell (j := b) (by rw [gdb1.len]; exact hlab1)]; rfl
    have ffb1 := owb1.frozen (j := b) (by rw [gdb1.len]; exact hlab1)
    have t3b1 := gpb1.c0
    have blb1 : Below B (V) (wb1.setCell (vat mv b) sb1) := by
      have q1 : Below B (V) (V).drew := (Below.refl _ _).drew
      exact (q1.grown hgb1 hBwb1 fun k hk => ((gdb1.row b hlab1).lt k hk).1).setCell (owb1.ge (j := b) (by rw [gdb1.len]; exact hlab1)) _
    have HGPb1 := Lib.hid gpb1; have HBLb1 := Lib.hid blb1
    have alwb1 : (World.alloc (V) (.cells #[.int .i64 a] 3)).cell? (vat mv b) = some rb1 := al1b1
    clear gdb1 rdb1 alb1 hob1 hgb1 hrowb1 owb1 gpb1 blb1 hrb1 hBwb1
    clear HGQ
    go_wp2_with fail
    refine wp_region_held_drew (S := fun W => W.cell? ⟨g, 0, none⟩ = some mv) (by kernel_rfl) (t0b1) (fun hHeld => ?_)
    refine' wpAnyH_take (i := 0) (oi := ?oiz16) (v := ?vz16) ?haz16 (by kernel_rfl) ?hfz16 ?hrz16 ?hQz16 (Or.inl ⟨?hwz16, ?hyz16⟩) (by assumption) ?restz16
    case haz16 => (simp only [List.getElem?_toArray, List.getElem?_cons_zero]; exact rfl)
    case hQz16 => exact fun _ _ _ h => h
    case hfz16 => kernel_rfl
    case hrz16 => kernel_rfl
    case hwz16 => rfl
    case hyz16 => (intro w hSw; (try dsimp only at hSw); have e0 := hSw; go_simp; (try with_reducible rfl))
    try simp only [Act.put, List.setIfInBounds_toArray, List.set_cons_zero, List.set_cons_succ]
    refine' wpAnyH_take (i := 1) (oi := ?oiz17) (v := ?vz17) ?haz17 (by kernel_rfl) ?hfz17 ?hrz17 ?hQz17 (Or.inl ⟨?hwz17, ?hyz17⟩) (by assumption) ?restz17
    case haz17 => (simp only [List.getElem?_toArray, List.getElem?_cons_succ, List.getElem?_cons_zero]; exact rfl)
    case hQz17 => exact fun _ _ _ h => h
    case hfz17 => kernel_rfl
    case hrz17 => kernel_rfl
    case hwz17 => rfl
    case hyz17 => (intro w hSw; (try dsimp only at hSw); have e0 := hSw; go_simp; (try with_reducible rfl))
    try simp only [Act.put, List.setIfInBounds_toArray, List.set_cons_zero, List.set_cons_succ]
    refine' wpAnyH_take (i := 2) (oi := ?oiz18) (v := ?vz18) ?haz18 (by kernel_rfl) ?hfz18 ?hrz18 ?hQz18 (Or.inl ⟨?hwz18, ?hyz18⟩) (by assumption) ?restz18
    case haz18 => (simp only [List.getElem?_toArray, List.getElem?_cons_succ, List.getElem?_cons_zero]; exact rfl)
    case hQz18 => exact fun _ _ _ h => h
    case hfz18 => kernel_rfl
    case hrz18 => kernel_rfl
    case hwz18 => rfl
    case hyz18 => (intro w hSw; (try dsimp only at hSw); have e0 := hSw; go_simp; (try with_reducible rfl))
    try simp only [Act.put, List.setIfInBounds_toArray, List.set_cons_zero, List.set_cons_succ]
    refine' wpAnyH_take (i := 3) (oi := ?oiz19) (v := ?vz19) ?haz19 (by kernel_rfl) ?hfz19 ?hrz19 ?hQz19 (Or.inl ⟨?hwz19, ?hyz19⟩) (by assumption) ?restz19
    case haz19 => (simp only [List.getElem?_toArray, List.getElem?_cons_succ, List.getElem?_cons_zero]; exact rfl)
    case hQz19 => exact fun _ _ _ h => h
    case hfz19 => kernel_rfl
    case hrz19 => kernel_rfl
    case hwz19 => rfl
    case hyz19 => (intro w hSw; (try dsimp only at hSw); have e0 := hSw; go_simp; (try with_reducible rfl))
    try simp only [Act.put, List.setIfInBounds_toArray, List.set_cons_zero, List.set_cons_succ]
    refine' wpAnyH_take (i := 4) (oi := ?oiz20) (v := ?vz20) ?haz20 (by kernel_rfl) ?hfz20 ?hrz20 ?hQz20 (Or.inl ⟨?hwz20, ?hyz20⟩) (by assumption) ?restz20
    case haz20 => (simp only [List.getElem?_toArray, List.getElem?_cons_succ, List.getElem?_cons_zero]; exact rfl)
    case hQz20 => exact fun _ _ _ h => h
    case hfz20 => kernel_rfl
    case hrz20 => kernel_rfl
    case hwz20 => rfl
    case hyz20 => (intro w hSw; (try dsimp only at hSw); have e0 := hSw; go_simp; (try with_reducible rfl))
    try simp only [Act.put, List.setIfInBounds_toArray, List.set_cons_zero, List.set_cons_succ]
    refine' wpAnyH_take (i := 5) (oi := ?oiz21) (v := ?vz21) ?haz21 (by kernel_rfl) ?hfz21 ?hrz21 ?hQz21 (Or.inl ⟨?hwz21, ?hyz21⟩) (by assumption) ?restz21
    case haz21 => (simp only [List.getElem?_toArray, List.getElem?_cons_succ, List.getElem?_cons_zero]; exact rfl)
    case hQz21 => exact fun _ _ _ h => h
    case hfz21 => kernel_rfl
    case hrz21 => kernel_rfl
    case hwz21 => rfl
    case hyz21 => (intro w hSw; (try dsimp only at hSw); have e0 := hSw; go_simp; (try with_reducible rfl))
    try simp only [Act.put, List.setIfInBounds_toArray, List.set_cons_zero, List.set_cons_succ]
    refine' wpAnyH_take (i := 6) (oi := ?oiz22) (v := ?vz22) ?haz22 (by kernel_rfl) ?hfz22 ?hrz22 ?hQz22 (Or.inl ⟨?hwz22, ?hyz22⟩) (by assumption) ?restz22
    case haz22 => (simp only [List.getElem?_toArray, List.getElem?_cons_succ, List.getElem?_cons_zero]; exact rfl)
    case hQz22 => exact fun _ _ _ h => h
    case hfz22 => kernel_rfl
    case hrz22 => kernel_rfl
    case hwz22 => rfl
    case hyz22 => (intro w hSw; (try dsimp only at hSw); have e0 := hSw; go_simp; (try with_reducible rfl))
    try simp only [Act.put, List.setIfInBounds_toArray, List.set_cons_zero, List.set_cons_succ]
    refine' wpAnyH_take (i := 7) (oi := ?oiz23) (v := ?vz23) ?haz23 (by kernel_rfl) ?hfz23 ?hrz23 ?hQz23 (Or.inl ⟨?hwz23, ?hyz23⟩) (by assumption) ?restz23
    case haz23 => (simp only [List.getElem?_toArray, List.getElem?_cons_succ, List.getElem?_cons_zero]; exact rfl)
    case hQz23 => exact fun _ _ _ h => h
    case hfz23 => kernel_rfl
    case hrz23 => kernel_rfl
    case hwz23 => rfl
    case hyz23 => (intro w hSw; (try dsimp only at hSw); have e0 := hSw; go_simp; (try with_reducible rfl))
    try simp only [Act.put, List.setIfInBounds_toArray, List.set_cons_zero, List.set_cons_succ]
    refine' wpAnyH_take (i := 8) (oi := ?oiz24) (v := ?vz24) ?haz24 (by kernel_rfl) ?hfz24 ?hrz24 ?hQz24 (Or.inl ⟨?hwz24, ?hyz24⟩) (by assumption) ?restz24
    case haz24 => (simp only [List.getElem?_toArray, List.getElem?_cons_succ, List.getElem?_cons_zero]; exact rfl)
    case hQz24 => exact fun _ _ _ h => h
    case hfz24 => kernel_rfl
    case hrz24 => kernel_rfl
    case hwz24 => rfl
    case hyz24 => (intro w hSw; (try dsimp only at hSw); have e0 := hSw; go_simp; (try with_reducible rfl))
    try simp only [Act.put, List.setIfInBounds_toArray, List.set_cons_zero, List.set_cons_succ]
    refine' wpAnyH_take (i := 9) (oi := ?oiz25) (v := ?vz25) ?haz25 (by kernel_rfl) ?hfz25 ?hrz25 ?hQz25 (Or.inl ⟨?hwz25, ?hyz25⟩) (by assumption) ?restz25
    case haz25 => (simp only [List.getElem?_toArray, List.getElem?_cons_succ, List.getElem?_cons_zero]; exact rfl)
    case hQz25 => exact fun _ _ _ h => h
    case hfz25 => kernel_rfl
    case hrz25 => kernel_rfl
    case hwz25 => rfl
    case hyz25 => (intro w hSw; (try dsimp only at hSw); have e0 := hSw; go_simp; (try with_reducible rfl))
    try simp only [Act.put, List.setIfInBounds_toArray, List.set_cons_zero, List.set_cons_succ]
    refine' wpAnyH_take (i := 10) (oi := ?oiz26) (v := ?vz26) ?haz26 (by kernel_rfl) ?hfz26 ?hrz26 ?hQz26 (Or.inl ⟨?hwz26, ?hyz26⟩) (by assumption) ?restz26
    case haz26 => (simp only [List.getElem?_toArray, List.getElem?_cons_succ, List.getElem?_cons_zero]; exact rfl)
    case hQz26 => exact fun _ _ _ h => h
    case hfz26 => kernel_rfl
    case hrz26 => kernel_rfl
    case hwz26 => rfl
    case hyz26 => (intro w hSw; (try dsimp only at hSw); have e0 := hSw; go_simp; (try with_reducible rfl))
    try simp only [Act.put, List.setIfInBounds_toArray, List.set_cons_zero, List.set_cons_succ]
    refine' wpAnyH_take (i := 12) (oi := ?oiz27) (v := ?vz27) ?haz27 (by kernel_rfl) ?hfz27 ?hrz27 ?hQz27 (Or.inl ⟨?hwz27, ?hyz27⟩) (by assumption) ?restz27
    case haz27 => (simp only [List.getElem?_toArray, List.getElem?_cons_succ, List.getElem?_cons_zero]; exact rfl)
    case hQz27 => exact fun _ _ _ h => h
    case hfz27 => kernel_rfl
    case hrz27 => kernel_rfl
    case hwz27 => rfl
    case hyz27 => (intro w hSw; (try dsimp only at hSw); have e0 := hSw; go_simp; (try with_reducible rfl))
    try simp only [Act.put, List.setIfInBounds_toArray, List.set_cons_zero, List.set_cons_succ]
    refine wpAnyH_ready (rs := [11, 13]) (by kernel_rfl) (by simp) ?_
    refine' AllReadyH.cons (o := ?oiz36) ?haz36 (fun K hK => ?stepz36) (AllReadyH.cons (o := ?oiz37) ?haz37 (fun K hK => ?stepz37) AllReadyH.nil)
    case haz36 => (simp only [List.getElem?_toArray, List.getElem?_cons_succ, List.getElem?_cons_zero]; exact rfl)
    case haz37 => (simp only [List.getElem?_toArray, List.getElem?_cons_succ, List.getElem?_cons_zero]; exact rfl)
    case stepz36 =>
      go_simp
      refine hK.out _ _ (t0b1) (fun hHeld => ?_)
      clear hK K
      try simp only [Act.put, List.setIfInBounds_toArray, List.set_cons_zero, List.set_cons_succ]
      refine wpAnyH_ready (rs := [13]) (by kernel_rfl) (by simp) ?_
      refine' AllReadyH.cons (o := ?oiz31) ?haz31 (fun K hK => ?stepz31) AllReadyH.nil
      case haz31 => (simp only [List.getElem?_toArray, List.getElem?_cons_succ, List.getElem?_cons_zero]; exact rfl)
      go_simp
      refine hK.out _ _ (t1b1) (fun hHeld => ?_)
      clear hK K
      try simp only [Act.put, List.setIfInBounds_toArray, List.set_cons_zero, List.set_cons_succ]
      refine wpAnyH_ready (rs := [14]) (by kernel_rfl) (by simp) ?_
      refine' AllReadyH.cons (o := ?oiz28) ?haz28 (fun K hK => ?stepz28) AllReadyH.nil
      case haz28 => (simp only [List.getElem?_toArray, List.getElem?_cons_succ, List.getElem?_cons_zero]; exact rfl)
      refine step_push rfl (.tmp 33) (.tmp 35) rfl rfl rfl hrunb1 ?_
      refine hK.out _ _ (t2b1) (fun hHeld => ?_)
      clear hK K
      try simp only [Act.put, List.setIfInBounds_toArray, List.set_cons_zero, List.set_cons_succ]
      refine' wpAnyH_take (i := 15) (oi := ?oiz29) (v := ?vz29) ?haz29 (by kernel_rfl) ?hfz29 ?hrz29 ?hQz29 (Or.inl ⟨?hwz29, ?hyz29⟩) (by assumption) ?restz29
      case haz29 => (simp only [List.getElem?_toArray, List.getElem?_cons_succ, List.getElem?_cons_zero]; exact rfl)
      case hQz29 => exact fun _ _ _ h => h
      case hfz29 => kernel_rfl
      case hrz29 => kernel_rfl
      case hwz29 => rfl
      case hyz29 => (intro w hSw; (try dsimp only at hSw); have e0 := hSw; go_simp; (try with_reducible rfl))
      try simp only [Act.put, List.setIfInBounds_toArray, List.set_cons_zero, List.set_cons_succ]
      refine wpAnyH_ready (rs := [16]) (by kernel_rfl) (by simp) ?_
      refine' AllReadyH.cons (o := ?oiz30) ?haz30 (fun K hK => ?stepz30) AllReadyH.nil
      case haz30 => (simp only [List.getElem?_toArray, List.getElem?_cons_succ, List.getElem?_cons_zero]; exact rfl)
      go_simp
      refine hK.out _ _ (t3b1) (fun hHeld => ?_)
      clear hK K
      try simp only [Act.put, List.setIfInBounds_toArray, List.set_cons_zero, List.set_cons_succ]
      refine wpAnyH_done (by kernel_rfl) ?_ _
      go_wp2_with fail
      exact body_end0 rfl rfl ⟨rfl, ⟨_, HGPb1.out⟩, HBL1.out.trans HBLb1.out⟩
    case stepz37 =>
      go_simp
      refine hK.out _ _ (t1b1) (fun hHeld => ?_)
      clear hK K
      try simp only [Act.put, List.setIfInBounds_toArray, List.set_cons_zero, List.set_cons_succ]
      refine wpAnyH_ready (rs := [11]) (by kernel_rfl) (by simp) ?_
      refine' AllReadyH.cons (o := ?oiz35) ?haz35 (fun K hK => ?stepz35) AllReadyH.nil
      case haz35 => (simp only [List.getElem?_toArray, List.getElem?_cons_succ, List.getElem?_cons_zero]; exact rfl)
      go_simp
      refine hK.out _ _ (t1b1) (fun hHeld => ?_)
      clear hK K
      try simp only [Act.put, List.setIfInBounds_toArray, List.set_cons_zero, List.set_cons_succ]
      refine wpAnyH_ready (rs := [14]) (by kernel_rfl) (by simp) ?_
      refine' AllReadyH.cons (o := ?oiz32) ?haz32 (fun K hK => ?stepz32) AllReadyH.nil
      case haz32 => (simp only [List.getElem?_toArray, List.getElem?_cons_succ, List.getElem?_cons_zero]; exact rfl)
      refine step_push rfl (.tmp 33) (.tmp 35) rfl rfl rfl hrunb1 ?_
      refine hK.out _ _ (t2b1) (fun hHeld => ?_)
      clear hK K
      try simp only [Act.put, List.setIfInBounds_toArray, List.set_cons_zero, List.set_cons_succ]
      refine' wpAnyH_take (i := 15) (oi := ?oiz33) (v := ?vz33) ?haz33 (by kernel_rfl) ?hfz33 ?hrz33 ?hQz33 (Or.inl ⟨?hwz33, ?hyz33⟩) (by assumption) ?restz33
      case haz33 => (simp only [List.getElem?_toArray, List.getElem?_cons_succ, List.getElem?_cons_zero]; exact rfl)
      case hQz33 => exact fun _ _ _ h => h
      case hfz33 => kernel_rfl
      case hrz33 => kernel_rfl
      case hwz33 => rfl
      case hyz33 => (intro w hSw; (try dsimp only at hSw); have e0 := hSw; go_simp; (try with_reducible rfl))
      try simp only [Act.put, List.setIfInBounds_toArray, List.set_cons_zero, List.set_cons_succ]
      refine wpAnyH_ready (rs := [16]) (by kernel_rfl) (by simp) ?_
      refine' AllReadyH.cons (o := ?oiz34) ?haz34 (fun K hK => ?stepz34) AllReadyH.nil
      case haz34 => (simp only [List.getElem?_toArray, List.getElem?_cons_succ, List.getElem?_cons_zero]; exact rfl)
      go_simp
      refine hK.out _ _ (t3b1) (fun hHeld => ?_)
      clear hK K
      try simp only [Act.put, List.setIfInBounds_toArray, List.set_cons_zero, List.set_cons_succ]
      refine wpAnyH_done (by kernel_rfl) ?_ _
      go_wp2_with fail
      exact body_end0 rfl rfl ⟨rfl, ⟨_, HGPb1.out⟩, HBL1.out.trans HBLb1.out⟩
  case stepz66 =>
    go_simp
    refine hK.out _ _ (t11) (fun hHeld => ?_)
    clear hK K
    try simp only [Act.put, List.setIfInBounds_toArray, List.set_cons_zero, List.set_cons_succ]
    refine wpAnyH_ready (rs := [11]) (by kernel_rfl) (by simp) ?_
    refine' AllReadyH.cons (o := ?oiz64) ?haz64 (fun K hK => ?stepz64) AllReadyH.nil
    case haz64 => (simp only [List.getElem?_toArray, List.getElem?_cons_succ, List.getElem?_cons_zero]; exact rfl)
    go_simp
    refine hK.out _ _ (t11) (fun hHeld => ?_)
    clear hK K
    try simp only [Act.put, List.setIfInBounds_toArray, List.set_cons_zero, List.set_cons_succ]
    refine wpAnyH_ready (rs := [14]) (by kernel_rfl) (by simp) ?_
    refine' AllReadyH.cons (o := ?oiz39) ?haz39 (fun K hK => ?stepz39) AllReadyH.nil
    case haz39 => (simp only [List.getElem?_toArray, List.getElem?_cons_succ, List.getElem?_cons_zero]; exact rfl)
    refine step_push rfl (.tmp 17) (.tmp 19) rfl rfl rfl hrun1 ?_
    refine hK.out _ _ (t21) (fun hHeld => ?_)
    clear hK K
    try simp only [Act.put, List.setIfInBounds_toArray, List.set_cons_zero, List.set_cons_succ]
    refine' wpAnyH_take (i := 15) (oi := ?oiz40) (v := ?vz40) ?haz40 (by kernel_rfl) ?hfz40 ?hrz40 ?hQz40 (Or.inl ⟨?hwz40, ?hyz40⟩) (by assumption) ?restz40
    case haz40 => (simp only [List.getElem?_toArray, List.getElem?_cons_succ, List.getElem?_cons_zero]; exact rfl)
    case hQz40 => exact fun _ _ _ h => h
    case hfz40 => kernel_rfl
    case hrz40 => kernel_rfl
    case hwz40 => rfl
    case hyz40 => (intro w hSw; (try dsimp only at hSw); have e0 := hSw; go_simp; (try with_reducible rfl))
    try simp only [Act.put, List.setIfInBounds_toArray, List.set_cons_zero, List.set_cons_succ]
    refine wpAnyH_ready (rs := [16]) (by kernel_rfl) (by simp) ?_
    refine' AllReadyH.cons (o := ?oiz41) ?haz41 (fun K hK => ?stepz41) AllReadyH.nil
    case haz41 => (simp only [List.getElem?_toArray, List.getElem?_cons_succ, List.getElem?_cons_zero]; exact rfl)
    go_simp
    refine hK.out _ _ (t31) (fun hHeld => ?_)
    clear hK K
    try simp only [Act.put, List.setIfInBounds_toArray, List.set_cons_zero, List.set_cons_succ]
    refine wpAnyH_done (by kernel_rfl) ?_ _
    obtain ⟨V, hV⟩ : ∃ V, V = w1.setCell (vat mv a) s1 := ⟨_, rfl⟩
    rw [← hV]
    rw [← hV] at HGP1 HBL1
    clear hV t01 t11 t21 t31 hrun1 al11 gd11 is1 ff1 alw1 ra1 fa1 ca1 hla1 ss1
    have HGQ := HGP1.out
    have cab2 := HGQ.c0
    have smvb2 := HGQ.own.1
    have lmvb2 := HGQ.vlen
    have hlab2 : b < (L.set a (lnAt L a ++ [b])).length := by simpa using hb
    have rab2 := HGQ.cell hlab2
    have fab2 := HGQ.frozen hlab2
    obtain ⟨rb2, hrb2⟩ : ∃ r, nthv (vs.set a s1) b = r := ⟨_, rfl⟩
    have hBwb2 : B ≤ (V).heap.size := by have := HGQ.lt; have := HGQ.ge; omega
    have gdb2 := HGQ.below ((Below.refl (V).heap.size (V)).drew)
    have rdb2 := gdb2.row b hlab2
    rw [hrb2] at rdb2 rab2
    obtain ⟨sb2, wb2, hrunb2, hob2, hgb2, hrowb2, ssb2⟩ := run_pushGI (w := (V).drew) (z := (a : Int)) 22 rdb2 hBwb2 (by rw [iz_length]; exact by have := HLB.out; omega)
    have alb2 := gdb2.below ((Below.refl (V).drew.heap.size (V).drew).alloc (Nat.le_refl _) (.cells #[.int .i64 a] 3))
    rw [← iz_app] at hob2
    rw [← hrb2] at hgb2 hrowb2
    have gpb2 := gdb2.put hlab2 hgb2 hob2 hrowb2
    have t0b2 := gdb2.c0
    have t1b2 := alb2.c0
    have al1b2 := alb2.cell hlab2
    rw [hrb2] at al1b2
    have gd1b2 := gdb2.cell hlab2
    rw [hrb2] at gd1b2
    have owb2 := gdb2.grownOwn hlab2 hgb2
    have t2b2 := gdb2.grownBox hlab2 hgb2
    have isb2 : (wb2.cell? (vat mv b)).isSome = true := by rw [owb2.cell (j := b) (by rw [gdb2.len]; exact hlab2)]; rfl
    have ffb2 := owb2.frozen (j := b) (by rw [gdb2.len]; exact hlab2)
    have t3b2 := gpb2.c0
    have blb2 : Below B (V) (wb2.setCell (vat mv b) sb2) := by
      have q1 : Below B (V) (V).drew := (Below.refl _ _).drew
      exact (q1.grown hgb2 hBwb2 fun k hk => ((gdb2.row b hlab2).lt k hk).1).setCell (owb2.ge (j := b) (by rw [gdb2.len]; exact hlab2)) _
    have HGPb2 := Lib.hid gpb2; have HBLb2 := Lib.hid blb2
    have alwb2 : (World.alloc (V) (.cells #[.int .i64 a] 3)).cell? (vat mv b) = some rb2 := al1b2
    clear gdb2 rdb2 alb2 hob2 hgb2 hrowb2 owb2 gpb2 blb2 hrb2 hBwb2
    clear HGQ
    go_wp2_with fail
    refine wp_region_held_drew (S := fun W => W.cell? ⟨g, 0, none⟩ = some mv) (by kernel_rfl) (t0b2) (fun hHeld => ?_)
    refine' wpAnyH_take (i := 0) (oi := ?oiz42) (v := ?vz42) ?haz42 (by kernel_rfl) ?hfz42 ?hrz42 ?hQz42 (Or.inl ⟨?hwz42, ?hyz42⟩) (by assumption) ?restz42
    case haz42 => (simp only [List.getElem?_toArray, List.getElem?_cons_zero]; exact rfl)
    case hQz42 => exact fun _ _ _ h => h
    case hfz42 => kernel_rfl
    case hrz42 => kernel_rfl
    case hwz42 => rfl
    case hyz42 => (intro w hSw; (try dsimp only at hSw); have e0 := hSw; go_simp; (try with_reducible rfl))
    try simp only [Act.put, List.setIfInBounds_toArray, List.set_cons_zero, List.set_cons_succ]
    refine' wpAnyH_take (i := 1) (oi := ?oiz43) (v := ?vz43) ?haz43 (by kernel_rfl) ?hfz43 ?hrz43 ?hQz43 (Or.inl ⟨?hwz43, ?hyz43⟩) (by assumption) ?restz43
    case haz43 => (simp only [List.getElem?_toArray, List.getElem?_cons_succ, List.getElem?_cons_zero]; exact rfl)
    case hQz43 => exact fun _ _ _ h => h
    case hfz43 => kernel_rfl
    case hrz43 => kernel_rfl
    case hwz43 => rfl
    case hyz43 => (intro w hSw; (try dsimp only at hSw); have e0 := hSw; go_simp; (try with_reducible rfl))
    try simp only [Act.put, List.setIfInBounds_toArray, List.set_cons_zero, List.set_cons_succ]
    refine' wpAnyH_take (i := 2) (oi := ?oiz44) (v := ?vz44) ?haz44 (by kernel_rfl) ?hfz44 ?hrz44 ?hQz44 (Or.inl ⟨?hwz44, ?hyz44⟩) (by assumption) ?restz44
    case haz44 => (simp only [List.getElem?_toArray, List.getElem?_cons_succ, List.getElem?_cons_zero]; exact rfl)
    case hQz44 => exact fun _ _ _ h => h
    case hfz44 => kernel_rfl
    case hrz44 => kernel_rfl
    case hwz44 => rfl
    case hyz44 => (intro w hSw; (try dsimp only at hSw); have e0 := hSw; go_simp; (try with_reducible rfl))
    try simp only [Act.put, List.setIfInBounds_toArray, List.set_cons_zero, List.set_cons_succ]
    refine' wpAnyH_take (i := 3) (oi := ?oiz45) (v := ?vz45) ?haz45 (by kernel_rfl) ?hfz45 ?hrz45 ?hQz45 (Or.inl ⟨?hwz45, ?hyz45⟩) (by assumption) ?restz45
    case haz45 => (simp only [List.getElem?_toArray, List.getElem?_cons_succ, List.getElem?_cons_zero]; exact rfl)
    case hQz45 => exact fun _ _ _ h => h
    case hfz45 => kernel_rfl
    case hrz45 => kernel_rfl
    case hwz45 => rfl
    case hyz45 => (intro w hSw; (try dsimp only at hSw); have e0 := hSw; go_simp; (try with_reducible rfl))
    try simp only [Act.put, List.setIfInBounds_toArray, List.set_cons_zero, List.set_cons_succ]
    refine' wpAnyH_take (i := 4) (oi := ?oiz46) (v := ?vz46) ?haz46 (by kernel_rfl) ?hfz46 ?hrz46 ?hQz46 (Or.inl ⟨?hwz46, ?hyz46⟩) (by assumption) ?restz46
    case haz46 => (simp only [List.getElem?_toArray, List.getElem?_cons_succ, List.getElem?_cons_zero]; exact rfl)
    case hQz46 => exact fun _ _ _ h => h
    case hfz46 => kernel_rfl
    case hrz46 => kernel_rfl
    case hwz46 => rfl
    case hyz46 => (intro w hSw; (try dsimp only at hSw); have e0 := hSw; go_simp; (try with_reducible rfl))
    try simp only [Act.put, List.setIfInBounds_toArray, List.set_cons_zero, List.set_cons_succ]
    refine' wpAnyH_take (i := 5) (oi := ?oiz47) (v := ?vz47) ?haz47 (by kernel_rfl) ?hfz47 ?hrz47 ?hQz47 (Or.inl ⟨?hwz47, ?hyz47⟩) (by assumption) ?restz47
    case haz47 => (simp only [List.getElem?_toArray, List.getElem?_cons_succ, List.getElem?_cons_zero]; exact rfl)
    case hQz47 => exact fun _ _ _ h => h
    case hfz47 => kernel_rfl
    case hrz47 => kernel_rfl
    case hwz47 => rfl
    case hyz47 => (intro w hSw; (try dsimp only at hSw); have e0 := hSw; go_simp; (try with_reducible rfl))
    try simp only [Act.put, List.setIfInBounds_toArray, List.set_cons_zero, List.set_cons_succ]
    refine' wpAnyH_take (i := 6) (oi := ?oiz48) (v := ?vz48) ?haz48 (by kernel_rfl) ?hfz48 ?hrz48 ?hQz48 (Or.inl ⟨?hwz48, ?hyz48⟩) (by assumption) ?restz48
    case haz48 => (simp only [List.getElem?_toArray, List.getElem?_cons_succ, List.getElem?_cons_zero]; exact rfl)
    case hQz48 => exact fun _ _ _ h => h
    case hfz48 => kernel_rfl
    case hrz48 => kernel_rfl
    case hwz48 => rfl
    case hyz48 => (intro w hSw; (try dsimp only at hSw); have e0 := hSw; go_simp; (try with_reducible rfl))
    try simp only [Act.put, List.setIfInBounds_toArray, List.set_cons_zero, List.set_cons_succ]
    refine' wpAnyH_take (i := 7) (oi := ?oiz49) (v := ?vz49) ?haz49 (by kernel_rfl) ?hfz49 ?hrz49 ?hQz49 (Or.inl ⟨?hwz49, ?hyz49⟩) (by assumption) ?restz49
    case haz49 => (simp only [List.getElem?_toArray, List.getElem?_cons_succ, List.getElem?_cons_zero]; exact rfl)
    case hQz49 => exact fun _ _ _ h => h
    case hfz49 => kernel_rfl
    case hrz49 => kernel_rfl
    case hwz49 => rfl
    case hyz49 => (intro w hSw; (try dsimp only at hSw); have e0 := hSw; go_simp; (try with_reducible rfl))
    try simp only [Act.put, List.setIfInBounds_toArray, List.set_cons_zero, List.set_cons_succ]
    refine' wpAnyH_take (i := 8) (oi := ?oiz50) (v := ?vz50) ?haz50 (by kernel_rfl) ?hfz50 ?hrz50 ?hQz50 (Or.inl ⟨?hwz50, ?hyz50⟩) (by assumption) ?restz50
    case haz50 => (simp only [List.getElem?_toArray, List.getElem?_cons_succ, List.getElem?_cons_zero]; exact rfl)
    case hQz50 => exact fun _ _ _ h => h
    case hfz50 => kernel_rfl
    case hrz50 => kernel_rfl
    case hwz50 => rfl
    case hyz50 => (intro w hSw; (try dsimp only at hSw); have e0 := hSw; go_simp; (try with_reducible rfl))
    try simp only [Act.put, List.setIfInBounds_toArray, List.set_cons_zero, List.set_cons_succ]
    refine' wpAnyH_take (i := 9) (oi := ?oiz51) (v := ?vz51) ?haz51 (by kernel_rfl) ?hfz51 ?hrz51 ?hQz51 (Or.inl ⟨?hwz51, ?hyz51⟩) (by assumption) ?restz51
    case haz51 => (simp only [List.getElem?_toArray, List.getElem?_cons_succ, List.getElem?_cons_zero]; exact rfl)
    case hQz51 => exact fun _ _ _ h => h
    case hfz51 => kernel_rfl
    case hrz51 => kernel_rfl
    case hwz51 => rfl
    case hyz51 => (intro w hSw; (try dsimp only at hSw); have e0 := hSw; go_simp; (try with_reducible rfl))
    try simp only [Act.put, List.setIfInBounds_toArray, List.set_cons_zero, List.set_cons_succ]
    refine' wpAnyH_take (i := 10) (oi := ?oiz52) (v := ?vz52) ?haz52 (by kernel_rfl) ?hfz52 ?hrz52 ?hQz52 (Or.inl ⟨?hwz52, ?hyz52⟩) (by assumption) ?restz52
    case haz52 => (simp only [List.getElem?_toArray, List.getElem?_cons_succ, List.getElem?_cons_zero]; exact rfl)
    case hQz52 => exact fun _ _ _ h => h
    case hfz52 => kernel_rfl
    case hrz52 => kernel_rfl
    case hwz52 => rfl
    case hyz52 => (intro w hSw; (try dsimp only at hSw); have e0 := hSw; go_simp; (try with_reducible rfl))
    try simp only [Act.put, List.setIfInBounds_toArray, List.set_cons_zero, List.set_cons_succ]
    refine' wpAnyH_take (i := 12) (oi := ?oiz53) (v := ?vz53) ?haz53 (by kernel_rfl) ?hfz53 ?hrz53 ?hQz53 (Or.inl ⟨?hwz53, ?hyz53⟩) (by assumption) ?restz53
    case haz53 => (simp only [List.getElem?_toArray, List.getElem?_cons_succ, List.getElem?_cons_zero]; exact rfl)
    case hQz53 => exact fun _ _ _ h => h
    case hfz53 => kernel_rfl
    case hrz53 => kernel_rfl
    case hwz53 => rfl
    case hyz53 => (intro w hSw; (try dsimp only at hSw); have e0 := hSw; go_simp; (try with_reducible rfl))
    try simp only [Act.put, List.setIfInBounds_toArray, List.set_cons_zero, List.set_cons_succ]
    refine wpAnyH_ready (rs := [11, 13]) (by kernel_rfl) (by simp) ?_
    refine' AllReadyH.cons (o := ?oiz62) ?haz62 (fun K hK => ?stepz62) (AllReadyH.cons (o := ?oiz63) ?haz63 (fun K hK => ?stepz63) AllReadyH.nil)
    case haz62 => (simp only [List.getElem?_toArray, List.getElem?_cons_succ, List.getElem?_cons_zero]; exact rfl)
    case haz63 => (simp only [List.getElem?_toArray, List.getElem?_cons_succ, List.getElem?_cons_zero]; exact rfl)
    case stepz62 =>
      go_simp
      refine hK.out _ _ (t0b2) (fun hHeld => ?_)
      clear hK K
      try simp only [Act.put, List.setIfInBounds_toArray, List.set_cons_zero, List.set_cons_succ]
      refine wpAnyH_ready (rs := [13]) (by kernel_rfl) (by simp) ?_
      refine' AllReadyH.cons (o := ?oiz57) ?haz57 (fun K hK => ?stepz57) AllReadyH.nil
      case haz57 => (simp only [List.getElem?_toArray, List.getElem?_cons_succ, List.getElem?_cons_zero]; exact rfl)
      go_simp
      refine hK.out _ _ (t1b2) (fun hHeld => ?_)
      clear hK K
      try simp only [Act.put, List.setIfInBounds_toArray, List.set_cons_zero, List.set_cons_succ]
      refine wpAnyH_ready (rs := [14]) (by kernel_rfl) (by simp) ?_
      refine' AllReadyH.cons (o := ?oiz54) ?haz54 (fun K hK => ?stepz54) AllReadyH.nil
      case haz54 => (simp only [List.getElem?_toArray, List.getElem?_cons_succ, List.getElem?_cons_zero]; exact rfl)
      refine step_push rfl (.tmp 33) (.tmp 35) rfl rfl rfl hrunb2 ?_
      refine hK.out _ _ (t2b2) (fun hHeld => ?_)
      clear hK K
      try simp only [Act.put, List.setIfInBounds_toArray, List.set_cons_zero, List.set_cons_succ]
      refine' wpAnyH_take (i := 15) (oi := ?oiz55) (v := ?vz55) ?haz55 (by kernel_rfl) ?hfz55 ?hrz55 ?hQz55 (Or.inl ⟨?hwz55, ?hyz55⟩) (by assumption) ?restz55
      case haz55 => (simp only [List.getElem?_toArray, List.getElem?_cons_succ, List.getElem?_cons_zero]; exact rfl)
      case hQz55 => exact fun _ _ _ h => h
      case hfz55 => kernel_rfl
      case hrz55 => kernel_rfl
      case hwz55 => rfl
      case hyz55 => (intro w hSw; (try dsimp only at hSw); have e0 := hSw; go_simp; (try with_reducible rfl))
      try simp only [Act.put, List.setIfInBounds_toArray, List.set_cons_zero, List.set_cons_succ]
      refine wpAnyH_ready (rs := [16]) (by kernel_rfl) (by simp) ?_
      refine' AllReadyH.cons (o := ?oiz56) ?haz56 (fun K hK => ?stepz56) AllReadyH.nil
      case haz56 => (simp only [List.getElem?_toArray, List.getElem?_cons_succ, List.getElem?_cons_zero]; exact rfl)
      go_simp
      refine hK.out _ _ (t3b2) (fun hHeld => ?_)
      clear hK K
      try simp only [Act.put, List.setIfInBounds_toArray, List.set_cons_zero, List.set_cons_succ]
      refine wpAnyH_done (by kernel_rfl) ?_ _
      go_wp2_with fail
      exact body_end0 rfl rfl ⟨rfl, ⟨_, HGPb2.out⟩, HBL1.out.trans HBLb2.out⟩
    case stepz63 =>
      go_simp
      refine hK.out _ _ (t1b2) (fun hHeld => ?_)
      clear hK K
      try simp only [Act.put, List.setIfInBounds_toArray, List.set_cons_zero, List.set_cons_succ]
      refine wpAnyH_ready (rs := [11]) (by kernel_rfl) (by simp) ?_
      refine' AllReadyH.cons (o := ?oiz61) ?haz61 (fun K hK => ?stepz61) AllReadyH.nil
      case haz61 => (simp only [List.getElem?_toArray, List.getElem?_cons_succ, List.getElem?_cons_zero]; exact rfl)
      go_simp
      refine hK.out _ _ (t1b2) (fun hHeld => ?_)
      clear hK K
      try simp only [Act.put, List.setIfInBounds_toArray, List.set_cons_zero, List.set_cons_succ]
      refine wpAnyH_ready (rs := [14]) (by kernel_rfl) (by simp) ?_
      refine' AllReadyH.cons (o := ?oiz58) ?haz58 (fun K hK => ?stepz58) AllReadyH.nil
      case haz58 => (simp only [List.getElem?_toArray, List.getElem?_cons_succ, List.getElem?_cons_zero]; exact rfl)
      refine step_push rfl (.tmp 33) (.tmp 35) rfl rfl rfl hrunb2 ?_
      refine hK.out _ _ (t2b2) (fun hHeld => ?_)
      clear hK K
      try simp only [Act.put, List.setIfInBounds_toArray, List.set_cons_zero, List.set_cons_succ]
      refine' wpAnyH_take (i := 15) (oi := ?oiz59) (v := ?vz59) ?haz59 (by kernel_rfl) ?hfz59 ?hrz59 ?hQz59 (Or.inl ⟨?hwz59, ?hyz59⟩) (by assumption) ?restz59
      case haz59 => (simp only [List.getElem?_toArray, List.getElem?_cons_succ, List.getElem?_cons_zero]; exact rfl)
      case hQz59 => exact fun _ _ _ h => h
      case hfz59 => kernel_rfl
      case hrz59 => kernel_rfl
      case hwz59 => rfl
      case hyz59 => (intro w hSw; (try dsimp only at hSw); have e0 := hSw; go_simp; (try with_reducible rfl))
      try simp only [Act.put, List.setIfInBounds_toArray, List.set_cons_zero, List.set_cons_succ]
      refine wpAnyH_ready (rs := [16]) (by kernel_rfl) (by simp) ?_
      refine' AllReadyH.cons (o := ?oiz60) ?haz60 (fun K hK => ?stepz60) AllReadyH.nil
      case haz60 => (simp only [List.getElem?_toArray, List.getElem?_cons_succ, List.getElem?_cons_zero]; exact rfl)
      go_simp
      refine hK.out _ _ (t3b2) (fun hHeld => ?_)
      clear hK K
      try simp only [Act.put, List.setIfInBounds_toArray, List.set_cons_zero, List.set_cons_succ]
      refine wpAnyH_done (by kernel_rfl) ?_ _
      go_wp2_with fail
      exact body_end0 rfl rfl ⟨rfl, ⟨_, HGPb2.out⟩, HBL1.out.trans HBLb2.out⟩

end Go.Proofs.Ytplekfgadbjgdaa

