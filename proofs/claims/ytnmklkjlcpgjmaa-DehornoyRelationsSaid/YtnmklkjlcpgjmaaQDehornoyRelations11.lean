/- slices.Backward over a slice of ints: the contract of its iterator, and freegroup.Inverted walked. -/
import Derived.Test.YtnmklkjlcpgjmaaQDehornoyRelations0
import Derived.Test.YtnmklkjlcpgjmaaQDehornoyRelations1
import Derived.Test.YtnmklkjlcpgjmaaQDehornoyRelations2
import Derived.Test.YtnmklkjlcpgjmaaQDehornoyRelations3
import Derived.Test.YtnmklkjlcpgjmaaQDehornoyRelations9
import Derived.Test.YtnmklkjlcpgjmaaQDehornoyRelations10
import Derived.RangeFuncNested
import Derived.RangeFuncBound
import Derived.RangeFuncCalls
import Derived.RangeFuncLeaves
import Derived.RangeFuncBox
import Derived.Shelf.Abstract
import Derived.Shelf.RegionOpen
import Derived.OwnWalkIn
import Derived.TacticsInMore
import Derived.LoopNIn
import Derived.LoopIn
import Derived.Maps.AppendAt
import Derived.Deep.RegionLaw
namespace Go.Proofs.Ytnmklkjlcpgjmaa
open Go.RowKit Go.Shelf
open Go.Sl (IsSl vlen vcap vbase vat vblk voff Sl isSl_nil isSl_mk vlen_mk vcap_mk)
attribute [local go_sem] Oper.semAt_some

/-- The indices from the last one down, k of them. -/
def downs (n k : Nat) : List Nat := (List.range k).map fun j => n - 1 - j
theorem downs_succ (n k : Nat) : downs n (k + 1) = downs n k ++ [n - 1 - k] := by simp [downs, List.range_succ]
theorem downs_length (n k : Nat) : (downs n k).length = k := by simp [downs]
theorem downs_map (xs : List Int) (f : Int → Int) : (downs xs.length xs.length).map (fun j => f (nth xs j)) = (xs.map f).reverse := by
  apply List.ext_getElem
  · simp [downs]
  · intro i h1 h2
    simp only [downs, List.map_map, List.getElem_map, Function.comp, List.getElem_range, List.getElem_reverse, List.length_map]
    have h3 : i < xs.length := by simpa [downs] using h1
    rw [nth_lt (by omega)]

/-- What a round keeps: what lay below n₀, and the box of the slice. -/
structure KeepB (n₀ Bs : Nat) (W W' : World) : Prop where
  low : Below n₀ W W'
  box : W'.heap[Bs]? = W.heap[Bs]?
theorem keepB_t {n₀ Bs : Nat} {A B C : World} (h : KeepB n₀ Bs A B) (k : KeepB n₀ Bs B C) : KeepB n₀ Bs A C := ⟨h.low.trans k.low, k.box.trans h.box⟩
theorem keepB_b {n₀ Bs : Nat} {w : World} (hn : n₀ ≤ w.heap.size) (hB : Bs < w.heap.size) (W : World) (l : Nat) (o o' : Obj) (hl : w.heap.size ≤ l) (h : W.heap[l]? = some o) (hc : o.isCells = false) (hw : o.isWalk = false) : KeepB n₀ Bs W (W.putObj l o') :=
  ⟨belowK_b hn W l o o' hl h hc hw, World.putObj_heap_other (by omega)⟩

set_option maxRecDepth 100000 in
set_option maxHeartbeats 2000000 in
theorem backward1_in (F : Fence) (n : Nat) (hf : F.fn 41) (hro : F.round = none) (hn : 1 ≤ n) (l Bs n₀ : Nat) (v : Value) (xs : List Int) (w0 : World) (h0w : w0.heap.size = n₀) (hv : Ints w0 v xs) (J Jx : List Nat → World → Prop)
    (hY : ∀ (pre : List Nat) (x : Nat) (W : World), J pre W → pre.length < xs.length → x < xs.length → YieldAt F (n - 1) Try.prog l #[.int .i64 (x : Int), .int .i64 (nth xs x)] W fun e W' =>
      (e = .returned (.bool true) ∧ J (pre ++ [x]) W' ∧ KeepB n₀ Bs W W') ∨ (e = .returned (.bool false) ∧ Jx (pre ++ [x]) W'))
    (W : World) (hW : Below n₀ w0 W) (hBs : W.cell? ⟨Bs, 0, none⟩ = some v) (h0 : J [] W) :
    CallsIn F n Try.prog 41 #[.func (.yield l) #[] #[], .pointer (some ⟨Bs, 0, none⟩)] W fun e W' => (∃ v, e = .returned v) ∧
      ((∃ ys, ys = downs xs.length xs.length ∧ J ys W') ∨ (∃ pre, (∃ k, k ≤ xs.length ∧ pre = downs xs.length k) ∧ Jx pre W')) := by
  have sv := hv.isSl
  have lv := hv.len
  have i63 := sv.i63
  rw [lv] at i63
  have HV := Lib.hid hv; clear hv
  subst h0w
  refine callsIn_of_wp Try.func41 rfl hf ?_ hro
  simp only [Try.ntmps41, List.size_toArray, List.length_cons, List.length_nil, Nat.reduceAdd, Nat.reduceSub, Array.replicate_succ, Array.replicate_zero, List.push_toArray, List.append_toArray, List.nil_append, List.cons_append]
  gi_wp2
  have HBs := Lib.hid hBs; clear hBs
  have HW := Lib.hid hW; clear hW
  gi_loopw [3] (fun i wr => ∃ k : Nat, k ≤ xs.length ∧ i = .int .i64 ((xs.length : Int) - 1 - k) ∧ J (downs xs.length k) wr ∧ KeepB w0.heap.size Bs W wr)
    (fun i _ => (intOf i + 1).toNat)
  case atStart => exact ⟨0, Nat.zero_le _, by simp, h0, ⟨Below.refl _ _, rfl⟩⟩
  case round =>
    obtain ⟨k, hk, rfl, hJs, hnx⟩ := hrel
    by_cases hlt : k < xs.length
    · obtain ⟨j, hj⟩ : ∃ j, j = xs.length - 1 - k := ⟨_, rfl⟩
      have hji : (xs.length : Int) - 1 - k = (j : Int) := by omega
      have hjl : j < xs.length := by omega
      rw [hji]
      obtain ⟨fn, tmps, assign, body, hy, hR⟩ := hY _ j wr hJs (by rw [downs_length]; exact hlt) hjl
      have hb2 : Below w0.heap.size w0 wr := HW.out.trans hnx.low
      have hcell := (HV.out.below hb2).cell hjl
      have hbox : wr.cell? ⟨Bs, 0, none⟩ = some v := (World.cell?_of_block (a := ⟨Bs, 0, none⟩) hnx.box).trans HBs.out
      have HJI := Lib.hid hji; clear hji
      have HJ := Lib.hid hj; clear hj
      gi_wp2
      refine hR.mono ?_
      rintro e W3 (⟨rfl, hJ3, hk3⟩ | ⟨rfl, hJx3⟩)
      · gi_wp2
        go_roundw
        case rel => exact ⟨k + 1, by omega, by have := HJI.out; congr 1; omega, by rw [downs_succ, ← HJ.out]; exact hJ3, keepB_t hnx hk3⟩
        case measure => simp [intOf]
      · gi_wp2
        refine bodyPost_ret (results_none rfl _ _ _) rfl ?_
        exact ⟨⟨_, rfl⟩, .inr ⟨_, ⟨k + 1, by omega, by rw [downs_succ, ← HJ.out]⟩, hJx3⟩⟩
    · obtain rfl : k = xs.length := by omega
      have hneg : (xs.length : Int) - 1 - xs.length = -1 := by omega
      rw [hneg]
      gi_wp2
      go_end0
      exact ⟨⟨_, rfl⟩, .inl ⟨_, rfl, hJs⟩⟩

set_option maxHeartbeats 1000000 in
theorem backward_in (F : Fence) (n : Nat) (hf : F.fn 31) (hro : F.round = none) (v : Value) (hv : IsSl v) (w : World) :
    CallsIn F n Try.prog 31 #[v] w fun e w' => e = .returned (.func (.func 41) #[] #[.pointer (some ⟨w.heap.size, 0, none⟩)]) ∧ w' = w.alloc (.cells #[v] 22) := by
  refine callsIn_of_wp Try.func31 rfl hf ?_ hro
  simp only [Try.ntmps31, List.size_toArray, List.length_cons, List.length_nil, Nat.reduceAdd, Nat.reduceSub, Array.replicate_succ, Array.replicate_zero, List.push_toArray, List.append_toArray, List.nil_append, List.cons_append]
  gi_wp2
  go_ret
  exact ⟨rfl, rfl⟩

theorem backward_stops (F : Fence) (n : Nat) (hf : F.fn 41) (hro : F.round = none) (hn : 1 ≤ n) (Bs n₀ : Nat) (v : Value) (xs : List Int) (w0 w : World) (h0w : w0.heap.size = n₀) (hv : Ints w0 v xs) (hw : Below n₀ w0 w) (hBs : Bs < w.heap.size)
    (hc : w.cell? ⟨Bs, 0, none⟩ = some v) :
    SeqStopsK F n Try.prog 41 #[.pointer (some ⟨Bs, 0, none⟩)] (fun x : Nat => #[Value.int .i64 (x : Int), .int .i64 (nth xs x)]) (KeepB n₀ Bs) (fun ys => ys = downs xs.length xs.length) (fun pre => ∃ k, k ≤ xs.length ∧ pre = downs xs.length k) xs.length w := fun l J Jx W hW _ _ hY h0 => by
  have hsz : n₀ ≤ w.heap.size := by rw [← h0w]; exact (h0w ▸ hw).size
  exact backward1_in F n hf hro hn l Bs n₀ v xs w0 h0w hv J Jx (fun pre x W h1 h2 _ => hY pre x W h1 h2) W (hw.trans (hW.mono hsz)) ((hW.cell (p := ⟨Bs, 0, none⟩) hBs).trans hc) h0

theorem own_of_row {w : World} {B : Nat} {v : Value} {k : Nat} {xs : List Int} (h : w.ownsRow B 3 1 v k (xs.map (Value.int .i64))) : OwnI w B v xs := by
  have hl := h.1
  simp only [List.length_map, Nat.mul_one] at hl
  rcases h.2 with ⟨rfl, h0⟩ | ⟨g, cap, cur, rfl, hg, hh, hn, hc, hs, ht⟩
  · have : xs = [] := List.eq_nil_of_length_eq_zero (by omega)
    subst this
    exact ownI_nil w B
  · refine ⟨isSl_mk _ _ _ _ hn hc, by simp [hl], fun _ => ⟨hg, rfl, cur, hh, by rw [vcap_mk, hs]; exact Nat.le_refl _, ?_⟩⟩
    rw [List.length_map, hl]
    simpa using ht

theorem ownI_putObj {W : World} {B l : Nat} {v : Value} {xs : List Int} {o : Obj} (h : OwnI W B v xs) (o' : Obj) (hl : W.heap[l]? = some o) (ho : o.isCells = false) : OwnI (W.putObj l o') B v xs := by
  refine Sl.Own.of_block h fun k hk => World.putObj_heap_other fun e => ?_
  subst e
  obtain ⟨h0, hb⟩ := Sl.row_eq hk
  obtain ⟨_, _, cur, hh, _⟩ := h.2.2 h0
  rw [hb, hl] at hh
  cases hh
  cases ho
theorem box_kept {W w1 : World} {n₀ B Bs : Nat} {e : TypeId} {t : TypeId} {u x v' : Value} {k : Nat} {ys : List Value} {tmp : Obj} (hx : Boxed W Bs t x) (hte : t ≠ e) (hrow : W.ownsRow n₀ e 1 u k ys) (hgrow : (W.alloc tmp).grownBy w1 u.ownBlock) (hne : Bs ≠ B) :
    (w1.setCell ⟨B, 0, none⟩ v').heap[Bs]? = W.heap[Bs]? := by
  rw [Below.heap_setCell w1 ⟨B, 0, none⟩ v' Bs hne]
  have h2 := (hx.alloc tmp).kept hgrow (hx.not_row hte hrow)
  rw [show w1.heap[Bs]? = _ from h2, show W.heap[Bs]? = _ from hx]

set_option maxRecDepth 100000 in
set_option maxHeartbeats 2000000 in
theorem inverted_calls (v : Value) (xs : List Int) (w : World) (hv : Ints w v xs) (hb : ∀ x ∈ xs, -1000 ≤ x ∧ x ≤ 1000) (hl : xs.length ≤ 10000) :
    Calls Try.prog 20 #[v] w fun e w' => ∃ out, e = .returned out ∧ OwnI w' w.heap.size out (invL xs) ∧ Below w.heap.size w w' := by
  obtain ⟨i0, hi, hz0, hz1, hz2⟩ := info_parts info_int
  refine (callsIn_wide (n := 3)).1 ?_
  have sv := hv.isSl
  have hro : Fence.wide.round = none := rfl
  have h1 : 1 ≤ 3 := by omega
  have HV := Lib.hid hv; clear hv
  have HX := Lib.hid hb; clear hb
  refine callsIn_of_wp_marks Try.func20 rfl trivial ?_ hro
  simp only [Try.ntmps20, List.size_toArray, List.length_cons, List.length_nil, Nat.reduceAdd, Nat.reduceSub, Array.replicate_succ, Array.replicate_zero, List.push_toArray, List.append_toArray, List.nil_append, List.cons_append]
  gi_wp2_with (refine ⟨trivial, ?_⟩; gi_at_call 31; refine (backward_in Fence.wide (3 - 1) trivial hro _ sv _).mono ?_; rintro e w' ⟨rfl, rfl⟩)
  have bO := Boxed.new w 22 (.slice none 0 0)
  have bN := Boxed.new (w.alloc (.cells #[.slice none 0 0] 22)) 22 v
  rw [World.size_alloc] at bN
  have hB0 : Below w.heap.size w ((w.alloc (.cells #[.slice none 0 0] 22)).alloc (.cells #[v] 22)) := ((Below.refl _ w).alloc (Nat.le_refl _) _).alloc (by simp) _
  refine wpIn_rangeFunc_ownG hro h1 (gf := 41) (lb := #[.pointer (some ⟨w.heap.size + 1, 0, none⟩)]) rfl trivial (enters_of Try.func41 (by kernel_rfl) rfl)
    (backward_stops Fence.wide (3 - 1) trivial hro (by omega) (w.heap.size + 1) w.heap.size v xs w _ rfl HV.out hB0 (by simp) bN.cell) keepB_t (keepB_b (by simp; omega) (by simp)) (Below.refl _ _) (fun _ => rfl)
    (fun pre W => ((∃ u, Boxed W w.heap.size 22 u ∧ W.ownsRow w.heap.size 3 1 u pre.length ((pre.map fun j => -(nth xs j)).map (Value.int .i64)) ∧ True) ∧ Boxed W (w.heap.size + 1) 22 v) ∧ Below w.heap.size w W)
    (fun _ _ _ => False)
    (OwnFrom.and (OwnFrom.and (Own.from (holdsRow_own w.heap.size w.heap.size 22 3 1 (fun pre : List Nat => pre.length) (fun pre => (pre.map fun j => -(nth xs j)).map (Value.int .i64)) (fun pre v => True)) _) (Own.from (boxed_own _ _ _) _)) (ownFrom_below (Nat.le_refl _) (by simp; omega)))
    (fun _ _ _ _ _ hs _ _ => hs)
    ⟨⟨⟨_, bO.alloc _, World.ownsRow_nil _ _ _ _, trivial⟩, bN⟩, hB0⟩
    (fun x => { tmps := #[v, undef, .slice none 0 0, .pointer (some ⟨w.heap.size, 0, none⟩), undef, .int .i64 (nth xs x), v, .func (.func 41) #[] #[.pointer (some ⟨w.heap.size + 1, 0, none⟩)], .int .i64 (x : Int), .int .i64 (nth xs x), undef, undef, undef, undef, undef, undef, undef], defers := [] }) ?assign ?body ?done ?stop
  case assign =>
    intro l x W K hK
    gi_wp2
    exact hK
  case body =>
    rintro l pre x W ⟨⟨⟨u, hu, hrow, -⟩, hbx⟩, hB⟩ hlt
    have hc := hu.cell
    have hxb : -1000 ≤ nth xs x ∧ nth xs x ≤ 1000 := by
      rcases Nat.lt_or_ge x xs.length with h | h
      · exact HX.out _ (nth_mem h)
      · simp [nth, List.getElem?_eq_none h]
    obtain ⟨hx1, hx2⟩ := hxb
    gi_wp2_with (gi_at_builtin; refine wpListIn_append_own _ rfl _ _ 22 rfl w.heap.size 3 i0 (.int .i64 0) 1 8 Try.underlying22 hi hz0 hz1 hz2 rfl (by decide) _ _ _ rfl (hrow.alloc _) ⟨W.heap.size, 0, none⟩ 1 1 [.int .i64 (-(nth xs x))] rfl rfl (cell_one_new _ _ _) (by simp [Value.oneCell']) (by simp only [maxLen]; omega) (by omega) (by have := hB.size; simp; omega) ?_; intro v' w1 hown' hgrow _; obtain ⟨g', cap', rfl⟩ := ownsRow_succ hown'; obtain ⟨hv1, hv2, hr2, hk2, hb2⟩ := hu.appended (by decide) hrow hB.size (Nat.le_refl _) hown' hgrow; have hc1 := hv1.cell; have hf1 := hv1.frozen)
    have hk3 := box_kept (v' := .slice (some ⟨g', 0, none⟩) (pre.length + 1) cap') hbx (by decide) hrow hgrow (show w.heap.size + 1 ≠ w.heap.size by omega)
    exact ⟨hk2.from _, ⟨hb2, hk3⟩, ⟨⟨_, hv2, by simpa using hr2, trivial⟩, hk3.trans hbx⟩, hB.trans hb2⟩
  case done =>
    rintro D ys W hD rfl ⟨⟨⟨u, hu, hrow, -⟩, hbx⟩, hB⟩ hK
    have hc := hu.cell
    have hown : OwnI W w.heap.size u (invL xs) := by
      have := own_of_row hrow
      rw [downs_map xs (fun x => -x)] at this
      exact this
    have HO := Lib.hid hown; clear hown
    gi_wp2_with (refine ⟨trivial, ?_⟩; gi_at_call 32; refine (callsIn_wide.2 (clip_calls _ _ w.heap.size _ HO.out)).mono ?_; rintro e1 w3 ⟨rfl, v3, rfl, ho3⟩)
    refine ⟨by simp, .inl ⟨_, _, rfl, run_takeDeferred hK, ?_⟩⟩
    exact ⟨_, results_tmp rfl _ _ _, v3, rfl, ownI_putObj ho3 _ hK rfl, hB.trans (belowK_b (w := w) (Nat.le_refl _) W D _ _ (by simp at hD; omega) hK rfl rfl)⟩
  case stop =>
    rintro D c pre W _ _ h _
    exact h.elim

end Go.Proofs.Ytnmklkjlcpgjmaa

