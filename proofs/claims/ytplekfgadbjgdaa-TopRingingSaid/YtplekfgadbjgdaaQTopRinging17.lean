/- slices.Backward over a slice of ints: the contract of its iterator, and freegroup.Inverted walked. -/
import Derived.Test.YtplekfgadbjgdaaQTopRinging0
import Derived.Test.YtplekfgadbjgdaaQTopRinging1
import Derived.Test.YtplekfgadbjgdaaQTopRinging2
import Derived.Test.YtplekfgadbjgdaaQTopRinging3
import Derived.Test.YtplekfgadbjgdaaQTopRinging4
import Derived.Test.YtplekfgadbjgdaaQTopRinging8
import Derived.Test.YtplekfgadbjgdaaQTopRinging10
import Derived.Test.YtplekfgadbjgdaaQTopRinging13
import Derived.RangeFuncNested
import Derived.RangeFuncBound
import Derived.RangeFuncCalls
import Derived.RangeFuncLeaves
import Derived.RangeFuncBox
import Derived.Shelf.Abstract
import Derived.Shelf.RegionOpen
import Derived.OwnWalkIn
import Derived.TacticsInMore
import Derived.LoopNIn
import Derived.LoopIn
import Derived.Maps.AppendAt
namespace Go.Proofs.Ytplekfgadbjgdaa
open Go.RowKit Go.Shelf
open Go.Sl (IsSl vlen vcap vbase vat vblk voff Sl isSl_nil isSl_mk vlen_mk vcap_mk)
attribute [local go_sem] Oper.semAt_some

/-- The indices from the last one down, k of them. -/
def downs (n k : Nat) : List Nat := (List.range k).map fun j => n - 1 - j
theorem downs_succ (n k : Nat) : downs n (k + 1) = downs n k ++ [n - 1 - k] := by simp [downs, List.range_succ]
theorem downs_length (n k : Nat) : (downs n k).length = k := by simp [downs]
theorem downs_map (xs : List Int) (f : Int → Int) : (downs xs.length xs.length).map (fun j => f (nth xs j)) = (xs.map f).reverse := by
  apply List.ext_getElem
  · simp [downs]
  · intro i h1 h2
    simp only [downs, List.map_map, List.getElem_map, Function.comp, List.getElem_range, List.getElem_reverse, List.length_map]
    have h3 : i < xs.length := by simpa [downs] using h1
    rw [nth_lt (by omega)]

/-- What a round keeps: what lay below n₀, and the box of the slice. -/
structure KeepB (n₀ Bs : Nat) (W W' : World) : Prop where
  low : Below n₀ W W'
  box : W'.heap[Bs]? = W.heap[Bs]?
theorem keepB_t {n₀ Bs : Nat} {A B C : World} (h : KeepB n₀ Bs A B) (k : KeepB n₀ Bs B C) : KeepB n₀ Bs A C := ⟨h.low.trans k.low, k.box.trans h.box⟩
theorem keepB_b {n₀ Bs : Nat} {w : World} (hn : n₀ ≤ w.heap.size) (hB : Bs < w.heap.size) (W : World) (l : Nat) (o o' : Obj) (hl : w.heap.size ≤ l) (h : W.heap[l]? = some o) (hc : o.isCells = false) (hw : o.isWalk = false) : KeepB n₀ Bs W (W.putObj l o') :=
  ⟨belowK_b hn W l o o' hl h hc hw, World.putObj_heap_other (by omega)⟩

set_option maxRecDepth 100000 in
set_option maxHeartbeats 2000000 in
theorem backward1_in (F : Fence) (n : Nat) (hf : F.fn 92) (hro : F.round = none) (hn : 1 ≤ n) (l Bs n₀ : Nat) (v : Value) (xs : List Int) (w0 : World) (h0w : w0.heap.size = n₀) (hv : Ints w0 v xs) (J Jx : List Nat → World → Prop)
    (hY : ∀ (pre : List Nat) (x : Nat) (W : World), J pre W → pre.length < xs.length → x < xs.length → YieldAt F (n - 1) Try.prog l #[.int .i64 (x : Int), .int .i64 (nth xs x)] W fun e W' =>
      (e = .returned (.bool true) ∧ J (pre ++ [x]) W' ∧ KeepB n₀ Bs W W') ∨ (e = .returned (.bool false) ∧ Jx (pre ++ [x]) W'))
    (W : World) (hW : Below n₀ w0 W) (hBs : W.cell? ⟨Bs, 0, none⟩ = some v) (h0 : J [] W) :
    CallsIn F n Try.prog 92 #[.func (.yield l) #[] #[], .pointer (some ⟨Bs, 0, none⟩)] W fun e W' => (∃ v, e = .returned v) ∧
      ((∃ ys, ys = downs xs.length xs.length ∧ J ys W') ∨ (∃ pre, (∃ k, k ≤ xs.length ∧ pre = downs xs.length k) ∧ Jx pre W')) := by
  have sv := hv.isSl
  have lv := hv.len
  have i63 := sv.i63
  rw [lv] at i63
  have HV := Lib.hid hv; clear hv
  subst h0w
  refine callsIn_of_wp Try.func92 rfl hf ?_ hro
  simp only [Try.ntmps92, List.size_toArray, List.length_cons, List.length_nil, Nat.reduceAdd, Nat.reduceSub, Array.replicate_succ, Array.replicate_zero, List.push_toArray, List.append_toArray, List.nil_append, List.cons_append]
  gi_wp2
  have HBs := Lib.hid hBs; clear hBs
  have HW := Lib.hid hW; clear hW
  gi_loopw [3] (fun i wr => ∃ k : Nat, k ≤ xs.length ∧ i = .int .i64 ((xs.length : Int) - 1 - k) ∧ J (downs xs.length k) wr ∧ KeepB w0.heap.size Bs W wr)
    (fun i _ => (intOf i + 1).toNat)
  case atStart => exact ⟨0, Nat.zero_le _, by simp, h0, ⟨Below.refl _ _, rfl⟩⟩
  case round =>
    obtain ⟨k, hk, rfl, hJs, hnx⟩ := hrel
    by_cases hlt : k < xs.length
    · obtain ⟨j, hj⟩ : ∃ j, j = xs.length - 1 - k := ⟨_, rfl⟩
      have hji : (xs.length : Int) - 1 - k = (j : Int) := by omega
      have hjl : j < xs.length := by omega
      rw [hji]
      obtain ⟨fn, tmps, assign, body, hy, hR⟩ := hY _ j wr hJs (by rw [downs_length]; exact hlt) hjl
      have hb2 : Below w0.heap.size w0 wr := HW.out.trans hnx.low
      have hcell := (HV.out.below hb2).cell hjl
      have hbox : wr.cell? ⟨Bs, 0, none⟩ = some v := (World.cell?_of_block (a := ⟨Bs, 0, none⟩) hnx.box).trans HBs.out
      have HJI := Lib.hid hji; clear hji
      have HJ := Lib.hid hj; clear hj
      gi_wp2
      refine hR.mono ?_
      rintro e W3 (⟨rfl, hJ3, hk3⟩ | ⟨rfl, hJx3⟩)
      · gi_wp2
        go_roundw
        case rel => exact ⟨k + 1, by omega, by have := HJI.out; congr 1; omega, by rw [downs_succ, ← HJ.out]; exact hJ3, keepB_t hnx hk3⟩
        case measure => simp [intOf]
      · gi_wp2
        refine bodyPost_ret (results_none rfl _ _ _) rfl ?_
        exact ⟨⟨_, rfl⟩, .inr ⟨_, ⟨k + 1, by omega, by rw [downs_succ, ← HJ.out]⟩, hJx3⟩⟩
    · obtain rfl : k = xs.length := by omega
      have hneg : (xs.length : Int) - 1 - xs.length = -1 := by omega
      rw [hneg]
      gi_wp2
      go_end0
      exact ⟨⟨_, rfl⟩, .inl ⟨_, rfl, hJs⟩⟩

set_option maxHeartbeats 1000000 in
theorem backward_in (F : Fence) (n : Nat) (hf : F.fn 45) (hro : F.round = none) (v : Value) (hv : IsSl v) (w : World) :
    CallsIn F n Try.prog 45 #[v] w fun e w' => e = .returned (.func (.func 92) #[] #[.pointer (some ⟨w.heap.size, 0, none⟩)]) ∧ w' = w.alloc (.cells #[v] 22) := by
  refine callsIn_of_wp Try.func45 rfl hf ?_ hro
  simp only [Try.ntmps45, List.size_toArray, List.length_cons, List.length_nil, Nat.reduceAdd, Nat.reduceSub, Array.replicate_succ, Array.replicate_zero, List.push_toArray, List.append_toArray, List.nil_append, List.cons_append]
  gi_wp2
  go_ret
  exact ⟨rfl, rfl⟩

/-- The same, the letters read by another function that agrees with the list's within it. -/
theorem backward_stopsG (F : Fence) (n : Nat) (hf : F.fn 92) (hro : F.round = none) (hn : 1 ≤ n) (Bs n₀ : Nat) (v : Value) (xs : List Int) (g : Nat → Int) (hg : ∀ j, j < xs.length → g j = nth xs j) (w0 w : World) (h0w : w0.heap.size = n₀) (hv : Ints w0 v xs) (hw : Below n₀ w0 w) (hBs : Bs < w.heap.size)
    (hc : w.cell? ⟨Bs, 0, none⟩ = some v) :
    SeqStopsK F n Try.prog 92 #[.pointer (some ⟨Bs, 0, none⟩)] (fun x : Nat => #[Value.int .i64 (x : Int), .int .i64 (g x)]) (KeepB n₀ Bs) (fun ys => ys = downs xs.length xs.length) (fun pre => ∃ k, k ≤ xs.length ∧ pre = downs xs.length k) xs.length w := fun l J Jx W hW _ _ hY h0 => by
  have hsz : n₀ ≤ w.heap.size := by rw [← h0w]; exact (h0w ▸ hw).size
  exact backward1_in F n hf hro hn l Bs n₀ v xs w0 h0w hv J Jx (fun pre x W h1 h2 h3 => by rw [← hg x h3]; exact hY pre x W h1 h2) W (hw.trans (hW.mono hsz)) ((hW.cell (p := ⟨Bs, 0, none⟩) hBs).trans hc) h0

end Go.Proofs.Ytplekfgadbjgdaa

