/- ringing: ring, rows, Rows, LeadHead walked. -/
import Derived.Test.YtplekfgadbjgdaaQTopRinging0
import Derived.Test.YtplekfgadbjgdaaQTopRinging1
import Derived.Test.YtplekfgadbjgdaaQTopRinging2
import Derived.Test.YtplekfgadbjgdaaQTopRinging3
import Derived.Test.YtplekfgadbjgdaaQTopRinging4
import Derived.Test.YtplekfgadbjgdaaQTopRinging7
import Derived.Test.YtplekfgadbjgdaaQTopRinging8
import Derived.Test.YtplekfgadbjgdaaQTopRinging10
import Derived.Test.YtplekfgadbjgdaaQTopRinging13
import Derived.Test.YtplekfgadbjgdaaQTopRinging14

namespace Go.Proofs.Ytplekfgadbjgdaa
open Go.RowKit Go.Sl

theorem and_bit : ∀ q : Fin 64, ∀ k : Fin 7, bits .and .i64 ((q.val : Int) / 2 ^ k.val) 1 = if q.val.testBit k.val then 1 else 0 := by decide +kernel

set_option maxRecDepth 100000 in
set_option maxHeartbeats 2000000 in
theorem ring_calls (m : Nat) (v : Value) (xs : List Int) (q : Nat) (w : World) (hv : Ints w v xs) (hxl : xs.length = m + 1) (hm : m < 7) (hq : q < 64) :
    Calls Try.prog 156 #[v, .int .i64 q] w fun e w' => ∃ u, e = .returned u ∧ OwnI w' w.heap.size u (ringL xs q) ∧ Below w.heap.size w w' := by
  have sv := hv.isSl
  have lv := hv.len
  rw [hxl] at lv
  have hRL : ringL xs q = ringTo xs q m := by unfold ringL; rw [hxl, Nat.add_sub_cancel]
  rw [hRL]
  have HV := Lib.hid hv; have HXL := Lib.hid hxl
  clear hv hxl hRL
  have hmi : ((m : Int) + 1) - 1 = (m : Int) := by omega
  go_enter Try.func156, Try.ntmps156
  go_wp2_with fail
  refine (clone_calls v xs _ HV.out (by rw [HXL.out]; omega)).mono ?_
  rintro e w1 ⟨c, rfl, hc, hb1⟩
  have sc := hc.isSl
  have HC := Lib.hid hc; have HB1 := Lib.hid hb1
  clear hc hb1
  go_wp2_with fail
  refine (clip_calls c xs w.heap.size _ HC.out).mono ?_
  rintro e w2 ⟨rfl, u, rfl, hu⟩
  have su := hu.isSl
  have lu := hu.len
  rw [HXL.out] at lu
  have HU := Lib.hid hu
  clear hu
  go_wp2_with fail
  go_loopw [13] (fun i wr => ∃ k : Nat, k ≤ m ∧ i = .int .i64 k ∧ OwnI wr w.heap.size u (ringTo xs q k) ∧ Below w.heap.size w wr) (fun i _ => m - (intOf i).toNat)
  case atStart => exact ⟨0, Nat.zero_le _, rfl, HU.out, HB1.out⟩
  case round =>
    obtain ⟨k, hk, rfl, ho, hbr⟩ := hrel
    by_cases hlt : k < m
    · have hand := and_bit ⟨q, hq⟩ ⟨k, by omega⟩
      simp only at hand
      have hSl := ringTo_length xs q k
      rw [HXL.out] at hSl
      have hkS : k < (ringTo xs q k).length := by omega
      have hjS : k + 1 < (ringTo xs q k).length := by omega
      by_cases hb : q.testBit k = true
      · have hstep : ringTo xs q (k + 1) = ((ringTo xs q k).set k (nth (ringTo xs q k) (k + 1))).set (k + 1) (nth (ringTo xs q k) k) := by
          rw [ringTo, if_pos hb]; rfl
        rw [if_pos hb] at hand
        obtain ⟨S, hS⟩ : ∃ S, S = ringTo xs q k := ⟨_, rfl⟩
        rw [← hS] at ho hstep hSl hkS hjS
        obtain ⟨x, hx⟩ : ∃ x, nth S k = x := ⟨_, rfl⟩
        obtain ⟨y, hy⟩ : ∃ y, nth S (k + 1) = y := ⟨_, rfl⟩
        rw [hx, hy] at hstep
        have o1 := ho
        have c1 := o1.cell hkS; have c2 := o1.cell hjS
        rw [hx] at c1
        rw [hy] at c2
        have f1 := o1.frozen hkS
        have o2 := o1.set hkS y
        have f2 := o2.frozen (k := k + 1) (by rw [List.length_set]; exact hjS)
        have e2 := o2.cell (k := k + 1) (by rw [List.length_set]; exact hjS)
        have o3 := o2.set (k := k + 1) (by rw [List.length_set]; exact hjS) x
        have b3 : Below w.heap.size w ((_ : World).setCell (vat u k) (.int .i64 y) |>.setCell (vat u (k + 1)) (.int .i64 x)) := (hbr.setCell (by exact o1.ge hkS) _).setCell (by exact o1.ge hjS) _
        have HST := Lib.hid hstep; have HO3 := Lib.hid o3; have HB3 := Lib.hid b3; have HSS := Lib.hid hS
        clear hstep o1 o2 o3 b3 hx hy hS ho hbr hb
        go_wp2_with fail
        go_region
        go_wp2_with fail
        go_roundw
        case rel => exact ⟨k + 1, by omega, by go_num, by rw [HST.out]; exact HO3.out.below (Below.refl _ _).drew, HB3.out.drew⟩
        case measure => simp [intOf]; omega
      · have hstep : ringTo xs q (k + 1) = ringTo xs q k := by rw [ringTo, if_neg hb]
        rw [if_neg hb] at hand
        have HST := Lib.hid hstep; have HO := Lib.hid ho; have HBR := Lib.hid hbr
        clear hstep ho hbr hb
        go_wp2_with fail
        go_roundw
        case rel => exact ⟨k + 1, by omega, by go_num, by rw [HST.out]; exact HO.out, HBR.out⟩
        case measure => simp [intOf]; omega
    · have hk' : k = m := by omega
      subst hk'
      have HO := Lib.hid ho; have HBR := Lib.hid hbr; clear ho hbr
      go_wp2_with fail
      go_ret
      exact ⟨_, rfl, HO.out, HBR.out⟩

/-- The call's own slice of the call's own rows, none empty, each in a block of its own. -/
structure RO (W : World) (B : Nat) (v : Value) (vs : List Value) (xss : List (List Int)) : Prop where
  own : Go.Sl.Own W B 22 1 v vs
  len : vs.length = xss.length
  row : ∀ i, i < xss.length → OwnI W B (nthv vs i) (nthr xss i)
  pos : ∀ i, i < xss.length → 0 < (nthr xss i).length
  apart : ∀ i, i < xss.length → Go.Sl.row v ≠ some (vblk (nthv vs i))
  each : ∀ i j, i < j → j < xss.length → vblk (nthv vs i) ≠ vblk (nthv vs j)
section
variable {W W' : World} {B : Nat} {u r : Value} {vs : List Value} {xss : List (List Int)} {ys : List Int}
theorem RO.rows (h : RO W B u vs xss) : RowsV W u vs xss := ⟨h.own.sl, h.len, fun i hi => (h.row i hi).ints⟩
theorem RO.below (h : RO W B u vs xss) (hb : Below W.heap.size W W') : RO W' B u vs xss := ⟨h.own.below hb, h.len, fun i hi => (h.row i hi).below hb, h.pos, h.apart, h.each⟩
theorem RO.low {B' : Nat} (h : RO W B u vs xss) (hB : B' ≤ B) : RO W B' u vs xss := ⟨h.own.low hB, h.len, fun i hi => (h.row i hi).low hB, h.pos, h.apart, h.each⟩
theorem RO.rowAt (h : RO W B u vs xss) {i : Nat} (hi : i < xss.length) : Go.Sl.row (nthv vs i) = some (vblk (nthv vs i)) := row_some (by have := (h.row i hi).ints.cap; have := h.pos i hi; omega)
theorem RO.blk (h : RO W B u vs xss) {i : Nat} (hi : i < xss.length) : B ≤ vblk (nthv vs i) ∧ vblk (nthv vs i) < W.heap.size := (h.row i hi).lt _ (h.rowAt hi)
end
theorem ro_one {w : World} {B : Nat} {r : Value} {ys : List Int} (hy : OwnI w B r ys) (h0 : 0 < ys.length) (hB : B ≤ w.heap.size) : RO (w.alloc (.cells #[r] 22)) B (.slice (some ⟨w.heap.size, 0, none⟩) 1 1) [r] [ys] := by
  have hr : Go.Sl.row r = some (vblk r) := row_some (by have := hy.ints.cap; omega)
  have hl := (hy.lt _ hr).2
  refine ⟨⟨isSl_mk _ _ _ _ (Nat.le_refl _) (by unfold maxLen; omega), by simp, fun _ => ⟨hB, rfl, _, heap_alloc_new w _, by simp, by simp⟩⟩, rfl, fun i hi => ?_, fun i hi => ?_, fun i hi => ?_, fun i j hij hj => ?_⟩
  · simp only [List.length_cons, List.length_nil] at hi
    obtain rfl : i = 0 := by omega
    exact hy.below ((Below.refl _ _).alloc (Nat.le_refl _) _)
  · simp only [List.length_cons, List.length_nil] at hi
    obtain rfl : i = 0 := by omega
    exact h0
  · simp only [List.length_cons, List.length_nil] at hi
    obtain rfl : i = 0 := by omega
    intro e
    have : w.heap.size = vblk r := Option.some.inj e
    omega
  · simp only [List.length_cons, List.length_nil] at hj
    omega
/-- append of one row of the call's own. -/
theorem wpList_pushRO {w : World} {ops : Array Oper} {rest : List Oper} {o : Oper} {a : Act} {Q : Exit → Act → World → Prop} (hgd : o.guard = none) (s x : Operand)
    (ho : o.op = .call { callee := .builtin .append, args := #[s, x], argTypes := #[24, 24] })
    {B : Nat} {v r : Value} {vs : List Value} {xss : List (List Int)} {ys : List Int} (hs : a.eval s = v) (hx : a.eval x = .slice (some ⟨w.heap.size, 0, none⟩) 1 1) (hown : RO w B v vs xss) (hy : OwnI w B r ys) (h0 : 0 < ys.length) (hB : B ≤ w.heap.size) (hlen : xss.length ≤ 1000000000000)
    (hap : Go.Sl.row v ≠ some (vblk r)) (hea : ∀ i, i < xss.length → vblk (nthv vs i) ≠ vblk r)
    (h : ∀ v' w', RO w' B v' (vs ++ [r]) (xss ++ [ys]) → w.grownBy w' (Go.Sl.row v) → wpList Try.prog ops Q rest (a.put o.dst v') w') :
    wpList Try.prog ops Q (o :: rest) a (w.alloc (.cells #[r] 22)) := by
  obtain ⟨i, hi, hz0, hz1, hz2⟩ := info_parts info_slice
  have hl : vlen v = xss.length := hown.rows.len
  have hvl := hown.len
  refine wpList_append_sl hgd s x _ ho B 22 i _ 1 24 Try.underlying24 hi hz0 hz1 hz2 rfl (by decide) hs hx (Own.alloc hown.own _) (sl_one w r 22)
    (by intro u hu; simp at hu; subst hu; exact oneCell'_sl hy.isSl) (by simp only [vlen_mk, hl, maxLen]; omega) (by simp only [vlen_mk, hl]; omega) (by simp; omega) ?_
  intro v' w' h1 h2 h3
  have hg : w.grownBy w' (Go.Sl.row v) := ⟨h2.os, h2.tape, h2.output, by have := h2.size; simp at this; omega, fun k hk hr => (h2.block k (by simp; omega) hr).trans (Below.heap_alloc w _ k hk)⟩
  have hfr : ∀ k, Go.Sl.row v' = some k → Go.Sl.row v = some k ∨ w.heap.size ≤ k := by
    intro k hk; rcases h3 k hk with h | h
    · exact .inl h
    · exact .inr (by simp at h; omega)
  have hnv : ∀ i, i < xss.length → nthv (vs ++ [r]) i = nthv vs i ∧ nthr (xss ++ [ys]) i = nthr xss i := by
    intro i hi
    simp [nthv, nthr, List.getElem?_append, hvl, hi]
  have hlast : nthv (vs ++ [r]) xss.length = r ∧ nthr (xss ++ [ys]) xss.length = ys := by
    simp [nthv, nthr, hvl]
  have hrr : Go.Sl.row r = some (vblk r) := row_some (by have := hy.ints.cap; omega)
  have hrl := (hy.lt _ hrr).2
  refine h v' w' ⟨h1, by simp [hvl], fun i hi => ?_, fun i hi => ?_, fun i hi e => ?_, fun i j hij hj => ?_⟩ hg
  · simp only [List.length_append, List.length_cons, List.length_nil] at hi
    rcases Nat.lt_or_ge i xss.length with hlt | hge
    · rw [(hnv i hlt).1, (hnv i hlt).2]
      refine Go.Sl.Own.grown (hown.row i hlt) hg fun k hk e => ?_
      rw [hown.rowAt hlt] at hk
      exact hown.apart i hlt (by rw [e, hk])
    · obtain rfl : i = xss.length := by omega
      rw [hlast.1, hlast.2]
      refine Go.Sl.Own.grown hy hg fun k hk e => ?_
      rw [hrr] at hk
      exact hap (by rw [e, hk])
  · simp only [List.length_append, List.length_cons, List.length_nil] at hi
    rcases Nat.lt_or_ge i xss.length with hlt | hge
    · rw [(hnv i hlt).2]; exact hown.pos i hlt
    · obtain rfl : i = xss.length := by omega
      rw [hlast.2]; exact h0
  · simp only [List.length_append, List.length_cons, List.length_nil] at hi
    rcases Nat.lt_or_ge i xss.length with hlt | hge
    · rw [(hnv i hlt).1] at e
      rcases hfr _ e with h4 | h4
      · exact hown.apart i hlt h4
      · have := (hown.blk hlt).2; omega
    · obtain rfl : i = xss.length := by omega
      rw [hlast.1] at e
      rcases hfr _ e with h4 | h4
      · exact hap h4
      · omega
  · simp only [List.length_append, List.length_cons, List.length_nil] at hj
    rw [(hnv i (by omega)).1]
    rcases Nat.lt_or_ge j xss.length with hlt | hge
    · rw [(hnv j hlt).1]; exact hown.each i j hij hlt
    · obtain rfl : j = xss.length := by omega
      rw [hlast.1]; exact hea i hij
end Go.Proofs.Ytplekfgadbjgdaa

