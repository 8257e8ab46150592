/- slices.Concat of rows of polynomials, walked (slices.Grow of nil with it). -/
import Derived.Test.YtplekfgadbjgdaaQTopSums0
import Derived.Test.YtplekfgadbjgdaaQTopSums1
import Derived.Test.YtplekfgadbjgdaaQTopSums3
import Derived.Test.YtplekfgadbjgdaaQTopSums4
import Derived.Test.YtplekfgadbjgdaaQTopSums5
import Derived.Test.YtplekfgadbjgdaaQTopSums6
import Derived.Test.YtplekfgadbjgdaaQTopSums7
import Derived.Test.YtplekfgadbjgdaaQTopSums8
import Derived.Test.YtplekfgadbjgdaaQTopSums9
import Derived.Test.YtplekfgadbjgdaaQTopSums10
import Derived.Test.YtplekfgadbjgdaaQTopSums11
import Derived.Test.YtplekfgadbjgdaaQTopSums12
import Derived.Test.YtplekfgadbjgdaaQTopSums13
import Derived.Test.YtplekfgadbjgdaaQTopSums14
import Derived.Test.YtplekfgadbjgdaaQTopSums15
import Derived.Test.YtplekfgadbjgdaaQTopSums19
import Derived.Test.YtplekfgadbjgdaaQTopSums23
import Derived.Lib.AppendZeros
import Derived.Lib.Walk
import Derived.RangeFuncNested
import Derived.RangeFuncBound
import Derived.RangeFuncCalls
import Derived.RangeFuncLeaves
import Derived.RangeFuncBox
import Derived.Shelf.Abstract
import Derived.Shelf.RegionOpen
import Derived.OwnWalkIn
import Derived.TacticsInMore
import Derived.LoopNIn
import Derived.LoopIn
import Derived.Maps.AppendAt
import Derived.Deep.RegionLaw
namespace Go.Proofs.Ytplekfgadbjgdaa
open Go.RowKit Go.Sl

theorem poly_info : ∃ i z, Try.prog.info? 40 = some i ∧ i.zero = some z ∧ i.size = 2 ∧ i.bytes = 32 ∧ z.cells = #[.int .i64 0, .slice none 0 0] := by
  obtain ⟨i, hi, hz0, hz1, hz2⟩ := info_parts info_poly
  exact ⟨i, _, hi, hz0, hz1, hz2, rfl⟩

set_option maxRecDepth 100000 in
theorem growP_calls (n : Nat) (w : World) (hn : n ≤ 1000000) :
    Calls Try.prog 151 #[.slice none 0 0, .int .i64 n] w fun e w' => ∃ v, e = .returned v ∧ Go.Sl.Own w' w.heap.size 40 2 v [] ∧ Below w.heap.size w w' := by
  by_cases h0 : n = 0
  · subst h0
    go_enter Try.func151, Try.ntmps151
    go_wp2_with fail
    go_ret
    exact ⟨_, rfl, own_nil _ _ _ _, Below.refl _ _⟩
  · obtain ⟨i, z, hi, hz0, hz1, hz2, hzc⟩ := poly_info
    have h1 : (n : Int) > 0 := by omega
    have hr : ∀ ty, (Builtin.append_ #[92, 3] ty #[.slice none 0 0, .int .i64 (n : Int)]).run Try.prog w = _ :=
      fun ty => Go.Lib.run_append_nil_zeros (P := Try.prog) w 92 3 ty 40 i z .i64 .i64 Try.underlying92 Try.underlying3 hi hz0 n (by omega) (by omega) (by omega) (by rw [hz2]; omega)
    have hge := grownCap_ge w n 0 40
    have hcm : grownCap w n 0 40 ≤ maxLen := grownCap_le_maxLen w n 0 40 (by unfold maxLen; omega)
    obtain ⟨G, hG⟩ : ∃ G, G = grownCap w n 0 40 := ⟨_, rfl⟩
    rw [← hG] at hr hge hcm
    obtain ⟨cs, hcs⟩ : ∃ cs, cs = (Builtin.zeroCells z.cells n ++ Builtin.zeroCells z.cells (G - n)) := ⟨_, rfl⟩
    rw [← hcs] at hr
    have hsz : cs.size = G * 2 := by rw [hcs, hzc]; simp [size_zeroCells]; omega
    have hfin : Go.Sl.Own (w.drew.alloc (.cells cs 40)) w.heap.size 40 2 (.slice (some ⟨w.heap.size, 0, none⟩) 0 G) [] :=
      ⟨isSl_mk _ _ _ _ (Nat.zero_le _) hcm, rfl, fun _ => ⟨Nat.le_refl _, rfl, cs, heap_alloc_new w.drew _, by rw [hsz]; simp, rfl⟩⟩
    have hbl : Below w.heap.size w (w.drew.alloc (.cells cs 40)) := (Below.refl _ _).drew.alloc (Nat.le_refl _) _
    have hGn : n ≤ G := hge
    have HF := Lib.hid hfin; have HB := Lib.hid hbl; have HR := Lib.hid hr
    clear hfin hbl hr hsz hcs hG hi hz0 hz1 hz2 hzc h0
    go_enter Try.func151, Try.ntmps151
    go_wp2_with (at_builtin; refine Lib.wpList_append_run _ rfl _ _ _ _ rfl _ _ rfl rfl _ _ (HR.out _) ?_)
    go_ret
    exact ⟨_, rfl, HF.out, HB.out⟩

def nthc (css : List (List Value)) (i : Nat) : List Value := css.getD i []
theorem nthc_lt {css : List (List Value)} {i : Nat} (h : i < css.length) : nthc css i = css[i] := by simp [nthc, h]
/-- A slice of slices of polynomials, each with its cells. -/
structure RowsC (w : World) (v : Value) (vs : List Value) (css : List (List Value)) : Prop where
  sl : Sl w v 1 vs
  len : vs.length = css.length
  row : ∀ i, i < css.length → Sl w (nthv vs i) 2 (nthc css i)
  one : ∀ i, i < css.length → ∀ u ∈ nthc css i, u.oneCell' = true
theorem RowsC.vlen {w : World} {v : Value} {vs : List Value} {css : List (List Value)} (h : RowsC w v vs css) : Go.Sl.vlen v = css.length := by have := h.sl.2.1; rw [h.len] at this; omega
theorem RowsC.cell {w : World} {v : Value} {vs : List Value} {css : List (List Value)} (h : RowsC w v vs css) {i : Nat} (hi : i < css.length) : w.cell? (vat v i) = some (nthv vs i) := by
  rw [nthv_lt (by rw [h.len]; exact hi)]; exact h.sl.cell (by rw [h.len]; exact hi)
theorem RowsC.below {w w' : World} {v : Value} {vs : List Value} {css : List (List Value)} (h : RowsC w v vs css) (hb : Below w.heap.size w w') : RowsC w' v vs css :=
  ⟨h.sl.below hb, h.len, fun i hi => (h.row i hi).below hb, h.one⟩
/-- append of a whole row of polynomials. -/
theorem wpList_concatP {w : World} {ops : Array Oper} {rest : List Oper} {o : Oper} {a : Act} {Q : Exit → Act → World → Prop} (hgd : o.guard = none) (s x : Operand)
    (ho : o.op = .call { callee := .builtin .append, args := #[s, x], argTypes := #[92, 92] })
    {B : Nat} {v y : Value} {cs ds : List Value} (hs : a.eval s = v) (hx : a.eval x = y) (hown : Go.Sl.Own w B 40 2 v cs) (hy : Sl w y 2 ds) (h1 : ∀ u ∈ ds, u.oneCell' = true) (hB : B ≤ w.heap.size) (hlen : cs.length + ds.length ≤ 1000000000)
    (h : ∀ v' w', Go.Sl.Own w' B 40 2 v' (cs ++ ds) → w.grownBy w' (row v) → (∀ k, row v' = some k → row v = some k ∨ w.heap.size ≤ k) → wpList Try.prog ops Q rest (a.put o.dst v') w') :
    wpList Try.prog ops Q (o :: rest) a w := by
  obtain ⟨i, z, hi, hz0, hz1, hz2, hzc⟩ := poly_info
  have hl := hown.2.1
  have hl' := hy.2.1
  refine wpList_append_sl hgd s x _ ho B 40 i z 2 32 Try.underlying92 hi hz0 hz1 hz2 (by rw [hzc]; rfl) (by decide) hs hx hown hy h1
    (by simp only [maxLen]; omega) (by omega) hB ?_
  intro v' w' h1 h2 h3
  exact h v' w' h1 h2 h3

theorem preC_succ {xss : List (List Value)} {k : Nat} (h : k < xss.length) : (xss.take (k + 1)).flatten = (xss.take k).flatten ++ nthc xss k := by
  rw [List.take_succ_eq_append_getElem h, List.flatten_append, nthc_lt h]; simp
theorem preC_le (xss : List (List Value)) (k : Nat) : (xss.take k).flatten.length ≤ xss.flatten.length := by
  have h1 : xss.flatten = (xss.take k).flatten ++ (xss.drop k).flatten := by rw [← List.flatten_append, List.take_append_drop]
  rw [h1, List.length_append]; omega

set_option maxRecDepth 100000 in
theorem concatP_calls (v : Value) (vs : List Value) (xss : List (List Value)) (w : World) (hv : RowsC w v vs xss) (hl : xss.flatten.length ≤ 100000) :
    Calls Try.prog 117 #[v] w fun e w' => ∃ out, e = .returned out ∧ Go.Sl.Own w' w.heap.size 40 2 out xss.flatten ∧ Below w.heap.size w w' := by
  have sv := hv.sl.isSl
  have lv := hv.vlen
  have i63 := sv.i63
  rw [lv] at i63
  obtain ⟨T, hT⟩ : ∃ T, T = xss.flatten.length := ⟨_, rfl⟩
  rw [← hT] at hl
  have HV := Lib.hid hv; clear hv
  have HT := Lib.hid hT; clear hT
  go_enter Try.func117, Try.ntmps117
  go_wp2_with fail
  go_loop [3, 11] (fun s i => ∃ (k m : Nat), k ≤ xss.length ∧ i = .int .i64 k ∧ s = .int .i64 m ∧ m * 2 = (xss.take k).flatten.length) (fun _ i => xss.length - (intOf i).toNat)
  case atStart => exact ⟨0, 0, Nat.zero_le _, rfl, rfl, by simp⟩
  case round =>
    obtain ⟨k, m, hk, rfl, rfl, hm⟩ := hrel
    have hmle : m * 2 ≤ T := by rw [hm, HT.out]; exact preC_le _ _
    have HM := Lib.hid hm; clear hm
    by_cases hlt : k < xss.length
    · have c1 := HV.out.cell hlt
      obtain ⟨r, hr⟩ : ∃ r, nthv vs k = r := ⟨_, rfl⟩
      obtain ⟨xs, hxs⟩ : ∃ xs, nthc xss k = xs := ⟨_, rfl⟩
      have hrow : Sl w r 2 xs := by have := HV.out.row k hlt; rwa [hr, hxs] at this
      obtain ⟨len, hlen⟩ : ∃ len, vlen r = len := ⟨_, rfl⟩
      have hxl : xs.length = len * 2 := by rw [hrow.2.1, hlen]
      have hnx : (m + len) * 2 = (xss.take (k + 1)).flatten.length := by rw [preC_succ hlt, hxs, List.length_append, ← HM.out]; omega
      have hle : (m + len) * 2 ≤ T := by rw [hnx, HT.out]; exact preC_le _ _
      have hn0 : ¬ ((m : Int) + (len : Int) < 0) := by omega
      rw [hr] at c1
      clear hr hxs
      have sr := hrow.isSl
      have HN := Lib.hid hnx; clear hnx
      have HR := Lib.hid hrow; clear hrow
      go_wp2_with fail
      go_round
      case rel => exact ⟨k + 1, m + len, by omega, by go_num, by go_num, HN.out⟩
      case measure => simp [intOf]; omega
    · clear HM
      go_wp2_with fail
      refine (growP_calls m _ (by omega)).mono ?_
      rintro e w1 ⟨g, rfl, hg, hb1⟩
      have sg := hg.1
      have HG := Lib.hid hg; clear hg
      have HB1 := Lib.hid hb1; clear hb1
      go_wp2_with fail
      go_loopw [6, 27] (fun out i wr => ∃ k : Nat, k ≤ xss.length ∧ i = .int .i64 k ∧ Go.Sl.Own wr w.heap.size 40 2 out (xss.take k).flatten ∧ Below w.heap.size w wr) (fun _ i _ => xss.length - (intOf i).toNat)
      case atStart => exact ⟨0, Nat.zero_le _, rfl, HG.out, HB1.out⟩
      case round =>
        obtain ⟨k, hk, rfl, ho, hbr⟩ := hrel
        have so := ho.1
        by_cases hlt : k < xss.length
        · have c1 := (HV.out.below hbr).cell hlt
          obtain ⟨r, hr⟩ : ∃ r, nthv vs k = r := ⟨_, rfl⟩
          obtain ⟨xs, hxs⟩ : ∃ xs, nthc xss k = xs := ⟨_, rfl⟩
          have hrow : Sl wr r 2 xs := by have := (HV.out.below hbr).row k hlt; rwa [hr, hxs] at this
          have hone : ∀ u ∈ xs, u.oneCell' = true := by have := HV.out.one k hlt; rwa [hxs] at this
          have hnx : (xss.take k).flatten ++ xs = (xss.take (k + 1)).flatten := by rw [preC_succ hlt, hxs]
          have hle : (xss.take k).flatten.length + xs.length ≤ 1000000000 := by
            have h1 := preC_le xss (k + 1)
            rw [← hnx, List.length_append, ← HT.out] at h1
            omega
          have hbs := hbr.size
          rw [hr] at c1
          clear hr hxs
          have sr := hrow.isSl
          have HN := Lib.hid hnx; clear hnx
          have HLE := Lib.hid hle; clear hle
          have HONE := Lib.hid hone; clear hone
          have HBR := Lib.hid hbr; clear hbr
          go_wp2_with (first
            | (at_builtin; refine wpList_concatP rfl _ _ rfl rfl rfl ho hrow HONE.out hbs HLE.out ?_; intro out2 w2 ho2 hg2 hr2; rw [HN.out] at ho2; have so2 := ho2.1))
          have hb2 : Below w.heap.size w w2 := Below_of_grown HBR.out hg2 hbs (fun b hb => (ho.lt b hb).1)
          go_roundw
          case rel => exact ⟨k + 1, by omega, by go_num, ho2, hb2⟩
          case measure => simp [intOf]; omega
        · have hall : (xss.take k).flatten = xss.flatten := by rw [List.take_of_length_le (by omega)]
          rw [hall] at ho
          have HO := Lib.hid ho; clear ho
          have HBR := Lib.hid hbr; clear hbr
          go_wp2_with fail
          go_ret
          exact ⟨_, rfl, HO.out, HBR.out⟩

end Go.Proofs.Ytplekfgadbjgdaa

