/- What LinkSums calls besides: link.Components, braid.ExponentSum, slices.IsSorted, and the statement's fact. -/
import Derived.Test.YtmcecmnbdcbehaaQLinkSums0
import Derived.Test.YtmcecmnbdcbehaaQLinkSums1
import Derived.Test.YtmcecmnbdcbehaaQLinkSums2
import Derived.Test.YtmcecmnbdcbehaaQLinkSums3
import Derived.Test.YtmcecmnbdcbehaaQLinkSums4
import Derived.Test.YtmcecmnbdcbehaaQLinkSums5
import Derived.Test.YtmcecmnbdcbehaaQLinkSums6
import Derived.Test.YtmcecmnbdcbehaaQLinkSums7
import Derived.Test.YtmcecmnbdcbehaaQLinkSums8
import Derived.Test.YtmcecmnbdcbehaaQLinkSums9
import Derived.Test.YtmcecmnbdcbehaaQLinkSums10
import Derived.Test.YtmcecmnbdcbehaaQLinkSums11
import Derived.Test.YtmcecmnbdcbehaaQLinkSums12
import Derived.Test.YtmcecmnbdcbehaaQLinkSums13
import Derived.Test.YtmcecmnbdcbehaaQLinkSums14
import Derived.Test.YtmcecmnbdcbehaaQLinkSums15
import Derived.Test.YtmcecmnbdcbehaaQLinkSums16
import Derived.Test.YtmcecmnbdcbehaaQLinkSums17
import Derived.Test.YtmcecmnbdcbehaaQLinkSums18
import Derived.Test.YtmcecmnbdcbehaaQLinkSums19
import Derived.Test.YtmcecmnbdcbehaaQLinkSums20
import Derived.Test.YtmcecmnbdcbehaaQLinkSums21
import Derived.Test.YtmcecmnbdcbehaaQLinkSums22
import Derived.Test.YtmcecmnbdcbehaaQLinkSums23
import Derived.Test.YtmcecmnbdcbehaaQLinkSums24
import Derived.Test.YtmcecmnbdcbehaaQLinkSums25
import Derived.Test.YtmcecmnbdcbehaaQLinkSums26
import Derived.Test.YtmcecmnbdcbehaaQLinkSums27
import Derived.Test.YtmcecmnbdcbehaaQLinkSums28
import Derived.Test.YtmcecmnbdcbehaaQLinkSums29
import Derived.Test.YtmcecmnbdcbehaaQLinkSums30
import Derived.Shelf.Strings.Builder1
import Derived.Deep.RegionLaw
import Derived.RangeFuncNested
import Derived.RangeFuncCalls
import Derived.OrdersIn
import Derived.OrdersHeld
import Derived.Deep.RegionHeld
namespace Go.Proofs.Ytmcecmnbdcbehaa
open Go.RowKit Go.Sl

set_option maxRecDepth 100000 in
theorem components_calls (n : Nat) (v : Value) (xs : List Int) (w : World) (hv : Ints w v xs) (h1 : 2 ≤ n) (h2 : n ≤ 6) (hx : BWord n xs) (hl : xs.length ≤ 30) :
    Calls Try.prog 54 #[.int .i64 n, v] w fun e w' => ∃ (out : Value) (vs : List Value) (C : List (List Int)) (lab : Nat → Nat), e = .returned (.tuple #[out, .int .i64 0]) ∧ RowsV w' out vs C ∧ CycOK (backL (strandsL n xs)) (C.map List.length) ∧ LabOK (backL (strandsL n xs)) C lab ∧ Below w.heap.size w w' := by
  have sv := hv.isSl
  have HCK := Lib.hid (bcheck_calls n v xs w hv (by omega) (by omega) hx hl)
  have HCO := Lib.hid (fun W (hb : Below w.heap.size w W) => comps_calls n v xs W (hv.below hb) h1 h2 hx hl)
  clear hv hx hl
  go_enter Try.func54, Try.ntmps54
  go_wp2_with fail
  refine HCK.out.mono ?_
  rintro e w1 ⟨rfl, hb1⟩
  have HB1 := Lib.hid hb1
  clear hb1 HCK
  go_wp2_with fail
  refine (HCO.out _ HB1.out).mono ?_
  rintro e w2 ⟨out, vs, C, lab, rfl, hr, hcy, hlab, hb2⟩
  have so := hr.isSl
  have HR := Lib.hid hr; have HCY := Lib.hid hcy; have HLAB := Lib.hid hlab; have HB2 := Lib.hid (Below.chain HB1.out hb2)
  clear hr hcy hlab hb2 HCO
  go_wp2_with fail
  go_ret2
  exact ⟨_, vs, C, lab, rfl, HR.out, HCY.out, HLAB.out, HB2.out⟩

theorem sgx_abs {xs : List Int} (hx : ∀ x ∈ xs, x ≠ 0) (k : Nat) : (((xs.take k).map sgx).sum).natAbs ≤ k := by
  induction k with
  | zero => simp
  | succ k ih =>
    rcases Nat.lt_or_ge k xs.length with h | h
    · rw [List.take_succ_eq_append_getElem h, List.map_append, List.sum_append]
      have := sgx_cases (hx _ (List.getElem_mem h))
      simp only [List.map_cons, List.map_nil, List.sum_cons, List.sum_nil]
      rcases this with ⟨h1, _⟩ | ⟨h1, _⟩ <;> rw [h1] <;> omega
    · rw [List.take_of_length_le (by omega)]
      rw [List.take_of_length_le h] at ih; omega

set_option maxRecDepth 100000 in
theorem bsum_calls (n : Nat) (v : Value) (xs : List Int) (w : World) (hv : Ints w v xs) (h2 : n ≤ 6) (hx : BWord n xs) (hl : xs.length ≤ 30) :
    Calls Try.prog 117 #[v] w fun e w' => e = .returned (.int .i64 (xs.map sgx).sum) ∧ w = w' := by
  have sv := hv.isSl
  have lv := hv.len
  have HV := Lib.hid hv
  have hxa : ∀ x ∈ xs, x ≠ 0 ∧ x.natAbs < n := fun x h => by have := hx x h; omega
  have hab := fun k => sgx_abs (fun x h => (hxa x h).1) k (xs := xs)
  obtain ⟨len, hlen⟩ : ∃ len, xs.length = len := ⟨_, rfl⟩
  rw [hlen] at lv hl
  have HXA := Lib.hid hxa; have HAB := Lib.hid hab; have HLN := Lib.hid hlen
  clear hv hx hxa hab hlen
  go_enter Try.func117, Try.ntmps117
  go_wp2_with fail
  go_loop [3, 8] (fun s i => ∃ k : Nat, k ≤ len ∧ i = .int .i64 k ∧ s = .int .i64 ((xs.take k).map sgx).sum) (fun _ i => len - (intOf i).toNat)
  case atStart => exact ⟨0, Nat.zero_le _, rfl, rfl⟩
  case round =>
    obtain ⟨k, hk, rfl, rfl⟩ := hrel
    by_cases hlt : k < len
    · have hkx : k < xs.length := by rw [HLN.out]; exact hlt
      have cx := HV.out.cell hkx
      obtain ⟨c, hc⟩ : ∃ c, nth xs k = c := ⟨_, rfl⟩
      rw [hc] at cx
      have hcb := HXA.out _ (nth_mem hkx)
      rw [hc] at hcb
      obtain ⟨hc0, hcn⟩ := hcb
      have hnx : ((xs.take (k + 1)).map sgx).sum = ((xs.take k).map sgx).sum + sgx c := by
        rw [List.take_succ_eq_append_getElem hkx, ← nth_lt hkx, hc, List.map_append, List.sum_append]; simp
      have hb1 := HAB.out k
      obtain ⟨S, hS⟩ : ∃ S, ((xs.take k).map sgx).sum = S := ⟨_, rfl⟩
      obtain ⟨i, hi⟩ : ∃ i : Nat, c.natAbs = i + 1 := ⟨c.natAbs - 1, by omega⟩
      obtain ⟨s, hs⟩ : ∃ s, sgx c = s := ⟨_, rfl⟩
      have hquo : c.tdiv ((i : Int) + 1) = s := by rw [← hs, sgx, hi]; rfl
      have hsc : s = 1 ∨ s = -1 := by rw [← hs]; rcases sgx_cases hc0 with ⟨h, _⟩ | ⟨h, _⟩ <;> simp [h]
      rw [hS] at hb1 ⊢
      rw [hS, hs] at hnx
      have HI := Lib.hid hi; have HQ := Lib.hid hquo; have HNX := Lib.hid hnx
      clear hi hquo hnx hS hs hc
      go_wp2_with fail
      refine (bindex_calls c _ (by omega) (by omega)).mono ?_
      rintro e w' ⟨rfl, rfl⟩
      rw [HI.out]
      simp only [Int.natCast_add, Int.cast_ofNat_Int]
      have hqq := HQ.out
      have hwr : IntKind.i64.wrap (S + s) = S + s := IntWalk.i64_in _ ⟨by omega, by omega⟩
      go_wp2_with fail
      go_round
      case rel => exact ⟨k + 1, by omega, by go_num, by rw [HNX.out]⟩
      case measure => simp [intOf]; omega
    · have hfull : xs.take k = xs := List.take_of_length_le (by rw [HLN.out]; omega)
      rw [hfull]
      obtain ⟨S, hS⟩ : ∃ S, (xs.map sgx).sum = S := ⟨_, rfl⟩
      rw [hS]
      have HSS := Lib.hid hS
      clear hfull hS
      go_wp2_with fail
      go_ret
      refine ⟨?_, rfl⟩
      rw [HSS.out]; rfl

set_option maxRecDepth 100000 in
theorem expsum_calls (n : Nat) (v : Value) (xs : List Int) (w : World) (hv : Ints w v xs) (h1 : 2 ≤ n) (h2 : n ≤ 6) (hx : BWord n xs) (hl : xs.length ≤ 30) :
    Calls Try.prog 56 #[.int .i64 n, v] w fun e w' => e = .returned (.tuple #[.int .i64 (xs.map sgx).sum, .int .i64 0]) ∧ Below w.heap.size w w' := by
  have sv := hv.isSl
  have HCK := Lib.hid (bcheck_calls n v xs w hv (by omega) (by omega) hx hl)
  have HS := Lib.hid (fun W (hb : Below w.heap.size w W) => bsum_calls n v xs W (hv.below hb) h2 hx hl)
  clear hv hx hl
  go_enter Try.func56, Try.ntmps56
  go_wp2_with fail
  refine HCK.out.mono ?_
  rintro e w1 ⟨rfl, hb1⟩
  have HB1 := Lib.hid hb1
  clear hb1 HCK
  go_wp2_with fail
  refine (HS.out _ HB1.out).mono ?_
  rintro e w' ⟨rfl, rfl⟩
  go_wp2_with fail
  go_ret2
  exact ⟨rfl, HB1.out⟩

set_option maxRecDepth 100000 in
theorem isSorted_calls (v : Value) (xs : List Int) (w : World) (hv : Ints w v xs) (hs : SortedL xs) :
    Calls Try.prog 57 #[v] w fun e w' => e = .returned (.bool true) ∧ Below w.heap.size w w' := by
  have sv := hv.isSl
  have lv := hv.len
  have i63 := sv.i63
  rw [lv] at i63
  have HV := Lib.hid hv
  obtain ⟨len, hlen⟩ : ∃ len, xs.length = len := ⟨_, rfl⟩
  rw [hlen] at lv i63
  have HLN := Lib.hid hlen; have HS := Lib.hid hs
  clear hv hs hlen
  go_enter Try.func57, Try.ntmps57
  go_wp2_with fail
  go_loopw [3] (fun i wr => ∃ k : Int, -1 ≤ k ∧ k < (len : Int) ∧ i = .int .i64 k ∧ Below w.heap.size w wr) (fun i _ => (intOf i + 1).toNat)
  case atStart => exact ⟨(len : Int) - 1, by omega, by omega, by go_num, Below.refl _ _⟩
  case round =>
    obtain ⟨k, h1, h2, rfl, hb⟩ := hrel
    by_cases h0 : 0 < k
    · obtain ⟨j, rfl⟩ : ∃ j : Nat, k = (j : Int) + 1 := ⟨(k - 1).toNat, by omega⟩
      have hj : j + 1 < xs.length := by have := HLN.out; omega
      have c1 := (HV.out.below hb.drew).cell (k := j) (by omega)
      have c2 := (HV.out.below hb.drew).cell (k := j + 1) hj
      have hle := HS.out j (j + 1) (by omega) hj
      obtain ⟨x, hx⟩ : ∃ x, nth xs j = x := ⟨_, rfl⟩
      obtain ⟨y, hy⟩ : ∃ y, nth xs (j + 1) = y := ⟨_, rfl⟩
      rw [hx] at c1 hle
      rw [hy] at c2 hle
      have hjn : ((j : Int) + 1).toNat = j + 1 := by omega
      have hia : ((j : Int) + 1 : Int) - 1 = (j : Int) := by omega
      have hnl : ¬ y < x := by omega
      have hlA : (j : Int) < (len : Int) := by omega
      have hlB : (j : Int) + 1 < (len : Int) := by omega
      have hlC : (0 : Int) ≤ (j : Int) + 1 := by omega
      have hwj : IntKind.i64.wrap (j : Int) = (j : Int) := IntWalk.i64_in _ ⟨by omega, by omega⟩
      have HBD := Lib.hid hb.drew
      clear hx hy hj hb
      have hdl : decide (y < x) = false := decide_eq_false hnl
      go_wp2_with fail
      go_region_held3 (fun W => W.cell? (vat v (j + 1)) = some (.int .i64 y) ∧ W.cell? (vat v j) = some (.int .i64 x)) (exact ⟨c2, c1⟩)
        (first
          | (go_at_call 118; refine (less_calls y x _).mono ?_; rintro e w' ⟨rfl, rfl⟩)
          | fail "arm")
      go_wp2_with fail
      go_roundw
      case rel => exact ⟨j, by omega, by omega, by go_num, HBD.out⟩
      case measure => simp [intOf]; omega
    · have h3 : ¬ k > 0 := h0
      have HBD := Lib.hid hb
      clear hb
      go_wp2_with fail
      go_ret
      exact ⟨rfl, HBD.out⟩

theorem linkedL : backL (strandsL 2 [-1, -1]) = [0, 1] := by decide
theorem linked_mat {C : List (List Int)} {lab : Nat → Nat} (hc : CycOK (backL (strandsL 2 [-1, -1])) (C.map List.length)) (hl : LabOK (backL (strandsL 2 [-1, -1])) C lab) : C.length = 2 ∧ matI C.length (lkN (lkRun lab 2 [-1, -1]).1) = [[0, -1], [-1, 0]] := by
  rw [linkedL] at hc hl
  have hit : ∀ k j, j < 2 → itr [0, 1] k j = j := fun k => by
    induction k with
    | zero => intro j _; rfl
    | succ k ih =>
      intro j hj
      rw [itr, ih j hj]
      rcases (show j = 0 ∨ j = 1 by omega) with rfl | rfl <;> rfl
  have hN : C.length = 2 := by
    have h := hc.reps
    rw [List.length_map, cntN_all _ fun j hj k => by rw [hit k j hj]; exact Nat.le_refl _] at h
    exact h
  have h0 := hl.lt 0 (by decide)
  have h1 := hl.lt 1 (by decide)
  rw [hN] at h0 h1
  have hne : lab 0 ≠ lab 1 := by
    intro e
    obtain ⟨b, hb, hbn⟩ : ∃ b, b < 2 ∧ b ≠ lab 0 := by
      by_cases h : lab 0 = 0
      · exact ⟨1, by omega, by omega⟩
      · exact ⟨0, by omega, by omega⟩
    have hp := hc.pos _ (List.mem_map.2 ⟨nthr C b, nthr_mem (by omega), rfl⟩)
    obtain ⟨_, a2, a3⟩ := hl.mem b (by omega) _ (nth_mem hp)
    obtain ⟨x, hx⟩ : ∃ x, (nth (nthr C b) 0).toNat = x := ⟨_, rfl⟩
    rw [hx] at a2 a3
    have a2 : x < 2 := a2
    rcases (show x = 0 ∨ x = 1 by omega) with rfl | rfl
    · exact hbn a3.symm
    · exact hbn (by omega)
  have hrun : (lkRun lab 2 [-1, -1]).1 = bump (bump (fun _ _ => 0) (lab 0) (lab 1) (-1)) (lab 1) (lab 0) (-1) := rfl
  refine ⟨hN, ?_⟩
  rw [hN, hrun]
  rcases (show lab 0 = 0 ∧ lab 1 = 1 ∨ lab 0 = 1 ∧ lab 1 = 0 by omega) with ⟨e, f⟩ | ⟨e, f⟩ <;> rw [e, f] <;> decide

set_option maxRecDepth 100000 in
theorem linked_calls (w : World) :
    Calls Try.prog 60 #[] w fun e w' => e = .returned (.bool true) ∧ Below w.heap.size w w' := by
  have hbw : BWord (2 : Nat) [-1, -1] := fun x hx => by simp at hx; subst hx; decide
  have HBW := Lib.hid hbw; clear hbw
  go_enter Try.func60, Try.ntmps60
  go_wp2_with fail
  refine (linknum_calls 2 _ [-1, -1] _ (ints_lit [-1, -1] (by simp) rfl rfl (by decide)) (by omega) (by omega) HBW.out (by decide)).mono ?_
  rintro e w1 ⟨u, C, lab, rfl, hcy, hlab, hr, hb⟩
  obtain ⟨hN, hM⟩ := linked_mat hcy hlab
  rw [hM] at hr
  have su := hr.isSl
  have lu := hr.len
  have lu : vlen u = 2 := lu
  obtain ⟨vs, hrv⟩ := hr
  have c0 := hrv.cell (i := 0) (by decide)
  have c1 := hrv.cell (i := 1) (by decide)
  have r0 := hrv.row (i := 0) (by decide)
  have r1 := hrv.row (i := 1) (by decide)
  obtain ⟨q0, hq0⟩ : ∃ q, nthv vs 0 = q := ⟨_, rfl⟩
  obtain ⟨q1, hq1⟩ : ∃ q, nthv vs 1 = q := ⟨_, rfl⟩
  rw [hq0] at c0 r0
  rw [hq1] at c1 r1
  have R0 := Lib.hid (show Ints w1 q0 [0, -1] from r0); have R1 := Lib.hid (show Ints w1 q1 [-1, 0] from r1); have HRV := Lib.hid hrv
  have HB := Lib.hid (Below.chain ((Below.refl _ _).alloc (Nat.le_refl _) _) hb)
  have HQ1 := Lib.hid hq1
  clear hcy hlab hN hM hb r0 r1 hq0 hq1 hrv
  go_wp2_with fail
  refine (equal_yes _ _ [0, -1] [0, -1] _ (R0.out.alloc _) (ints_lit [0, -1] (by simp) rfl rfl (by decide)) rfl).mono ?_
  rintro e w2 ⟨rfl, hb⟩
  have hb2 := Below.chain ((Below.refl _ _).alloc (Nat.le_refl _) _) hb
  clear c0 c1
  have c1 := (HRV.out.below hb2).cell (i := 1) (by decide)
  rw [HQ1.out] at c1
  replace R1 := Lib.hid (R1.out.below hb2)
  replace HB := Lib.hid (Below.chain HB.out hb2)
  clear hb hb2
  go_wp2_with fail
  refine (equal_yes _ _ [-1, 0] [-1, 0] _ (R1.out.alloc _) (ints_lit [-1, 0] (by simp) rfl rfl (by decide)) rfl).mono ?_
  rintro e w3 ⟨rfl, hb⟩
  have HB3 := Lib.hid (Below.chain HB.out (Below.chain ((Below.refl _ _).alloc (Nat.le_refl _) _) hb))
  clear hb
  go_wp2_with fail
  go_ret
  exact ⟨rfl, HB3.out⟩

end Go.Proofs.Ytmcecmnbdcbehaa

