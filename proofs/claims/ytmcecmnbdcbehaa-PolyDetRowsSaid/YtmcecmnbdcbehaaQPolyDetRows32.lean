/- PolyDetRows: for every input the statement returns true, and nothing that was there has changed. -/
import Derived.Test.YtmcecmnbdcbehaaQPolyDetRows0
import Derived.Test.YtmcecmnbdcbehaaQPolyDetRows1
import Derived.Test.YtmcecmnbdcbehaaQPolyDetRows2
import Derived.Test.YtmcecmnbdcbehaaQPolyDetRows3
import Derived.Test.YtmcecmnbdcbehaaQPolyDetRows4
import Derived.Test.YtmcecmnbdcbehaaQPolyDetRows5
import Derived.Test.YtmcecmnbdcbehaaQPolyDetRows6
import Derived.Test.YtmcecmnbdcbehaaQPolyDetRows7
import Derived.Test.YtmcecmnbdcbehaaQPolyDetRows8
import Derived.Test.YtmcecmnbdcbehaaQPolyDetRows9
import Derived.Test.YtmcecmnbdcbehaaQPolyDetRows10
import Derived.Test.YtmcecmnbdcbehaaQPolyDetRows11
import Derived.Test.YtmcecmnbdcbehaaQPolyDetRows12
import Derived.Test.YtmcecmnbdcbehaaQPolyDetRows13
import Derived.Test.YtmcecmnbdcbehaaQPolyDetRows14
import Derived.Test.YtmcecmnbdcbehaaQPolyDetRows15
import Derived.Test.YtmcecmnbdcbehaaQPolyDetRows16
import Derived.Test.YtmcecmnbdcbehaaQPolyDetRows17
import Derived.Test.YtmcecmnbdcbehaaQPolyDetRows18
import Derived.Test.YtmcecmnbdcbehaaQPolyDetRows19
import Derived.Test.YtmcecmnbdcbehaaQPolyDetRows20
import Derived.Test.YtmcecmnbdcbehaaQPolyDetRows21
import Derived.Test.YtmcecmnbdcbehaaQPolyDetRows22
import Derived.Test.YtmcecmnbdcbehaaQPolyDetRows23
import Derived.Test.YtmcecmnbdcbehaaQPolyDetRows24
import Derived.Test.YtmcecmnbdcbehaaQPolyDetRows25
import Derived.Test.YtmcecmnbdcbehaaQPolyDetRows26
import Derived.Test.YtmcecmnbdcbehaaQPolyDetRows27
import Derived.Test.YtmcecmnbdcbehaaQPolyDetRows28
import Derived.Test.YtmcecmnbdcbehaaQPolyDetRows29
import Derived.Test.YtmcecmnbdcbehaaQPolyDetRows30
import Derived.Test.YtmcecmnbdcbehaaQPolyDetRows31
import Derived.Deep.RegionHeld3
import Derived.Deep.RegionLaw
import Derived.RangeFuncNested
import Derived.RangeFuncBound
import Derived.RangeFuncCalls
import Derived.RangeFuncLeaves
import Derived.RangeFuncBox
import Derived.Shelf.Abstract
import Derived.Shelf.RegionOpen
import Derived.OwnWalkIn
import Derived.TacticsInMore
import Derived.LoopNIn
import Derived.LoopIn
import Derived.Maps.AppendAt
namespace Go.Proofs.Ytmcecmnbdcbehaa
open Go.RowKit Go.Sl

set_option maxHeartbeats 8000000 in
set_option maxRecDepth 100000 in
theorem polyDetRows_true {w0 : World} (n : Int) (hn : I64 n) (raw : Value) (xss : List (List Int)) (hr0 : Rows2 w0 raw xss) (hx0 : ∀ r ∈ xss, ∀ x ∈ r, I64 x) (i0 : Int) (hi0 : I64 i0) (k0 : Int) (hk0 : I64 k0) (w : World) (hw : w = w0 := by rfl) :
    Calls Try.prog 3 #[.int .i64 n, raw, .int .i64 i0, .int .i64 k0] w fun e w' => e = .returned (.bool true) ∧ Below w.heap.size w w' := by
  subst hw
  obtain ⟨m0, hm0⟩ : ∃ m : Nat, n % 2 = (m : Int) := ⟨(n % 2).toNat, by omega⟩
  obtain ⟨N, hN⟩ : ∃ N : Nat, N = 2 + m0 := ⟨_, rfl⟩
  have hN2 : 2 ≤ N := by omega
  have hN3 : N ≤ 3 := by omega
  have hNi : (2 : Int) + (m0 : Int) = (N : Int) := by omega
  have HM0 := Lib.hid hm0
  obtain ⟨vs0, hrv⟩ := hr0
  have sraw := hrv.isSl
  have lraw := hrv.len
  have lri := sraw.i63
  rw [lraw] at lri
  obtain ⟨LR, hLR⟩ : ∃ LR, xss.length = LR := ⟨_, rfl⟩
  rw [hLR] at lraw lri
  obtain ⟨P, hP⟩ : ∃ P : Nat → Nat → LP, P = fun i j => pAt xss (i * N + j) := ⟨_, rfl⟩
  have heb : ∀ i j, EB (P i j) := fun i j => by rw [hP]; exact pAt_eb _ _
  obtain ⟨W2, hW2⟩ : ∃ W2, W2 = (w.alloc (.cells #[.int .i64 1] 3)).alloc (.cells #[.int .i64 0, .slice (some ⟨w.heap.size, 0, none⟩) 1 1] 27) := ⟨_, rfl⟩
  have B2 := Lib.hid (show Below w.heap.size w W2 by rw [hW2]; exact ((Below.refl _ _).alloc (Nat.le_refl _) _).alloc (by simp) _)
  have Z2 : W2.heap.size = w.heap.size + 2 := by rw [hW2]; simp
  have P2 := Lib.hid (show Pair W2 (w.heap.size + 1) 27 (.int .i64 (diagP P 0).low) (.slice (some ⟨w.heap.size, 0, none⟩) 1 1) by
    rw [hW2]; have := pair_new (w.alloc (.cells #[.int .i64 1] 3)) 27 (.int .i64 0) (.slice (some ⟨w.heap.size, 0, none⟩) 1 1); simpa [diagP] using this)
  have D2 := Lib.hid (show OwnGI W2 w.heap.size (.slice (some ⟨w.heap.size, 0, none⟩) 1 1) (diagP P 0).c by
    rw [hW2]
    have h1 : OwnG (w.alloc (.cells #[.int .i64 1] 3)) w.heap.size 3 (.slice (some ⟨w.heap.size, 0, none⟩) 1 1) [.int .i64 1] := by
      refine ⟨isSl_mk _ _ _ _ (Nat.le_refl _) (by decide), rfl, fun _ => ⟨Nat.le_refl _, #[.int .i64 1], heap_alloc_new w _, Nat.le_refl 1, fun j hj => ?_⟩⟩
      obtain rfl : j = 0 := by simp at hj; omega
      rfl
    exact h1.alloc _)
  have HW2 := Lib.hid hW2.symm
  have HRV := Lib.hid hrv; have HX0 := Lib.hid hx0; have HLR := Lib.hid hLR; have HP := Lib.hid hP; have HEB := Lib.hid heb
  clear hrv hx0 hLR hP heb hW2 hm0 hN
  go_enter Try.func3, Try.ntmps3
  go_wp2_with fail
  refine (below_nat n 2 m0 _ (by omega) (by omega) hn HM0.out).mono ?_
  rintro e w' ⟨rfl, rfl⟩
  go_wp2_with fail
  rw [HW2.out]
  go_loopw [9, 10, 11, 33] (fun mv tv at_ iv wr => ∃ (k : Nat) (ms ts : List Value) (dc : Value), k ≤ N ∧ iv = .int .i64 k ∧ at_ = .int .i64 ((k * N : Nat) : Int) ∧ TMat wr (w.heap.size + 2) mv ms ((matM N P).take k) ∧ TMat wr (w.heap.size + 2) tv ts ((matM N (lowM P)).take k) ∧
    (∀ b, Go.Sl.row mv = some b → Go.Sl.row tv ≠ some b) ∧ Pair wr (w.heap.size + 1) 27 (.int .i64 (diagP P k).low) dc ∧ OwnGI wr w.heap.size dc (diagP P k).c ∧ Below w.heap.size w wr ∧ w.heap.size + 2 ≤ wr.heap.size) (fun _ _ _ iv _ => N - (intOf iv).toNat)
  case atStart => exact ⟨0, [], [], _, Nat.zero_le _, rfl, by simp, tMat_nil _ _, tMat_nil _ _, by simp, P2.out, D2.out, B2.out, by omega⟩
  case round =>
    rename World => Wo
    obtain ⟨k, ms, ts, dc, hk, rfl, rfl, tm, tt, tap, hdp, hdc, hbo, hzo⟩ := hrel
    obtain ⟨A0, hA0⟩ : ∃ A0, k * N = A0 := ⟨_, rfl⟩
    rw [hA0]
    have st9 := tm.isSl
    have st10 := tt.isSl
    by_cases hkn : k < N
    · have HTM := Lib.hid tm; have HTT := Lib.hid tt; have HTAP := Lib.hid tap; have HBO := Lib.hid hbo; have HA0 := Lib.hid hA0
      have hA12 : A0 ≤ 12 := by rw [← hA0]; exact Nat.le_trans (Nat.mul_le_mul (show k ≤ 3 by omega) hN3) (by omega)
      have hDP := hdp; have hDC := hdc
      clear tm tt tap hbo hA0 hdp hdc
      obtain ⟨R, hR⟩ : ∃ R, rowOf P N k = R := ⟨_, rfl⟩
      obtain ⟨L, hL⟩ : ∃ L, rowOf (lowM P) N k = L := ⟨_, rfl⟩
      have HR := Lib.hid hR; have HL := Lib.hid hL
      clear hR hL
      have HDP := Lib.hid hDP; have HDC := Lib.hid hDC
      clear hDP hDC
      go_wp2_with fail
      go_loopw [11, 14, 15, 37] (fun at_ rv lv cv wi => ∃ (j : Nat) (us ls : List Value) (dj : Value), j ≤ N ∧ cv = .int .i64 j ∧ at_ = .int .i64 ((A0 + j : Nat) : Int) ∧ TRow wi Wo.heap.size rv us (R.take j) ∧ TRow wi Wo.heap.size lv ls (L.take j) ∧
        (∀ b, Go.Sl.row rv = some b → Go.Sl.row lv ≠ some b) ∧ Pair wi (w.heap.size + 1) 27 (.int .i64 (diagP P (if k < j then k + 1 else k)).low) dj ∧ OwnGI wi w.heap.size dj (diagP P (if k < j then k + 1 else k)).c ∧ Wo.grownBy wi (some (w.heap.size + 1))) (fun _ _ _ cv _ => N - (intOf cv).toNat)
      case atStart => exact ⟨0, [], [], dc, Nat.zero_le _, rfl, by simp, tRow_nil _ _, tRow_nil _ _, by simp, by rw [if_neg (by omega)]; exact HDP.out, by rw [if_neg (by omega)]; exact HDC.out, ⟨rfl, rfl, rfl, Nat.le_refl _, fun _ _ _ => rfl⟩⟩
      case round =>
        rename World => Wi
        obtain ⟨j, us, ls, dj, hj, rfl, rfl, trw, tlw, rap, hdp, hdj, hkp⟩ := hrel
        obtain ⟨a, ha⟩ : ∃ a, A0 + j = a := ⟨_, rfl⟩
        rw [ha]
        have ha20 : a ≤ 20 := by omega
        have sr14 := trw.isSl
        have sr15 := tlw.isSl
        by_cases hjn : j < N
        · obtain ⟨dD, hdD⟩ : ∃ dD, diagP P (if k < j then k + 1 else k) = dD := ⟨_, rfl⟩
          rw [hdD] at hdp hdj
          have sdj := hdj.isSl
          have rn : Rnd Wo (Wi.alloc (.cells #[.int .i64 0, .slice none 0 0] 27)) w.heap.size (w.heap.size + 1) Wi.heap.size u14 u15 us ls (R.take j) (L.take j) pzero (.slice none 0 0) dD dj := by
            have hal : Below Wi.heap.size Wi (Wi.alloc (.cells #[.int .i64 0, .slice none 0 0] 27)) := (Below.refl _ _).alloc (Nat.le_refl _) _
            exact ⟨trw.below hal, tlw.below hal, rap, pair_new _ _ _ _, ownGI_nil _ _, hdp.below hal, hdj.below hal, Keep.below hkp (hal.mono hkp.size), fun b hb e => by have := (trw.own.lt b hb).2; omega, fun b hb e => by have := (tlw.own.lt b hb).2; omega, hkp.size, by omega⟩
          have hbi : Below w.heap.size w Wi := HBO.out.grown hkp HBO.out.size (fun b hb => by injection hb with hb; omega)
          have HBI := Lib.hid hbi
          have HRN := Lib.hid rn; have HDD := Lib.hid hdD; have HAA := Lib.hid ha
          have hpa : P k j = pAt xss a := by rw [HP.out, ← HAA.out, ← HA0.out]
          have HPA := Lib.hid hpa
          have hEBp := HEB.out k j
          have HEBP := Lib.hid hEBp
          have hrow1 := rowOf_take (P := P) (n := N) (i := k) hjn
          have hlow1 := rowOf_take (P := lowM P) (n := N) (i := k) hjn
          rw [HR.out] at hrow1
          rw [HL.out] at hlow1
          have HROW := Lib.hid hrow1; have HLOW := Lib.hid hlow1
          have hlR : (R.take j).length ≤ 3 := by rw [← HR.out]; simp [rowOf]; omega
          have hlL : (L.take j).length ≤ 3 := by rw [← HL.out]; simp [rowOf]; omega
          have HLRW := Lib.hid hlR; have HLLW := Lib.hid hlL
          clear hbi rn hdD ha hpa hEBp hrow1 hlow1 hlR hlL trw tlw rap hdp hdj hkp
          by_cases hat : a < LR
          · obtain ⟨rr, hrr⟩ : ∃ rr, nthv vs0 a = rr := ⟨_, rfl⟩
            have hra := (HRV.out.below HBI.out).row (i := a) (by rw [HLR.out]; exact hat)
            have hca := (HRV.out.below HBI.out).cell (i := a) (by rw [HLR.out]; exact hat)
            rw [hrr] at hra hca
            have srr := hra.isSl
            have lrr := hra.len
            have hcap := hra.cap
            obtain ⟨ys, hys⟩ : ∃ ys, nthr xss a = ys := ⟨_, rfl⟩
            have hxa : ∀ x ∈ ys, I64 x := fun x hx => HX0.out _ (nthr_mem (by rw [HLR.out]; exact hat)) x (by rw [hys]; exact hx)
            rw [hys] at hra lrr hcap
            obtain ⟨Ly, hLy⟩ : ∃ Ly, ys.length = Ly := ⟨_, rfl⟩
            rw [hLy] at lrr hcap
            have i63 := srr.i63
            rw [lrr] at i63
            obtain ⟨q, hq⟩ : ∃ q, q = min Ly 4 := ⟨_, rfl⟩
            have hq1 : q ≤ Ly := by omega
            have hq2 : q ≤ 4 := by omega
            have hmin : min (Ly : Int) 4 = (q : Int) := by omega
            have hqc : q ≤ vcap rr := by omega
            have hcut : Ints Wi (vcut rr 0 q (vcap rr) 1) (ys.take 4) := by
              have := hra.cut (l := 0) (r := q) (m := vcap rr) (by omega) (by omega) (by omega) (by omega)
              have e : ys.take 4 = ys.take q := by rw [List.take_eq_take_iff]; omega
              rw [e]; simpa using this
            have hpl : polyL (a : Int) (ys.take 4) = P k j := by rw [HPA.out, pAt, if_pos (by rw [HLR.out]; exact hat), hys]
            have HPL := Lib.hid hpl
            have dr : Below Wi.heap.size Wi ((Wi.alloc (.cells #[.int .i64 0, .slice none 0 0] 27)).drew) := ((Below.refl _ _).alloc (Nat.le_refl _) _).drew
            have drA : Below (Wi.alloc (.cells #[.int .i64 0, .slice none 0 0] 27)).heap.size (Wi.alloc (.cells #[.int .i64 0, .slice none 0 0] 27)) ((Wi.alloc (.cells #[.int .i64 0, .slice none 0 0] 27)).drew) := (Below.refl _ _).drew
            have HCUT := Lib.hid (hcut.below dr)
            have HXA := Lib.hid (show ∀ z ∈ ys.take 4, I64 z from fun z hz => hxa z (List.mem_of_mem_take hz))
            have HIA := Lib.hid (show I64 (a : Int) by unfold I64; omega)
            have HRND := Lib.hid (HRN.out.below drA)
            have hcw : ∀ W, Below Wi.heap.size Wi W → W.cell? (vat raw a) = some rr := fun W hb => by
              have := ((HRV.out.below HBI.out).below hb).cell (i := a) (by rw [HLR.out]; exact hat)
              rw [hrr] at this; exact this
            have HCW := Lib.hid hcw; have HDR := Lib.hid dr
            clear hxa hys hLy hq hcut hpl hra hca hcw drA dr hrr
            have hai : (a : Int) < (LR : Int) := by omega
            go_wp2_with fail
            refine wp_region_held_drew (S := fun W => W.cell? (vat raw a) = some rr) (by kernel_rfl) (HCW.out _ HDR.out) (fun hHeld => ?_)
            refine' wpAnyH_take (i := 0) (oi := ?oiz1) (v := ?vz1) ?haz1 (by kernel_rfl) ?hfz1 ?hrz1 ?hQz1 (Or.inl ⟨?hwz1, ?hyz1⟩) (by assumption) ?restz1
            case haz1 => (simp only [List.getElem?_toArray, List.getElem?_cons_succ, List.getElem?_cons_zero]; exact rfl)
            case hQz1 => exact fun _ _ _ h => h
            case hfz1 => kernel_rfl
            case hrz1 => kernel_rfl
            case hwz1 => rfl
            case hyz1 => (intro w hSw; (try dsimp only at hSw); have cr0 := hSw; go_simp; (try with_reducible rfl))
            try simp only [Act.put, List.setIfInBounds_toArray, List.set_cons_zero, List.set_cons_succ]
            refine' wpAnyH_take (i := 1) (oi := ?oiz2) (v := ?vz2) ?haz2 (by kernel_rfl) ?hfz2 ?hrz2 ?hQz2 (Or.inl ⟨?hwz2, ?hyz2⟩) (by assumption) ?restz2
            case haz2 => (simp only [List.getElem?_toArray, List.getElem?_cons_succ, List.getElem?_cons_zero]; exact rfl)
            case hQz2 => exact fun _ _ _ h => h
            case hfz2 => kernel_rfl
            case hrz2 => kernel_rfl
            case hwz2 => rfl
            case hyz2 => (intro w hSw; (try dsimp only at hSw); have cr0 := hSw; go_simp; (try with_reducible rfl))
            try simp only [Act.put, List.setIfInBounds_toArray, List.set_cons_zero, List.set_cons_succ]
            refine' wpAnyH_take (i := 2) (oi := ?oiz3) (v := ?vz3) ?haz3 (by kernel_rfl) ?hfz3 ?hrz3 ?hQz3 (Or.inl ⟨?hwz3, ?hyz3⟩) (by assumption) ?restz3
            case haz3 => (simp only [List.getElem?_toArray, List.getElem?_cons_succ, List.getElem?_cons_zero]; exact rfl)
            case hQz3 => exact fun _ _ _ h => h
            case hfz3 => kernel_rfl
            case hrz3 => kernel_rfl
            case hwz3 => rfl
            case hyz3 => (intro w hSw; (try dsimp only at hSw); have cr0 := hSw; go_simp; (try with_reducible rfl))
            try simp only [Act.put, List.setIfInBounds_toArray, List.set_cons_zero, List.set_cons_succ]
            refine' wpAnyH_take (i := 3) (oi := ?oiz4) (v := ?vz4) ?haz4 (by kernel_rfl) ?hfz4 ?hrz4 ?hQz4 (Or.inl ⟨?hwz4, ?hyz4⟩) (by assumption) ?restz4
            case haz4 => (simp only [List.getElem?_toArray, List.getElem?_cons_succ, List.getElem?_cons_zero]; exact rfl)
            case hQz4 => exact fun _ _ _ h => h
            case hfz4 => kernel_rfl
            case hrz4 => kernel_rfl
            case hwz4 => rfl
            case hyz4 => (intro w hSw; (try dsimp only at hSw); have cr0 := hSw; go_simp; (try with_reducible rfl))
            try simp only [Act.put, List.setIfInBounds_toArray, List.set_cons_zero, List.set_cons_succ]
            refine' wpAnyH_take (i := 4) (oi := ?oiz5) (v := ?vz5) ?haz5 (by kernel_rfl) ?hfz5 ?hrz5 ?hQz5 (Or.inl ⟨?hwz5, ?hyz5⟩) (by assumption) ?restz5
            case haz5 => (simp only [List.getElem?_toArray, List.getElem?_cons_succ, List.getElem?_cons_zero]; exact rfl)
            case hQz5 => exact fun _ _ _ h => h
            case hfz5 => kernel_rfl
            case hrz5 => kernel_rfl
            case hwz5 => rfl
            case hyz5 => (intro w hSw; (try dsimp only at hSw); have cr0 := hSw; go_simp; (try with_reducible rfl))
            try simp only [Act.put, List.setIfInBounds_toArray, List.set_cons_zero, List.set_cons_succ]
            refine' wpAnyH_take (i := 5) (oi := ?oiz6) (v := ?vz6) ?haz6 (by kernel_rfl) ?hfz6 ?hrz6 ?hQz6 (Or.inl ⟨?hwz6, ?hyz6⟩) (by assumption) ?restz6
            case haz6 => (simp only [List.getElem?_toArray, List.getElem?_cons_succ, List.getElem?_cons_zero]; exact rfl)
            case hQz6 => exact fun _ _ _ h => h
            case hfz6 => kernel_rfl
            case hrz6 => kernel_rfl
            case hwz6 => rfl
            case hyz6 => (intro w hSw; (try dsimp only at hSw); have cr0 := hSw; go_simp; (try with_reducible rfl))
            try simp only [Act.put, List.setIfInBounds_toArray, List.set_cons_zero, List.set_cons_succ]
            refine' wpAnyH_take (i := 6) (oi := ?oiz7) (v := ?vz7) ?haz7 (by kernel_rfl) ?hfz7 ?hrz7 ?hQz7 (Or.inl ⟨?hwz7, ?hyz7⟩) (by assumption) ?restz7
            case haz7 => (simp only [List.getElem?_toArray, List.getElem?_cons_succ, List.getElem?_cons_zero]; exact rfl)
            case hQz7 => exact fun _ _ _ h => h
            case hfz7 => kernel_rfl
            case hrz7 => kernel_rfl
            case hwz7 => rfl
            case hyz7 => (intro w hSw; (try dsimp only at hSw); have cr0 := hSw; go_simp; (try with_reducible rfl))
            try simp only [Act.put, List.setIfInBounds_toArray, List.set_cons_zero, List.set_cons_succ]
            refine' wpAnyH_take (i := 7) (oi := ?oiz8) (v := ?vz8) ?haz8 (by kernel_rfl) ?hfz8 ?hrz8 ?hQz8 (Or.inl ⟨?hwz8, ?hyz8⟩) (by assumption) ?restz8
            case haz8 => (simp only [List.getElem?_toArray, List.getElem?_cons_succ, List.getElem?_cons_zero]; exact rfl)
            case hQz8 => exact fun _ _ _ h => h
            case hfz8 => kernel_rfl
            case hrz8 => kernel_rfl
            case hwz8 => rfl
            case hyz8 => (intro w hSw; (try dsimp only at hSw); have cr0 := hSw; go_simp; (try with_reducible rfl))
            try simp only [Act.put, List.setIfInBounds_toArray, List.set_cons_zero, List.set_cons_succ]
            refine' wpAnyH_take (i := 8) (oi := ?oiz9) (v := ?vz9) ?haz9 (by kernel_rfl) ?hfz9 ?hrz9 ?hQz9 (Or.inl ⟨?hwz9, ?hyz9⟩) (by assumption) ?restz9
            case haz9 => (simp only [List.getElem?_toArray, List.getElem?_cons_succ, List.getElem?_cons_zero]; exact rfl)
            case hQz9 => exact fun _ _ _ h => h
            case hfz9 => kernel_rfl
            case hrz9 => kernel_rfl
            case hwz9 => rfl
            case hyz9 => (intro w hSw; (try dsimp only at hSw); have cr0 := hSw; go_simp; (try with_reducible rfl))
            try simp only [Act.put, List.setIfInBounds_toArray, List.set_cons_zero, List.set_cons_succ]
            refine' wpAnyH_take (i := 9) (oi := ?oiz10) (v := ?vz10) ?haz10 (by kernel_rfl) ?hfz10 ?hrz10 ?hQz10 (Or.inl ⟨?hwz10, ?hyz10⟩) (by assumption) ?restz10
            case haz10 => (simp only [List.getElem?_toArray, List.getElem?_cons_succ, List.getElem?_cons_zero]; exact rfl)
            case hQz10 => exact fun _ _ _ h => h
            case hfz10 => kernel_rfl
            case hrz10 => kernel_rfl
            case hwz10 => rfl
            case hyz10 => (intro w hSw; (try dsimp only at hSw); have cr0 := hSw; go_simp; (try with_reducible rfl))
            try simp only [Act.put, List.setIfInBounds_toArray, List.set_cons_zero, List.set_cons_succ]
            refine' wpAnyH_take (i := 10) (oi := ?oiz11) (v := ?vz11) ?haz11 (by kernel_rfl) ?hfz11 ?hrz11 ?hQz11 (Or.inl ⟨?hwz11, ?hyz11⟩) (by assumption) ?restz11
            case haz11 => (simp only [List.getElem?_toArray, List.getElem?_cons_succ, List.getElem?_cons_zero]; exact rfl)
            case hQz11 => exact fun _ _ _ h => h
            case hfz11 => kernel_rfl
            case hrz11 => kernel_rfl
            case hwz11 => rfl
            case hyz11 => (intro w hSw; (try dsimp only at hSw); have cr0 := hSw; go_simp; (try with_reducible rfl))
            try simp only [Act.put, List.setIfInBounds_toArray, List.set_cons_zero, List.set_cons_succ]
            refine' wpAnyH_take (i := 11) (oi := ?oiz12) (v := ?vz12) ?haz12 (by kernel_rfl) ?hfz12 ?hrz12 ?hQz12 (Or.inl ⟨?hwz12, ?hyz12⟩) (by assumption) ?restz12
            case haz12 => (simp only [List.getElem?_toArray, List.getElem?_cons_succ, List.getElem?_cons_zero]; exact rfl)
            case hQz12 => exact fun _ _ _ h => h
            case hfz12 => kernel_rfl
            case hrz12 => kernel_rfl
            case hwz12 => rfl
            case hyz12 => (intro w hSw; (try dsimp only at hSw); have cr0 := hSw; go_simp; (try with_reducible rfl))
            try simp only [Act.put, List.setIfInBounds_toArray, List.set_cons_zero, List.set_cons_succ]
            refine wpAnyH_ready (rs := [12]) (by kernel_rfl) (by simp) ?_
            refine' AllReadyH.cons (o := ?oiz13) ?haz13 (fun K hK => ?stepz13) AllReadyH.nil
            case haz13 => (simp only [List.getElem?_toArray, List.getElem?_cons_succ, List.getElem?_cons_zero]; exact rfl)
            go_simp
            go_at_call 17
            refine (makepolyG_calls (a : Int) (vcut rr 0 q (vcap rr) 1) _ _ HIA.out HCUT.out HXA.out).mono ?_
            rintro e u1 ⟨pc, rfl, hpc, hb1⟩
            rw [HPL.out] at hpc ⊢
            have spc := hpc.isSl
            obtain ⟨y1, y2, y3, rfl, -⟩ := spc.cases
            have spc2 := hpc.isSl
            have HB1 := Lib.hid (Below.chain HDR.out hb1)
            have rn1 := HRND.out.below hb1
            have hpc1 : OwnGI u1 Wo.heap.size (.slice y1 y2 y3) (P k j).c := hpc.low HRND.out.size
            have HPC1 := Lib.hid hpc1; have HRN1 := Lib.hid rn1
            have xx0 := rn1.box.cell0; have xx1 := rn1.box.cell1; have xf0 := rn1.box.free0; have xf1 := rn1.box.free1
            clear hpc hb1 rn1 hpc1 spc
            refine hK.out _ _ (HCW.out _ HB1.out) (fun hHeld => ?_)
            clear hK K
            try simp only [Act.put, List.setIfInBounds_toArray, List.set_cons_zero, List.set_cons_succ]
            refine wpAnyH_ready (rs := [13]) (by kernel_rfl) (by simp) ?_
            refine' AllReadyH.cons (o := ?oiz14) ?haz14 (fun K hK => ?stepz14) AllReadyH.nil
            case haz14 => (simp only [List.getElem?_toArray, List.getElem?_cons_succ, List.getElem?_cons_zero]; exact rfl)
            go_simp
            skip
            refine hK.out _ _ (HCW.out _ ((HB1.out.setCell (p := ⟨Wi.heap.size, 0, none⟩) (by simp) _).setCell (p := ⟨Wi.heap.size, 1, none⟩) (by simp) _)) (fun hHeld => ?_)
            clear hK K
            try simp only [Act.put, List.setIfInBounds_toArray, List.set_cons_zero, List.set_cons_succ]
            refine wpAnyH_done (by kernel_rfl) ?_ _
            have rq := HRN1.out.put (q := P k j) HPC1.out
            generalize hW3 : (u1.setCell ⟨Wi.heap.size, 0, none⟩ (.int .i64 (P k j).low)).setCell ⟨Wi.heap.size, 1, none⟩ (.slice y1 y2 y3) = W3 at rq ⊢
            clear hW3 HRN1 HPC1 HRND HRN xx0 xx1 xf0 xf1 HCUT HCW HDR HB1
            have e0 := rq.box.cell0; have e1 := rq.box.cell1
            have hzq := rq.size
            have hlq : (pcs us (R.take j)).length ≤ 1000000 := by rw [pcs_length _ _ rq.trow.len]; have := HLRW.out; omega
            have HRQ := Lib.hid rq; have HLQ := Lib.hid hlq
            clear rq hlq
            by_cases hlt : j < k
            · have hjk : (j : Int) < (k : Int) := by omega
              have hne : ¬ (j : Int) = (k : Int) := by omega
              have spc3 := isSl_nil
              go_wp2_with (first
                | (refine wpList_poly1 rfl (.tmp 61) rfl rfl spc2 ?_)
                | (at_builtin; refine wpList_pushP (v := u14) rfl _ _ rfl rfl rfl HRQ.out.trow.own spc2 hzq HLQ.out ?_; intro r2 w2 ho2 hg2 hr2; have sr2 := ho2.1; have rq2 := HRQ.out.pushRow ho2 hg2 hr2; rw [HROW.out] at rq2; have HRQ2 := Lib.hid rq2; have hz2 := rq2.size; have d0 := rq2.box.cell0; have d1 := rq2.box.cell1; have df0 := rq2.box.free0; have df1 := rq2.box.free1; clear ho2 hg2 hr2 rq2 e0 e1; have rq3 := HRQ2.out.put (q := pzero) (qc := .slice none 0 0) (ownGI_nil _ _); have HRQ3 := Lib.hid rq3; have hz3 := rq3.size; have HLOW2 := Lib.hid (show L.take j ++ [pzero] = L.take (j + 1) from (by rw [← HLOW.out, lowM, if_pos hlt])); clear rq3; have HLQ2 := Lib.hid (show (pcs ls (L.take j)).length ≤ 1000000 from (by rw [pcs_length _ _ HRQ3.out.tlow.len]; have := HLLW.out; omega)))
                | (refine wpList_poly1 rfl (.tmp 69) rfl rfl spc3 ?_)
                | (at_builtin; go_loud (refine wpList_pushP (v := u15) rfl _ _ rfl rfl rfl HRQ3.out.tlow.own spc3 hz3 HLQ2.out ?_; intro r3 w3 ho3 hg3 hr3; have sr3 := ho3.1; have rq4 := HRQ3.out.pushLow ho3 hg3 hr3; rw [HLOW2.out] at rq4); have HRQ4 := Lib.hid rq4; clear ho3 hg3 hr3 rq4))
              have hdn : (if k < j + 1 then k + 1 else k) = (if k < j then k + 1 else k) := by by_cases h : k < j; rw [if_pos h, if_pos (by omega)]; rw [if_neg h, if_neg (by omega)]
              have HDN := Lib.hid hdn; clear hdn
              have haj : a + 1 = A0 + (j + 1) := by have := HAA.out; omega
              have HAJ := Lib.hid haj; clear haj
              go_roundw
              case rel => exact ⟨j + 1, _, _, _, by omega, by go_num, by rw [← HAJ.out]; go_num, HRQ4.out.trow, HRQ4.out.tlow, HRQ4.out.ap, by rw [HDN.out, HDD.out]; exact HRQ4.out.diag, by rw [HDN.out, HDD.out]; exact HRQ4.out.dcs, HRQ4.out.keep⟩
              case measure => simp [intOf]; omega
            · by_cases heq : j = k
              · have hjk : ¬ (j : Int) < (k : Int) := by omega
                have spc3 := spc2
                subst heq
                go_wp2_with (first
                  | (refine wpList_poly1 rfl (.tmp 61) rfl rfl spc2 ?_)
                  | (at_builtin; refine wpList_pushP (v := u14) rfl _ _ rfl rfl rfl HRQ.out.trow.own spc2 hzq HLQ.out ?_; intro r2 w2 ho2 hg2 hr2; have sr2 := ho2.1; have rq2 := HRQ.out.pushRow ho2 hg2 hr2; rw [HROW.out] at rq2; have HRQ2 := Lib.hid rq2; have hz2 := rq2.size; have d0 := rq2.box.cell0; have d1 := rq2.box.cell1; have df0 := rq2.box.free0; have df1 := rq2.box.free1; clear ho2 hg2 hr2 rq2 e0 e1; have HRQ3 := HRQ2; have hz3 := hz2; have HLOW2 := Lib.hid (show L.take j ++ [(P j j)] = L.take (j + 1) from (by rw [← HLOW.out, lowM, if_neg hlt])); have HLQ2 := Lib.hid (show (pcs ls (L.take j)).length ≤ 1000000 from (by rw [pcs_length _ _ HRQ3.out.tlow.len]; have := HLLW.out; omega)))
                  | (refine wpList_poly1 rfl (.tmp 69) rfl rfl spc3 ?_)
                  | (at_builtin; go_loud (refine wpList_pushP (v := u15) rfl _ _ rfl rfl rfl HRQ3.out.tlow.own spc3 hz3 HLQ2.out ?_; intro r3 w3 ho3 hg3 hr3; have sr3 := ho3.1; have rq4 := HRQ3.out.pushLow ho3 hg3 hr3; rw [HLOW2.out] at rq4); have HRQ4 := Lib.hid rq4; clear ho3 hg3 hr3 rq4; clear d0 d1 df0 df1; have dd0 := HRQ4.out.diag.cell0; have dd1 := HRQ4.out.diag.cell1; have x0 := HRQ4.out.box.cell0; have x1 := HRQ4.out.box.cell1))
                have hdd : dD = diagP P j := by rw [← HDD.out, if_neg (by omega)]
                have hok1 : POk dD := by rw [hdd]; exact diag_bnd j (by omega) fun i _ => HEB.out i i
                have hnx : pmul dD (P j j) = diagP P (j + 1) := by rw [hdd]; rfl
                have hok2 : POk (pmul dD (P j j)) := by rw [hnx]; exact diag_bnd (j + 1) (by omega) fun i _ => HEB.out i i
                refine (mulK_calls dD (P j j) dj (.slice y1 y2 y3) _ HRQ4.out.dcs.ints HRQ4.out.pcs.ints hok1 HEBP.out.elem.ok hok2).mono ?_
                rintro e u5 ⟨qc, rfl, hqc, hb5⟩
                have sqc := hqc.isSl
                obtain ⟨g1, g2, g3, rfl, -⟩ := sqc.cases
                have rq5 := HRQ4.out.below hb5
                have rq6 := rq5.mul (q := pmul dD (P j j)) (OwnGI.low (OwnI.g hqc) (show w.heap.size ≤ w3.heap.size by have := HRQ4.out.size; have := HRQ4.out.hD; omega))
                have ff0 := rq5.diag.cell0; have ff1 := rq5.diag.cell1; have fg0 := rq5.diag.free0; have fg1 := rq5.diag.free1
                have HRQ6 := Lib.hid rq6; have HNXD := Lib.hid hnx
                clear hdd hok1 hok2 hnx hqc hb5 rq5 rq6 HRQ4 sqc dd0 dd1 x0 x1
                go_wp2_with fail
                have haj : a + 1 = A0 + (j + 1) := by have := HAA.out; omega
                have HAJ := Lib.hid haj; clear haj
                go_roundw
                case rel => exact ⟨j + 1, _, _, _, by omega, by go_num, by rw [← HAJ.out]; go_num, HRQ6.out.trow, HRQ6.out.tlow, HRQ6.out.ap, by rw [if_pos (by omega), ← HNXD.out]; exact HRQ6.out.diag, by rw [if_pos (by omega), ← HNXD.out]; exact HRQ6.out.dcs, HRQ6.out.keep⟩
                case measure => simp [intOf]; omega
              · have hjk : ¬ (j : Int) < (k : Int) := by omega
                have spc3 := spc2
                have hne : ¬ (j : Int) = (k : Int) := by omega
                go_wp2_with (first
                  | (refine wpList_poly1 rfl (.tmp 61) rfl rfl spc2 ?_)
                  | (at_builtin; refine wpList_pushP (v := u14) rfl _ _ rfl rfl rfl HRQ.out.trow.own spc2 hzq HLQ.out ?_; intro r2 w2 ho2 hg2 hr2; have sr2 := ho2.1; have rq2 := HRQ.out.pushRow ho2 hg2 hr2; rw [HROW.out] at rq2; have HRQ2 := Lib.hid rq2; have hz2 := rq2.size; have d0 := rq2.box.cell0; have d1 := rq2.box.cell1; have df0 := rq2.box.free0; have df1 := rq2.box.free1; clear ho2 hg2 hr2 rq2 e0 e1; have HRQ3 := HRQ2; have hz3 := hz2; have HLOW2 := Lib.hid (show L.take j ++ [(P k j)] = L.take (j + 1) from (by rw [← HLOW.out, lowM, if_neg hlt])); have HLQ2 := Lib.hid (show (pcs ls (L.take j)).length ≤ 1000000 from (by rw [pcs_length _ _ HRQ3.out.tlow.len]; have := HLLW.out; omega)))
                  | (refine wpList_poly1 rfl (.tmp 69) rfl rfl spc3 ?_)
                  | (at_builtin; go_loud (refine wpList_pushP (v := u15) rfl _ _ rfl rfl rfl HRQ3.out.tlow.own spc3 hz3 HLQ2.out ?_; intro r3 w3 ho3 hg3 hr3; have sr3 := ho3.1; have rq4 := HRQ3.out.pushLow ho3 hg3 hr3; rw [HLOW2.out] at rq4); have HRQ4 := Lib.hid rq4; clear ho3 hg3 hr3 rq4))
                have hdn : (if k < j + 1 then k + 1 else k) = (if k < j then k + 1 else k) := by by_cases h : k < j; rw [if_pos h, if_pos (by omega)]; rw [if_neg h, if_neg (by omega)]
                have HDN := Lib.hid hdn; clear hdn
                have haj : a + 1 = A0 + (j + 1) := by have := HAA.out; omega
                have HAJ := Lib.hid haj; clear haj
                go_roundw
                case rel => exact ⟨j + 1, _, _, _, by omega, by go_num, by rw [← HAJ.out]; go_num, HRQ4.out.trow, HRQ4.out.tlow, HRQ4.out.ap, by rw [HDN.out, HDD.out]; exact HRQ4.out.diag, by rw [HDN.out, HDD.out]; exact HRQ4.out.dcs, HRQ4.out.keep⟩
                case measure => simp [intOf]; omega
          · have hai : ¬ (a : Int) < (LR : Int) := by omega
            have hpz : P k j = pzero := by rw [HPA.out, pAt, if_neg (by rw [HLR.out]; exact hat)]
            have rq := HRN.out
            have spc2 := isSl_nil
            rw [hpz] at HROW HEBP
            have hzq := rq.size
            have hlq : (pcs us (R.take j)).length ≤ 1000000 := by rw [pcs_length _ _ rq.trow.len]; have := HLRW.out; omega
            have HRQ := Lib.hid rq; have HLQ := Lib.hid hlq
            clear rq hlq
            by_cases hlt : j < k
            · have hjk : (j : Int) < (k : Int) := by omega
              have hne : ¬ (j : Int) = (k : Int) := by omega
              have spc3 := isSl_nil
              go_wp2_with (first
                | (refine wpList_poly1 rfl (.tmp 61) rfl rfl spc2 ?_)
                | (at_builtin; refine wpList_pushP (v := u14) rfl _ _ rfl rfl rfl HRQ.out.trow.own spc2 hzq HLQ.out ?_; intro r2 w2 ho2 hg2 hr2; have sr2 := ho2.1; have rq2 := HRQ.out.pushRow ho2 hg2 hr2; rw [HROW.out] at rq2; have HRQ2 := Lib.hid rq2; have hz2 := rq2.size; have d0 := rq2.box.cell0; have d1 := rq2.box.cell1; have df0 := rq2.box.free0; have df1 := rq2.box.free1; clear ho2 hg2 hr2 rq2; have rq3 := HRQ2.out.put (q := pzero) (qc := .slice none 0 0) (ownGI_nil _ _); have HRQ3 := Lib.hid rq3; have hz3 := rq3.size; have HLOW2 := Lib.hid (show L.take j ++ [pzero] = L.take (j + 1) from (by rw [← HLOW.out, lowM, if_pos hlt])); clear rq3; have HLQ2 := Lib.hid (show (pcs ls (L.take j)).length ≤ 1000000 from (by rw [pcs_length _ _ HRQ3.out.tlow.len]; have := HLLW.out; omega)))
                | (refine wpList_poly1 rfl (.tmp 69) rfl rfl spc3 ?_)
                | (at_builtin; go_loud (refine wpList_pushP (v := u15) rfl _ _ rfl rfl rfl HRQ3.out.tlow.own spc3 hz3 HLQ2.out ?_; intro r3 w3 ho3 hg3 hr3; have sr3 := ho3.1; have rq4 := HRQ3.out.pushLow ho3 hg3 hr3; rw [HLOW2.out] at rq4); have HRQ4 := Lib.hid rq4; clear ho3 hg3 hr3 rq4))
              have hdn : (if k < j + 1 then k + 1 else k) = (if k < j then k + 1 else k) := by by_cases h : k < j; rw [if_pos h, if_pos (by omega)]; rw [if_neg h, if_neg (by omega)]
              have HDN := Lib.hid hdn; clear hdn
              have haj : a + 1 = A0 + (j + 1) := by have := HAA.out; omega
              have HAJ := Lib.hid haj; clear haj
              go_roundw
              case rel => exact ⟨j + 1, _, _, _, by omega, by go_num, by rw [← HAJ.out]; go_num, HRQ4.out.trow, HRQ4.out.tlow, HRQ4.out.ap, by rw [HDN.out, HDD.out]; exact HRQ4.out.diag, by rw [HDN.out, HDD.out]; exact HRQ4.out.dcs, HRQ4.out.keep⟩
              case measure => simp [intOf]; omega
            · by_cases heq : j = k
              · have hjk : ¬ (j : Int) < (k : Int) := by omega
                have spc3 := spc2
                subst heq
                go_wp2_with (first
                  | (refine wpList_poly1 rfl (.tmp 61) rfl rfl spc2 ?_)
                  | (at_builtin; refine wpList_pushP (v := u14) rfl _ _ rfl rfl rfl HRQ.out.trow.own spc2 hzq HLQ.out ?_; intro r2 w2 ho2 hg2 hr2; have sr2 := ho2.1; have rq2 := HRQ.out.pushRow ho2 hg2 hr2; rw [HROW.out] at rq2; have HRQ2 := Lib.hid rq2; have hz2 := rq2.size; have d0 := rq2.box.cell0; have d1 := rq2.box.cell1; have df0 := rq2.box.free0; have df1 := rq2.box.free1; clear ho2 hg2 hr2 rq2; have HRQ3 := HRQ2; have hz3 := hz2; have HLOW2 := Lib.hid (show L.take j ++ [pzero] = L.take (j + 1) from (by rw [← HLOW.out, lowM, if_neg hlt]; rw [hpz])); have HLQ2 := Lib.hid (show (pcs ls (L.take j)).length ≤ 1000000 from (by rw [pcs_length _ _ HRQ3.out.tlow.len]; have := HLLW.out; omega)))
                  | (refine wpList_poly1 rfl (.tmp 69) rfl rfl spc3 ?_)
                  | (at_builtin; go_loud (refine wpList_pushP (v := u15) rfl _ _ rfl rfl rfl HRQ3.out.tlow.own spc3 hz3 HLQ2.out ?_; intro r3 w3 ho3 hg3 hr3; have sr3 := ho3.1; have rq4 := HRQ3.out.pushLow ho3 hg3 hr3; rw [HLOW2.out] at rq4); have HRQ4 := Lib.hid rq4; clear ho3 hg3 hr3 rq4; clear d0 d1 df0 df1; have dd0 := HRQ4.out.diag.cell0; have dd1 := HRQ4.out.diag.cell1; have x0 := HRQ4.out.box.cell0; have x1 := HRQ4.out.box.cell1))
                have hdd : dD = diagP P j := by rw [← HDD.out, if_neg (by omega)]
                have hok1 : POk dD := by rw [hdd]; exact diag_bnd j (by omega) fun i _ => HEB.out i i
                have hnx : pmul dD pzero = diagP P (j + 1) := by rw [hdd]; rw [← hpz]; rfl
                have hok2 : POk (pmul dD pzero) := by rw [hnx]; exact diag_bnd (j + 1) (by omega) fun i _ => HEB.out i i
                refine (mulK_calls dD pzero dj (.slice none 0 0) _ HRQ4.out.dcs.ints HRQ4.out.pcs.ints hok1 HEBP.out.elem.ok hok2).mono ?_
                rintro e u5 ⟨qc, rfl, hqc, hb5⟩
                have sqc := hqc.isSl
                obtain ⟨g1, g2, g3, rfl, -⟩ := sqc.cases
                have rq5 := HRQ4.out.below hb5
                have rq6 := rq5.mul (q := pmul dD pzero) (OwnGI.low (OwnI.g hqc) (show w.heap.size ≤ w3.heap.size by have := HRQ4.out.size; have := HRQ4.out.hD; omega))
                have ff0 := rq5.diag.cell0; have ff1 := rq5.diag.cell1; have fg0 := rq5.diag.free0; have fg1 := rq5.diag.free1
                have HRQ6 := Lib.hid rq6; have HNXD := Lib.hid hnx
                clear hdd hok1 hok2 hnx hqc hb5 rq5 rq6 HRQ4 sqc dd0 dd1 x0 x1
                go_wp2_with fail
                have haj : a + 1 = A0 + (j + 1) := by have := HAA.out; omega
                have HAJ := Lib.hid haj; clear haj
                go_roundw
                case rel => exact ⟨j + 1, _, _, _, by omega, by go_num, by rw [← HAJ.out]; go_num, HRQ6.out.trow, HRQ6.out.tlow, HRQ6.out.ap, by rw [if_pos (by omega), ← HNXD.out]; exact HRQ6.out.diag, by rw [if_pos (by omega), ← HNXD.out]; exact HRQ6.out.dcs, HRQ6.out.keep⟩
                case measure => simp [intOf]; omega
              · have hjk : ¬ (j : Int) < (k : Int) := by omega
                have spc3 := spc2
                have hne : ¬ (j : Int) = (k : Int) := by omega
                go_wp2_with (first
                  | (refine wpList_poly1 rfl (.tmp 61) rfl rfl spc2 ?_)
                  | (at_builtin; refine wpList_pushP (v := u14) rfl _ _ rfl rfl rfl HRQ.out.trow.own spc2 hzq HLQ.out ?_; intro r2 w2 ho2 hg2 hr2; have sr2 := ho2.1; have rq2 := HRQ.out.pushRow ho2 hg2 hr2; rw [HROW.out] at rq2; have HRQ2 := Lib.hid rq2; have hz2 := rq2.size; have d0 := rq2.box.cell0; have d1 := rq2.box.cell1; have df0 := rq2.box.free0; have df1 := rq2.box.free1; clear ho2 hg2 hr2 rq2; have HRQ3 := HRQ2; have hz3 := hz2; have HLOW2 := Lib.hid (show L.take j ++ [pzero] = L.take (j + 1) from (by rw [← HLOW.out, lowM, if_neg hlt]; rw [hpz])); have HLQ2 := Lib.hid (show (pcs ls (L.take j)).length ≤ 1000000 from (by rw [pcs_length _ _ HRQ3.out.tlow.len]; have := HLLW.out; omega)))
                  | (refine wpList_poly1 rfl (.tmp 69) rfl rfl spc3 ?_)
                  | (at_builtin; go_loud (refine wpList_pushP (v := u15) rfl _ _ rfl rfl rfl HRQ3.out.tlow.own spc3 hz3 HLQ2.out ?_; intro r3 w3 ho3 hg3 hr3; have sr3 := ho3.1; have rq4 := HRQ3.out.pushLow ho3 hg3 hr3; rw [HLOW2.out] at rq4); have HRQ4 := Lib.hid rq4; clear ho3 hg3 hr3 rq4))
                have hdn : (if k < j + 1 then k + 1 else k) = (if k < j then k + 1 else k) := by by_cases h : k < j; rw [if_pos h, if_pos (by omega)]; rw [if_neg h, if_neg (by omega)]
                have HDN := Lib.hid hdn; clear hdn
                have haj : a + 1 = A0 + (j + 1) := by have := HAA.out; omega
                have HAJ := Lib.hid haj; clear haj
                go_roundw
                case rel => exact ⟨j + 1, _, _, _, by omega, by go_num, by rw [← HAJ.out]; go_num, HRQ4.out.trow, HRQ4.out.tlow, HRQ4.out.ap, by rw [HDN.out, HDD.out]; exact HRQ4.out.diag, by rw [HDN.out, HDD.out]; exact HRQ4.out.dcs, HRQ4.out.keep⟩
                case measure => simp [intOf]; omega
        · obtain rfl : j = N := by omega
          rw [if_pos hkn] at hdp hdj
          have hzi : Wo.heap.size ≤ Wi.heap.size := hkp.size
          have tm := HTM.out.but (show w.heap.size + 1 < w.heap.size + 2 by omega) hkp
          have tt := HTT.out.but (show w.heap.size + 1 < w.heap.size + 2 by omega) hkp
          rw [List.take_of_length_le (by rw [← HR.out, rowOf_length]; exact Nat.le_refl _)] at trw
          rw [List.take_of_length_le (by rw [← HL.out, rowOf_length]; exact Nat.le_refl _)] at tlw
          have trw2 := trw.low hzo
          have tlw2 := tlw.low hzo
          have hbi : Below w.heap.size w Wi := HBO.out.grown hkp HBO.out.size (fun b hb => by injection hb with hb; omega)
          have hlm : ms.length ≤ 3 := by rw [tm.len]; simp [matM]; omega
          have hlt : ts.length ≤ 3 := by rw [tt.len]; simp [matM]; omega
          have HM1 := Lib.hid tm; have HT1 := Lib.hid tt; have HRW := Lib.hid trw2; have HLW := Lib.hid tlw2; have HBI := Lib.hid hbi; have HDP1 := Lib.hid hdp; have HDJ1 := Lib.hid hdj; have HLM := Lib.hid hlm; have HLT := Lib.hid hlt
          have hzz : w.heap.size + 2 ≤ Wi.heap.size := by omega
          clear tm tt trw tlw trw2 tlw2 hbi hdp hdj hkp rap hlm hlt
          go_wp2_with (first
            | (refine wpList_prows1 rfl (.tmp 80) rfl rfl sr14 ?_)
            | (at_builtin; refine wpList_pushPRow (v := u9) rfl _ _ rfl rfl rfl HM1.out.own sr14 hzz (Nat.le_trans HLM.out (by omega)) ?_; intro m2 w2 hm2 hg2 hr2; have sm2 := hm2.1; have HM2 := Lib.hid hm2; have HG2 := Lib.hid hg2; have HR2 := Lib.hid hr2; have hz2 : w.heap.size + 2 ≤ w2.heap.size := Nat.le_trans hzz hg2.size; clear hm2 hg2 hr2)
            | (refine wpList_prows1 rfl (.tmp 84) rfl rfl sr15 ?_)
            | (at_builtin; refine wpList_pushPRow (v := u10) rfl _ _ rfl rfl rfl (HT1.out.grownR HM1.out.own (fun b h1 h2 => HTAP.out b h2 h1) HG2.out).own sr15 hz2 (Nat.le_trans HLT.out (by omega)) ?_; intro m3 w3 hm3 hg3 hr3; have sm3 := hm3.1; have HM3 := Lib.hid hm3; have HG3 := Lib.hid hg3; have HR3 := Lib.hid hr3; clear hm3 hg3 hr3))
          have tA := HM1.out.push HRW.out HM2.out HG2.out
          have tB := HT1.out.grownR HM1.out.own (fun b h1 h2 => HTAP.out b h2 h1) HG2.out
          have apAB : ∀ b, Go.Sl.row m2 = some b → Go.Sl.row u10 ≠ some b := fun b h1 h2 => by
            rcases HR2.out b h1 with h3 | h3
            · exact HTAP.out b h3 h2
            · have := (HT1.out.own.lt b h2).2; omega
          have tA2 := tA.grownR tB.own apAB HG3.out
          have tB2 := tB.push (HLW.out.grownR HM1.out.own HG2.out) HM3.out HG3.out
          have apF : ∀ b, Go.Sl.row m2 = some b → Go.Sl.row m3 ≠ some b := fun b h1 h2 => by
            rcases HR3.out b h2 with h3 | h3
            · exact apAB b h1 h3
            · have := (tA.own.lt b h1).2; omega
          have dP2 := (HDP1.out.keepGrown HG2.out fun b hb e => by have := (HM1.out.own.lt b hb).1; omega).keepGrown HG3.out fun b hb e => by have := (tB.own.lt b hb).1; omega
          have dC2 := ((HDJ1.out.grown HG2.out (apart_GI rows_ne_int HDJ1.out HM1.out.own)).grown HG3.out (apart_GI rows_ne_int (HDJ1.out.grown HG2.out (apart_GI rows_ne_int HDJ1.out HM1.out.own)) tB.own))
          have bF : Below w.heap.size w w3 := (HBI.out.grown HG2.out HBI.out.size (fun b hb => by have := (HM1.out.own.lt b hb).1; omega)).grown HG3.out (Nat.le_trans HBI.out.size HG2.out.size) (fun b hb => by have := (tB.own.lt b hb).1; omega)
          have zF : w.heap.size + 2 ≤ w3.heap.size := Nat.le_trans hz2 HG3.out.size
          have e1 := matM_take (P := P) (n := j) hkn
          have e2 := matM_take (P := lowM P) (n := j) hkn
          rw [HR.out] at e1
          rw [HL.out] at e2
          rw [e1] at tA2
          rw [e2] at tB2
          have hat : A0 + j = (k + 1) * j := by rw [Nat.add_mul, Nat.one_mul, HA0.out]
          have HAT := Lib.hid hat
          have HF1 := Lib.hid tA2; have HF2 := Lib.hid tB2; have HF3 := Lib.hid apF; have HF4 := Lib.hid dP2; have HF5 := Lib.hid dC2; have HF6 := Lib.hid bF
          clear hat tA tB apAB tA2 tB2 apF dP2 dC2 bF e1 e2 HM1 HT1 HRW HLW HBI HDP1 HDJ1 HM2 HG2 HR2 HM3 HG3 HR3
          go_roundw
          case rel => exact ⟨k + 1, _, _, _, by omega, by go_num, by rw [← HAT.out, ha], HF1.out, HF2.out, HF3.out, HF4.out, HF5.out, HF6.out, zF⟩
          case measure => simp [intOf]; omega
    · obtain rfl : k = N := by omega
      rw [List.take_of_length_le (by simp [matM])] at tm tt
      have mr := tm.read
      have mt := tt.read
      have hlm : ms.length = k := by rw [tm.len]; simp [matM]
      have lu9 : vlen u9 = k := by have := mr.vlen; simpa [matM] using this
      obtain ⟨x, hx⟩ : ∃ x : Nat, i0 % (k : Int) = (x : Int) := ⟨(i0 % (k : Int)).toNat, by rw [Int.toNat_of_nonneg (Int.emod_nonneg _ (by omega))]⟩
      have hxk : x < k := by have := Int.emod_lt_of_pos i0 (show (0 : Int) < k by omega); omega
      obtain ⟨kk, hkk⟩ : ∃ kk : Nat, (k : Int) - 1 = (kk : Int) := ⟨k - 1, by omega⟩
      have hkk1 : 1 ≤ kk := by omega
      have hkk2 : kk ≤ 2 := by omega
      obtain ⟨z, hz⟩ : ∃ z : Nat, k0 % (kk : Int) = (z : Int) := ⟨(k0 % (kk : Int)).toNat, by rw [Int.toNat_of_nonneg (Int.emod_nonneg _ (by omega))]⟩
      have hzk : z < kk := by have := Int.emod_lt_of_pos k0 (show (0 : Int) < kk by omega); omega
      obtain ⟨y, hy⟩ : ∃ y : Nat, y = (x + 1 + z) % k := ⟨_, rfl⟩
      have hyk : y < k := by rw [hy]; exact Nat.mod_lt _ (by omega)
      have hxy : x ≠ y := by
        rw [hy]
        intro e
        rcases Nat.lt_or_ge (x + 1 + z) k with h | h
        · rw [Nat.mod_eq_of_lt h] at e; omega
        · rw [Nat.mod_eq_sub_mod h, Nat.mod_eq_of_lt (by omega)] at e; omega
      have hyi : ((x : Int) + 1 + (z : Int)).tmod (k : Int) = (y : Int) := by
        rw [hy, Int.tmod_eq_emod_of_nonneg (by omega), Int.natCast_emod, show ((x + 1 + z : Nat) : Int) = (x : Int) + 1 + (z : Int) by omega]
      have HXI := Lib.hid hx; have HZI := Lib.hid hz; have HY := Lib.hid hy
      have HTM := Lib.hid tm; have HMR := Lib.hid mr; have HMT := Lib.hid mt; have HBO := Lib.hid hbo; have HDP := Lib.hid hdp; have HDC := Lib.hid hdc.ints; have HLM := Lib.hid hlm; have HXY := Lib.hid hxy; have HTTI := Lib.hid tt.isSl
      have hmsl : ∀ u ∈ ms, IsSl u := fun u hu => by
        obtain ⟨i, hi, rfl⟩ := List.mem_iff_getElem.1 hu
        obtain ⟨us, h⟩ := mr.row i (by simpa [matM, hlm] using hi)
        rw [nthv_lt hi] at h
        exact h.isSl
      have HMSL := Lib.hid hmsl
      clear hx hz hy tm mr mt hbo hdp hdc hlm hxy hmsl tt tap hA0
      go_wp2_with fail
      refine (below_nat i0 (k : Int) x _ (by omega) (by omega) hi0 HXI.out).mono ?_
      rintro e w' ⟨rfl, rfl⟩
      go_wp2_with fail
      refine (below_nat k0 (kk : Int) z _ (by omega) (by omega) hk0 HZI.out).mono ?_
      rintro e w' ⟨rfl, rfl⟩
      go_wp2_with fail
      refine (clonePRows_calls u9 ms _ HMR.out.sl HMSL.out (by rw [HLM.out]; omega) (by rw [HLM.out]; omega)).mono ?_
      rintro e w1 ⟨u, rfl, hu, hb1⟩
      have su := hu.1
      have lu : vlen u = k := by have := hu.2.1; rw [HLM.out] at this; omega
      have HW1 := Lib.hid hu; have HB1 := Lib.hid hb1
      have cx := (HMR.out.below hb1).cell (i := x) (by simpa [matM] using hxk)
      have cy := (HMR.out.below hb1).cell (i := y) (by simpa [matM] using hyk)
      have ux := hu.cell (j := x) (by rw [HLM.out]; exact hxk)
      have uy := hu.cell (j := y) (by rw [HLM.out]; exact hyk)
      have fx := hu.frozen (j := x) (by rw [HLM.out]; exact hxk)
      have fy := hu.frozen (j := y) (by rw [HLM.out]; exact hyk)
      have sx : IsSl (nthv ms x) := HMSL.out _ (by rw [nthv_lt (by rw [HLM.out]; exact hxk)]; exact List.getElem_mem _)
      have sy : IsSl (nthv ms y) := HMSL.out _ (by rw [nthv_lt (by rw [HLM.out]; exact hyk)]; exact List.getElem_mem _)
      obtain ⟨qx, hqx⟩ : ∃ q, nthv ms x = q := ⟨_, rfl⟩
      obtain ⟨qy, hqy⟩ : ∃ q, nthv ms y = q := ⟨_, rfl⟩
      rw [hqx] at cx sx
      rw [hqy] at cy sy
      have hlk : (x : Int) < (k : Int) := by omega
      have hlk2 : (y : Int) < (k : Int) := by omega
      have hs1 := hu.set (j := x) (by rw [HLM.out]; exact hxk) (nthv ms y)
      rw [hqy] at hs1
      have uy2 := hs1.cell (j := y) (by rw [List.length_set, HLM.out]; exact hyk)
      have fy2 := hs1.frozen (j := y) (by rw [List.length_set, HLM.out]; exact hyk)
      have hset := (hu.set (j := x) (by rw [HLM.out]; exact hxk) (nthv ms y)).set (j := y) (by rw [List.length_set, HLM.out]; exact hyk) (nthv ms x)
      rw [hqx, hqy] at hset
      have HSET := Lib.hid hset; have HQX := Lib.hid hqx; have HQY := Lib.hid hqy
      clear hset hs1 hqx hqy hu hb1
      go_wp2_with fail
      go_region
      have b4 : Below Wo.heap.size Wo (((w1.setCell (vat u x) qy).setCell (vat u y) qx).drew) := ((HB1.out.setCell (p := vat u x) (by exact HW1.out.ge (by rw [HLM.out]; exact hxk)) _).setCell (p := vat u y) (by exact HW1.out.ge (by rw [HLM.out]; exact hyk)) _).drew
      have o4 := HSET.out.below (Below.refl _ _).drew
      generalize hW4 : ((w1.setCell (vat u x) qy).setCell (vat u y) qx).drew = W4 at b4 o4 ⊢
      rw [← HQX.out, ← HQY.out] at o4
      have HD1 := Lib.hid (HMR.out.below b4)
      have HD2 := Lib.hid (swap_read (HMR.out.below b4) hxk hyk o4)
      have HD3 := Lib.hid (HMT.out.below b4)
      have HPD := Lib.hid (HDP.out.below b4)
      have HCD := Lib.hid (HDC.out.below b4)
      have HB4 := Lib.hid (HBO.out.trans (b4.mono HBO.out.size))
      clear hW4 b4 o4 cx cy ux uy fx fy uy2 fy2 HMR HMT HDP HDC HBO HSET HB1 HW1 sx sy HQX HQY
      have su2 := su
      obtain ⟨E1, hE1⟩ : ∃ E, expandL k (matM k P) = E := ⟨_, rfl⟩
      obtain ⟨E2, hE2⟩ : ∃ E, expandL k (matM k (swapM x y P)) = E := ⟨_, rfl⟩
      obtain ⟨E3, hE3⟩ : ∃ E, diagP P k = E := ⟨_, rfl⟩
      have s1 := expand_bnd k (matM k P) hN3 (sqM_matM _ _) (matM_eb HEB.out)
      have s2 := expand_bnd k (matM k (swapM x y P)) hN3 (sqM_matM _ _) (matM_eb (swapM_eb HEB.out x y))
      have s3 := expand_bnd k (matM k (lowM P)) hN3 (sqM_matM _ _) (matM_eb (lowM_eb HEB.out))
      have k1 := expand_ok hN3 (sqM_matM k P) (matM_eb HEB.out)
      have k2 := expand_ok hN3 (sqM_matM k (swapM x y P)) (matM_eb (swapM_eb HEB.out x y))
      have k3 := expand_ok hN3 (sqM_matM k (lowM P)) (matM_eb (lowM_eb HEB.out))
      have C1 := Lib.hid (fun W (h : MRead W u9 ms (matM k P)) => pdet_calls k u9 ms (matM k P) W h (sqM_matM _ _) (by omega) (fun i j hi hj => (matM_eb HEB.out i j hi hj).elem) s1.1 k1)
      have C2 := Lib.hid (fun W vs (h : MRead W u vs (matM k (swapM x y P))) => pdet_calls k u vs (matM k (swapM x y P)) W h (sqM_matM _ _) (by omega) (fun i j hi hj => (matM_eb (swapM_eb HEB.out x y) i j hi hj).elem) s2.1 k2)
      have C3 := Lib.hid (fun W (h : MRead W u10 ts (matM k (lowM P))) => pdet_calls k u10 ts (matM k (lowM P)) W h (sqM_matM _ _) (by omega) (fun i j hi hj => (matM_eb (lowM_eb HEB.out) i j hi hj).elem) s3.1 k3)
      have C4 := Lib.hid (fun W (h : MRead W u9 ms (matM k P)) => pmcheck_calls k u9 ms (matM k P) W h (sqM_matM _ _) (by omega) (fun i j hi hj => (matM_eb HEB.out i j hi hj).elem))
      have hsum := swap_law hxk hyk HXY.out P
      rw [tri_law, hE3] at C3
      rw [hE1] at C1 k1 hsum
      rw [hE2] at C2 k2 hsum
      rw [hE3] at HPD HCD
      have t1 : Trimmed E1 := by rw [← hE1]; exact expandL_trimmed _ _
      have t2 : Trimmed E2 := by rw [← hE2]; exact expandL_trimmed _ _
      have hlen := sum_zero_len t1 t2 hsum
      have K1 := Lib.hid k1; have K2 := Lib.hid k2; have HSUM := Lib.hid hsum; have HLEN := Lib.hid hlen
      have K12 := Lib.hid (show POk (padd E1 E2 1) by rw [hsum]; exact EB.zero.elem.ok)
      clear s1 s2 s3 k1 k2 k3 hsum hlen t1 t2 hE1 hE2 hE3 HEB HP HRV HX0 HLR
      go_wp2_with fail
      refine (C1.out _ HD1.out).mono ?_
      rintro e v1 ⟨d1, rfl, hd1, hb1⟩
      have sd1 := hd1.isSl
      have Q1 := Lib.hid (pair_new v1 27 (.int .i64 E1.low) d1)
      have hb2 := hb1.alloc (Nat.le_trans (Nat.le_refl _) hb1.size) (.cells #[.int .i64 E1.low, d1] 27)
      have I1 := Lib.hid (hd1.ints.alloc (.cells #[.int .i64 E1.low, d1] 27))
      replace HD1 := Lib.hid (HD1.out.below hb2); replace HD2 := Lib.hid (HD2.out.below hb2); replace HD3 := Lib.hid (HD3.out.below hb2); replace HPD := Lib.hid (HPD.out.below hb2); replace HCD := Lib.hid (HCD.out.below hb2)
      replace HB4 := Lib.hid (Below.chain HB4.out hb2)
      clear hd1 hb1 hb2
      go_wp2_with fail
      refine (C2.out _ _ HD2.out).mono ?_
      rintro e v2 ⟨d2, rfl, hd2, hb1⟩
      have sd2 := hd2.isSl
      have Q2 := Lib.hid (pair_new v2 27 (.int .i64 E2.low) d2)
      have hb2 := hb1.alloc (Nat.le_trans (Nat.le_refl _) hb1.size) (.cells #[.int .i64 E2.low, d2] 27)
      have I2 := Lib.hid (hd2.ints.alloc (.cells #[.int .i64 E2.low, d2] 27))
      replace Q1 := Lib.hid (Q1.out.below hb2); replace I1 := Lib.hid (I1.out.below hb2)
      replace HD1 := Lib.hid (HD1.out.below hb2); replace HD3 := Lib.hid (HD3.out.below hb2); replace HPD := Lib.hid (HPD.out.below hb2); replace HCD := Lib.hid (HCD.out.below hb2)
      replace HB4 := Lib.hid (Below.chain HB4.out hb2)
      clear hd2 hb1 hb2
      go_wp2_with fail
      refine (C3.out _ HD3.out).mono ?_
      rintro e v3 ⟨d3, rfl, hd3, hb1⟩
      have sd3 := hd3.isSl
      have Q3 := Lib.hid (pair_new v3 27 (.int .i64 E3.low) d3)
      have hb2 := hb1.alloc (Nat.le_trans (Nat.le_refl _) hb1.size) (.cells #[.int .i64 E3.low, d3] 27)
      have I3 := Lib.hid (hd3.ints.alloc (.cells #[.int .i64 E3.low, d3] 27))
      replace Q1 := Lib.hid (Q1.out.below hb2); replace I1 := Lib.hid (I1.out.below hb2)
      replace Q2 := Lib.hid (Q2.out.below hb2); replace I2 := Lib.hid (I2.out.below hb2)
      replace HD1 := Lib.hid (HD1.out.below hb2); replace HPD := Lib.hid (HPD.out.below hb2); replace HCD := Lib.hid (HCD.out.below hb2)
      replace HB4 := Lib.hid (Below.chain HB4.out hb2)
      clear hd3 hb1 hb2
      go_wp2_with fail
      refine (multiplied_calls _).mono ?_
      rintro e v4 ⟨rfl, hb2⟩
      replace Q1 := Lib.hid (Q1.out.below hb2); replace I1 := Lib.hid (I1.out.below hb2)
      replace Q2 := Lib.hid (Q2.out.below hb2); replace I2 := Lib.hid (I2.out.below hb2)
      replace Q3 := Lib.hid (Q3.out.below hb2); replace I3 := Lib.hid (I3.out.below hb2)
      replace HD1 := Lib.hid (HD1.out.below hb2); replace HPD := Lib.hid (HPD.out.below hb2); replace HCD := Lib.hid (HCD.out.below hb2)
      replace HB4 := Lib.hid (Below.chain HB4.out hb2)
      clear hb2
      go_wp2_with fail
      refine (C4.out _ HD1.out).mono ?_
      rintro e v5 ⟨rfl, hb2⟩
      replace Q1 := Lib.hid (Q1.out.below hb2); replace I1 := Lib.hid (I1.out.below hb2)
      replace Q2 := Lib.hid (Q2.out.below hb2); replace I2 := Lib.hid (I2.out.below hb2)
      replace Q3 := Lib.hid (Q3.out.below hb2); replace I3 := Lib.hid (I3.out.below hb2)
      replace HPD := Lib.hid (HPD.out.below hb2); replace HCD := Lib.hid (HCD.out.below hb2)
      replace HB4 := Lib.hid (Below.chain HB4.out hb2)
      clear hb2
      have c10 := Q1.out.cell0; have c11 := Q1.out.cell1; have c20 := Q2.out.cell0; have c21 := Q2.out.cell1
      go_wp2_with fail
      refine (addK_calls E1 E2 d1 d2 _ I1.out I2.out K1.out K2.out K12.out).mono ?_
      rintro e v6 ⟨d4, rfl, hd4, hb2⟩
      have sd4 := hd4.isSl
      rw [HSUM.out] at hd4 ⊢
      have I4 := Lib.hid hd4.ints
      replace Q1 := Lib.hid (Q1.out.below hb2); replace I1 := Lib.hid (I1.out.below hb2)
      replace Q2 := Lib.hid (Q2.out.below hb2); replace I2 := Lib.hid (I2.out.below hb2)
      replace Q3 := Lib.hid (Q3.out.below hb2); replace I3 := Lib.hid (I3.out.below hb2)
      replace HPD := Lib.hid (HPD.out.below hb2); replace HCD := Lib.hid (HCD.out.below hb2)
      replace HB4 := Lib.hid (Below.chain HB4.out hb2)
      clear hb2 hd4 c10 c11 c20 c21
      go_wp2_with fail
      refine (same_yes pzero ⟨0, []⟩ d4 (.slice none 0 0) _ I4.out (ints_nil _) rfl).mono ?_
      rintro e v7 ⟨rfl, hb2⟩
      replace Q1 := Lib.hid (Q1.out.below hb2); replace I1 := Lib.hid (I1.out.below hb2)
      replace Q2 := Lib.hid (Q2.out.below hb2); replace I2 := Lib.hid (I2.out.below hb2)
      replace Q3 := Lib.hid (Q3.out.below hb2); replace I3 := Lib.hid (I3.out.below hb2)
      replace HPD := Lib.hid (HPD.out.below hb2); replace HCD := Lib.hid (HCD.out.below hb2)
      replace HB4 := Lib.hid (Below.chain HB4.out hb2)
      clear hb2
      have c11 := Q1.out.cell1; have c21 := Q2.out.cell1; have c30 := Q3.out.cell0; have c31 := Q3.out.cell1; have cd0 := HPD.out.cell0; have cd1 := HPD.out.cell1
      have l1 : vlen d1 = E2.c.length := by rw [I1.out.len]; exact HLEN.out
      have l2 : vlen d2 = E2.c.length := I2.out.len
      go_wp2_with fail
      refine (same_yes E3 E3 d3 dc _ I3.out HCD.out rfl).mono ?_
      rintro e v8 ⟨rfl, hb2⟩
      replace HB4 := Lib.hid (Below.chain HB4.out hb2)
      clear hb2
      go_wp2_with fail
      go_ret
      exact ⟨rfl, HB4.out⟩

end Go.Proofs.Ytmcecmnbdcbehaa

