/- TangleTurns: for every input the statement returns true, and nothing that was there has changed. -/
import Derived.Test.YtpnbkoihglppnaaUntangle
import Derived.Test.YtpnbkoihglppnaaPermGroup
import Derived.StillTailTactics
namespace Go.Proofs.Ytpnbkoihglppnaa
open Go.RowKit Go.Sl

set_option maxHeartbeats 1000000 in
set_option maxRecDepth 100000 in
theorem fraction_calls (a b : Int) (w : World) (ha : I64 a) (hb : I64 b) :
    Calls Try.prog 49 #[.int .i64 a, .int .i64 b] w fun e w' => ∃ n d, e = .returned (.agg #[.int .i64 n, .int .i64 d]) ∧ FracOk n d ∧ n.natAbs ≤ 999 ∧ 1 ≤ d ∧ d ≤ 999 ∧ Below w.heap.size w w' := by
  obtain ⟨A, hA⟩ : ∃ A : Nat, a % 1999 = (A : Int) := ⟨(a % 1999).toNat, by omega⟩
  obtain ⟨C, hC⟩ : ∃ C : Nat, b % 999 = (C : Int) := ⟨(b % 999).toNat, by omega⟩
  have hA1 : A ≤ 1998 := by omega
  have hC1 : C ≤ 998 := by omega
  have HA := Lib.hid hA; have HC := Lib.hid hC; clear hA hC
  obtain ⟨N, hN⟩ : ∃ N : Int, N = (A : Int) - 999 := ⟨_, rfl⟩
  obtain ⟨D, hD⟩ : ∃ D : Int, D = 1 + (C : Int) := ⟨_, rfl⟩
  have hN1 : -999 ≤ N := by omega
  have hN2 : N ≤ 999 := by omega
  have hD1 : 1 ≤ D := by omega
  have hD2 : D ≤ 999 := by omega
  obtain ⟨G, hG⟩ : ∃ G : Nat, Nat.gcd N.natAbs D.natAbs = G := ⟨_, rfl⟩
  have hG1 : 1 ≤ G := by rw [← hG]; exact Nat.gcd_pos_of_pos_right _ (by omega)
  have hdn : G ∣ N.natAbs := hG ▸ Nat.gcd_dvd_left _ _
  have hdd : G ∣ D.natAbs := hG ▸ Nat.gcd_dvd_right _ _
  have hG2 : G ≤ 999 := Nat.le_trans (Nat.le_of_dvd (by omega) hdd) (by omega)
  have hq1 : (N.tdiv G).natAbs ≤ 999 := by rw [Int.natAbs_tdiv]; exact Nat.le_trans (Nat.div_le_self _ _) (by omega)
  have hq2 : (D / (G : Int)).natAbs = D.natAbs / G := by rw [Int.natAbs_ediv_of_nonneg (by omega)]; rfl
  have hq3 : 0 ≤ D / (G : Int) := Int.ediv_nonneg (by omega) (by omega)
  have hq4 : 0 < D.natAbs / G := Nat.div_pos (Nat.le_of_dvd (by omega) hdd) (by omega)
  have hq5 : D.natAbs / G ≤ 999 := Nat.le_trans (Nat.div_le_self _ _) (by omega)
  have hq6 : Nat.gcd (N.tdiv G).natAbs (D / (G : Int)).natAbs = 1 := by
    rw [hq2, Int.natAbs_tdiv, Int.natAbs_natCast]; show Nat.gcd (N.natAbs / G) (D.natAbs / G) = 1; rw [Nat.gcd_div hdn hdd, hG, Nat.div_self (by omega)]
  have ok : FracOk (N.tdiv G) (D / (G : Int)) := ⟨by omega, by omega, by omega, by omega, fun h => by omega, hq6⟩
  have t1 : -999 ≤ N.tdiv G := by omega
  have t2 : N.tdiv G ≤ 999 := by omega
  have t3 : D / (G : Int) ≤ 999 := by omega
  have t4 : 1 ≤ D / (G : Int) := by omega
  have OK := Lib.hid ok; have HG := Lib.hid hG
  have HN := Lib.hid hN.symm; have HD := Lib.hid hD.symm
  clear ok hG hdn hdd hq1 hq2 hq4 hq5 hq6 hN hD
  have hD0 : (D == 0) = false := by rw [beq_eq_false_iff_ne]; omega
  obtain ⟨W2, hW2⟩ : ∃ W2, W2 = w.alloc (.cells #[.int .i64 0, .int .i64 0] 68) := ⟨_, rfl⟩
  have P0 := Lib.hid (show Pair W2 w.heap.size 68 (.int .i64 0) (.int .i64 0) by rw [hW2]; exact pair_new w _ _ _)
  have B0 := Lib.hid (show Below w.heap.size w W2 by rw [hW2]; exact (Below.refl _ _).alloc (Nat.le_refl _) _)
  have HW := Lib.hid hW2.symm; clear hW2
  go_enter Try.func49, Try.ntmps49
  go_wp2_with fail
  rw [HW.out]
  refine (below_nat a 1999 A _ (by omega) (by omega) ha HA.out).mono ?_
  rintro e w' ⟨rfl, rfl⟩
  go_wp2_with fail
  refine (below_nat b 999 C _ (by omega) (by omega) hb HC.out).mono ?_
  rintro e w' ⟨rfl, rfl⟩
  by_cases hs : -((A : Int) - 999) ≤ (A : Int) - 999
  all_goals
    go_wp2_with fail
    have hs2 := HN.out
    have hs3 := HD.out
    simp only [HN.out, HD.out]
    go_loopw [5, 6] (fun x y wr => ∃ p q : Int, x = .int .i64 p ∧ y = .int .i64 q ∧ 0 ≤ p ∧ 0 ≤ q ∧ p ≤ 999 ∧ q ≤ 999 ∧ Nat.gcd p.natAbs q.natAbs = G ∧ Pair wr w.heap.size 68 (.int .i64 0) (.int .i64 0) ∧ Below w.heap.size w wr) (fun _ y _ => (intOf y).toNat)
    case atStart => exact ⟨_, D, rfl, rfl, by omega, by omega, by omega, by omega, by rw [← HG.out]; (try rw [Int.natAbs_neg]), P0.out, B0.out⟩
    case round =>
      obtain ⟨p, q, rfl, rfl, hp0, hq0, hp, hq, hg, hpr, hbr⟩ := hrel
      have HGG := Lib.hid hg; clear hg
      have c0 := hpr.cell0; have c1 := hpr.cell1; have f0 := hpr.free0; have f1 := hpr.free1
      have HPR := Lib.hid hpr; have HBR := Lib.hid hbr; clear hpr hbr
      clear hs hs2 hs3
      by_cases hz : q = 0
      · subst hz
        have hga : p = (G : Int) := by have := HGG.out; simp at this; omega
        have hp1 : 1 ≤ p := by omega
        have OK' := OK.out
        rw [← hga] at OK' t1 t2 t3 t4
        have HOK' := Lib.hid OK'; clear OK' hga
        have hG0 : ¬ p = 0 := by omega
        have hw1 := IntWalk.i64_in (N.tdiv p) ⟨by omega, by omega⟩
        have hw2 := IntWalk.i64_quo D p ⟨by omega, by omega, by omega⟩
        go_wp2_with fail
        go_still_tail 7, (by kernel_rfl)
        clear hw1 hw2
        go_wp2_with fail
        exact bodyPost_ret (v := .agg #[.int .i64 (N.tdiv p), .int .i64 (D / p)]) (by simp [results, Try.results49, go_sem, c0, c1]) rfl ⟨_, _, rfl, HOK'.out, by omega, t4, t3, ((HBR.out.setCell (Nat.le_refl _) _).setCell (Nat.le_refl _) _).drew⟩
      · have hab : p % q < q := Int.emod_lt_of_pos p (by omega)
        have hab0 : 0 ≤ p % q := Int.emod_nonneg p hz
        have hnext : Nat.gcd q.natAbs (p % q).natAbs = G := by
          rw [Int.natAbs_emod_of_nonneg hp0, ← HGG.out, Nat.gcd_comm p.natAbs, Nat.gcd_rec q.natAbs p.natAbs, Nat.gcd_comm]
        have hq1 : 1 ≤ q := by omega
        have hqz : (q == 0) = false := by simp [hz]
        have HN1 := Lib.hid hnext; have HAB := Lib.hid hab; clear hnext hz
        go_wp2_with fail
        go_quiet (fail)
        go_wp2_with fail
        go_roundw
        case rel => exact ⟨q, p % q, rfl, rfl, by omega, hab0, hq, by have := HAB.out; omega, HN1.out, HPR.out.below (Below.drawn _), HBR.out.trans ((Below.drawn _).mono HBR.out.size)⟩
        case measure => have := HAB.out; simp [intOf]; omega

end Go.Proofs.Ytpnbkoihglppnaa
