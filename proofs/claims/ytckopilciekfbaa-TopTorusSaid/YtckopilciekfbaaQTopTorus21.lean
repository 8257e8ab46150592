/- laurent.Normal and Normalize walked. -/
import Derived.Test.YtckopilciekfbaaQTopTorus0
import Derived.Test.YtckopilciekfbaaQTopTorus1
import Derived.Test.YtckopilciekfbaaQTopTorus2
import Derived.Test.YtckopilciekfbaaQTopTorus3
import Derived.Test.YtckopilciekfbaaQTopTorus4
import Derived.Test.YtckopilciekfbaaQTopTorus5
import Derived.Test.YtckopilciekfbaaQTopTorus6
import Derived.Test.YtckopilciekfbaaQTopTorus9
import Derived.Test.YtckopilciekfbaaQTopTorus10
import Derived.Test.YtckopilciekfbaaQTopTorus11
import Derived.Test.YtckopilciekfbaaQTopTorus12
import Derived.Test.YtckopilciekfbaaQTopTorus18
import Derived.Deep.RegionWith
namespace Go.Proofs.Ytckopilciekfbaa
open Go.RowKit Go.Sl

set_option maxRecDepth 100000 in
theorem at_calls (p : LP) (s : Value) (x : Int) (w : World) (hs : Ints w s p.c) (hp : POk p) (hx : x = 1 ∨ x = -1) :
    Calls Try.prog 59 #[.agg #[.int .i64 p.low, s], .int .i64 x] w fun e w' => e = .returned (.int .i64 (atR x p.low p.c)) ∧ Below w.heap.size w w' := by
  have ss := hs.isSl
  have ls := hs.len
  obtain ⟨n, hn⟩ : ∃ n, p.c.length = n := ⟨_, rfl⟩
  have hn2 : n ≤ 200 := by rw [← hn]; exact hp.len
  rw [hn] at ls
  have hlo1 := hp.lo1; have hlo2 := hp.lo2
  have HCO := Lib.hid (show ∀ k, (nth p.c k).natAbs ≤ 1000000000 from fun k => Nat.le_trans (n1_nth _ _) hp.co.1)
  have HAT := Lib.hid (show ∀ k, (atR x p.low (p.c.take k)).natAbs ≤ 1000000000 from fun k => Nat.le_trans (atR_take_le _ _ _ _) hp.co.1)
  obtain ⟨W1, hW1⟩ : ∃ W1, W1 = w.alloc (.cells #[.int .i64 p.low, s] 35) := ⟨_, rfl⟩
  have p1 : Pair W1 w.heap.size 35 (.int .i64 p.low) s := by rw [hW1]; exact pair_new _ _ _ _
  have b1 : Below w.heap.size w W1 := by rw [hW1]; exact (Below.refl _ _).alloc (Nat.le_refl _) _
  have HS1 := Lib.hid (hs.below b1)
  have c0 := p1.cell0; have c1 := p1.cell1
  have HW1 := Lib.hid hW1.symm; have HB1 := Lib.hid b1; have HN := Lib.hid hn
  clear hs hp hW1 p1 b1 hn
  go_enter Try.func59, Try.ntmps59
  go_wp2_with fail
  rw [HW1.out]
  go_loop [5, 11] (fun o i => ∃ (k : Nat) (m : Int), k ≤ n ∧ i = .int .i64 k ∧ o = .int .i64 m ∧ m = atR x p.low (p.c.take k)) (fun _ i => n - (intOf i).toNat)
  case atStart => exact ⟨0, 0, Nat.zero_le _, rfl, rfl, rfl⟩
  case round =>
    obtain ⟨k, m, hk, rfl, rfl, hm⟩ := hrel
    have hmb := HAT.out k
    rw [← hm] at hmb
    by_cases hlt : k < n
    · have d1 := HS1.out.cell (k := k) (by rw [HN.out]; exact hlt)
      have hcb := HCO.out k
      have hnx := atR_take_succ x p.low p.c k (by rw [HN.out]; exact hlt)
      rw [← hm] at hnx
      obtain ⟨c, hc⟩ : ∃ c, nth p.c k = c := ⟨_, rfl⟩
      rw [hc] at d1 hcb hnx
      have HNX := Lib.hid hnx
      clear hnx hm hc
      rcases hx with rfl | rfl
      · go_wp2_with fail
        go_round
        case rel => exact ⟨k + 1, m + c, by omega, by go_num, by go_num, by rw [HNX.out, if_neg (by omega)]⟩
        case measure => simp [intOf]; omega
      · by_cases he : (p.low + k) % 2 = 0
        · have ht : (p.low + (k : Int)).tmod 2 = 0 := by
            have h1 := emod_of_tmod (p.low + k) 2 (by omega)
            have h2 := tmod_bounds (p.low + k) 2 (by omega)
            rw [he] at h1
            split at h1 <;> omega
          have h0 : ((p.low + (k : Int)).tmod 2 != 0) = false := by rw [ht]; rfl
          have HE := Lib.hid he
          clear he ht
          go_wp2_with fail
          go_round
          case rel => exact ⟨k + 1, m + c, by omega, by go_num, by go_num, by rw [HNX.out, if_neg (fun h => h.2 HE.out)]⟩
          case measure => simp [intOf]; omega
        · have ht : (p.low + (k : Int)).tmod 2 ≠ 0 := fun h => by
            have h1 := emod_of_tmod (p.low + k) 2 (by omega)
            rw [h] at h1
            simp at h1
            omega
          have h0 : ((p.low + (k : Int)).tmod 2 != 0) = true := by simp [ht]
          have HE := Lib.hid he
          clear he ht
          go_wp2_with fail
          go_round
          case rel => exact ⟨k + 1, m + -c, by omega, by go_num, by go_num, by rw [HNX.out, if_pos ⟨by omega, HE.out⟩]⟩
          case measure => simp [intOf]; omega
    · have hf : m = atR x p.low p.c := by rw [hm, List.take_of_length_le (by rw [HN.out]; omega)]
      have HF := Lib.hid hf; clear hf hm
      go_wp2_with fail
      go_ret
      exact ⟨ret_int' HF.out, HB1.out⟩

end Go.Proofs.Ytckopilciekfbaa

namespace Go.Proofs.Ytckopilciekfbaa
open Go.RowKit Go.Sl

theorem n1_pterm_one {S : Int} (h : S = 1 ∨ S = -1) : n1 (pterm S 0).c ≤ 1 := Nat.le_trans (n1_pterm S 0) (by rcases h with rfl | rfl <;> decide)
theorem pterm_low {S : Int} (h : S = 1 ∨ S = -1) : (pterm S 0).low.natAbs ≤ 100000 ∧ (pterm S 0).c.length ≤ 100000 := by
  rcases h with rfl | rfl <;> decide

set_option maxHeartbeats 2000000 in
set_option maxRecDepth 100000 in
theorem normal_calls (p : LP) (s : Value) (w : World) (hs : Ints w s p.c) (hp : POk p) :
    Calls Try.prog 66 #[.agg #[.int .i64 p.low, s]] w fun e w' => ∃ u, e = .returned (.agg #[.int .i64 (pnorm p).low, u]) ∧ OwnI w' w.heap.size u (pnorm p).c ∧ Below w.heap.size w w' := by
  have ss := hs.isSl
  have ls := hs.len
  have hlen := hp.len
  have hlen2 : (⟨0, p.c⟩ : LP).c.length ≤ 100000 := by show p.c.length ≤ 100000; omega
  have HNN0 : ∀ S : Int, S = 1 ∨ S = -1 → n1 (⟨0, p.c⟩ : LP).c * n1 (pterm S 0).c ≤ 4000000000000000000 := fun S h => Nat.le_trans (Nat.mul_le_mul hp.co.1 (n1_pterm_one h)) (by decide)
  have HNN1 := Lib.hid HNN0
  obtain ⟨n, hn⟩ : ∃ n, p.c.length = n := ⟨_, rfl⟩
  rw [hn] at ls hlen
  obtain ⟨W2, hW2⟩ : ∃ W2, W2 = (w.alloc (.cells #[.int .i64 p.low, s] 35)).alloc (.cells #[.int .i64 0, .slice none 0 0] 35) := ⟨_, rfl⟩
  obtain ⟨p1, p2, b2, hz2⟩ := two _ _ _ _ _ _ _ hW2
  have hz2' : w.heap.size + 2 ≤ W2.heap.size := by omega
  have c0 := p1.cell0; have c1 := p1.cell1
  have P1 := Lib.hid p1; have P2 := Lib.hid p2; have B2 := Lib.hid b2; have HZ2 := Lib.hid hz2'; have HW2 := Lib.hid hW2.symm
  have HS := Lib.hid (hs.below b2); have HN := Lib.hid hn
  clear p1 p2 b2 hz2 hz2' hW2 hs hp HNN0
  by_cases h0 : n = 0
  · subst h0
    have hsg : lsign p = 1 := by
      have : p.c = [] := List.length_eq_zero_iff.1 HN.out
      unfold lsign; rw [this]; simp [nth]
    have HNORM := Lib.hid (show pnorm p = pmul ⟨0, p.c⟩ (pterm 1 0) by unfold pnorm; rw [hsg])
    have HNN := Lib.hid (HNN1.out 1 (.inl rfl))
    have c2 : True := trivial
    have c3 : True := trivial
    clear hn hsg
    go_enter Try.func66, Try.ntmps66
    go_wp2_with fail
    rw [HW2.out]
    go_wp2_with fail
    have hb0 : Below W2.heap.size W2 W2.drew := (Below.refl _ _).drew
    replace HS := Lib.hid (HS.out.below hb0); replace P1 := Lib.hid (P1.out.below hb0); replace P2 := Lib.hid (P2.out.below hb0); replace B2 := Lib.hid (B2.out.trans (hb0.mono B2.out.size))
    replace c0 := P1.out.cell0; replace c1 := P1.out.cell1
    have hz3 : w.heap.size + 2 ≤ W2.drew.heap.size := HZ2.out
    clear hb0 c2 c3
    go_region_with (first
      | (go_at_call 64; refine (term_calls 1 0 _ (by decide) (by decide)).mono ?_; rintro z w5 ⟨tv, rfl, ht, hb5⟩; have ht5 := Lib.hid ht.ints; have p5 := Lib.hid (P1.out.below hb5); have r5 := Lib.hid (P2.out.below hb5); have hs5 := Lib.hid (HS.out.below hb5); have hb6 := Lib.hid (B2.out.trans (hb5.mono B2.out.size)); have d0 := p5.out.cell0; have d1 := p5.out.cell1; have st := ht.isSl; have z5 := Lib.hid (Nat.le_trans hz3 hb5.size); clear ht hb5)
      | (go_at_call 82; refine (ltimes_calls ⟨0, p.c⟩ (pterm 1 0) s tv _ hs5.out ht5.out (by show Int.natAbs 0 ≤ 100000; decide) ((pterm_low (S := 1) (.inl rfl)).1) hlen2 ((pterm_low (S := 1) (.inl rfl)).2) HNN.out).mono ?_; rintro z w6 ⟨pv, rfl, hp6, hb7⟩; have hp7 := Lib.hid hp6; have r7 := Lib.hid (r5.out.below hb7); have hb8 := Lib.hid (hb6.out.trans (hb7.mono hb6.out.size)); have f0 := r7.out.cell0; have f1 := r7.out.cell1; have f2 := r7.out.free0; have f3 := r7.out.free1; have sp := hp6.isSl; have z6 := Lib.hid (Nat.le_trans z5.out hb7.size); clear hp6 hb7))
    all_goals
      go_wp2_with fail
      refine bodyPost_ret (v := .agg #[.int .i64 (pnorm p).low, pv]) (by simp [results, Try.results66, go_sem, HNORM.out, f0, f1]) rfl ⟨_, rfl, ?_, (hb8.out.setCell (by simp) _).setCell (by simp) _⟩
      rw [HNORM.out]
      have hlo := hp7.out.low z5.out
      exact ((hlo.setOther (fun b hb hc => by have h1 := (hlo.lt b hb).1; simp at hc; omega) _).setOther (fun b hb hc => by have h1 := (hlo.lt b hb).1; simp at hc; omega) _).low (by omega)
  · obtain ⟨m, hm⟩ : ∃ m, m = n - 1 := ⟨_, rfl⟩
    have hmn : m < n := by omega
    have hmi : (n : Int) - 1 = (m : Int) := by omega
    have hni : (n : Int) > 0 := by omega
    have c2 := HS.out.cell (k := m) (by rw [HN.out]; exact hmn)
    obtain ⟨la, hla⟩ : ∃ la, nth p.c m = la := ⟨_, rfl⟩
    rw [hla] at c2
    have c3 := c2
    rw [← HW2.out] at c3
    have hla2 : nth p.c (p.c.length - 1) = la := by rw [HN.out, ← hm]; exact hla
    by_cases hneg : la < 0
    · have HNORM := Lib.hid (show pnorm p = pmul ⟨0, p.c⟩ (pterm (-1) 0) by unfold pnorm lsign; rw [hla2, if_pos hneg])
      have HNN := Lib.hid (HNN1.out (-1) (.inr rfl))
      clear hm hla hla2 h0 HN
      go_enter Try.func66, Try.ntmps66
      go_wp2_with fail
      rw [HW2.out]
      go_wp2_with fail
      have hb0 : Below W2.heap.size W2 W2.drew := (Below.refl _ _).drew
      replace HS := Lib.hid (HS.out.below hb0); replace P1 := Lib.hid (P1.out.below hb0); replace P2 := Lib.hid (P2.out.below hb0); replace B2 := Lib.hid (B2.out.trans (hb0.mono B2.out.size))
      replace c0 := P1.out.cell0; replace c1 := P1.out.cell1
      have hz3 : w.heap.size + 2 ≤ W2.drew.heap.size := HZ2.out
      clear hb0 c2 c3
      go_region_with (first
        | (go_at_call 64; refine (term_calls (-1) 0 _ (by decide) (by decide)).mono ?_; rintro z w5 ⟨tv, rfl, ht, hb5⟩; have ht5 := Lib.hid ht.ints; have p5 := Lib.hid (P1.out.below hb5); have r5 := Lib.hid (P2.out.below hb5); have hs5 := Lib.hid (HS.out.below hb5); have hb6 := Lib.hid (B2.out.trans (hb5.mono B2.out.size)); have d0 := p5.out.cell0; have d1 := p5.out.cell1; have st := ht.isSl; have z5 := Lib.hid (Nat.le_trans hz3 hb5.size); clear ht hb5)
        | (go_at_call 82; refine (ltimes_calls ⟨0, p.c⟩ (pterm (-1) 0) s tv _ hs5.out ht5.out (by show Int.natAbs 0 ≤ 100000; decide) ((pterm_low (S := (-1)) (.inr rfl)).1) hlen2 ((pterm_low (S := (-1)) (.inr rfl)).2) HNN.out).mono ?_; rintro z w6 ⟨pv, rfl, hp6, hb7⟩; have hp7 := Lib.hid hp6; have r7 := Lib.hid (r5.out.below hb7); have hb8 := Lib.hid (hb6.out.trans (hb7.mono hb6.out.size)); have f0 := r7.out.cell0; have f1 := r7.out.cell1; have f2 := r7.out.free0; have f3 := r7.out.free1; have sp := hp6.isSl; have z6 := Lib.hid (Nat.le_trans z5.out hb7.size); clear hp6 hb7))
      all_goals
        go_wp2_with fail
        refine bodyPost_ret (v := .agg #[.int .i64 (pnorm p).low, pv]) (by simp [results, Try.results66, go_sem, HNORM.out, f0, f1]) rfl ⟨_, rfl, ?_, (hb8.out.setCell (by simp) _).setCell (by simp) _⟩
        rw [HNORM.out]
        have hlo := hp7.out.low z5.out
        exact ((hlo.setOther (fun b hb hc => by have h1 := (hlo.lt b hb).1; simp at hc; omega) _).setOther (fun b hb hc => by have h1 := (hlo.lt b hb).1; simp at hc; omega) _).low (by omega)
    · have HNORM := Lib.hid (show pnorm p = pmul ⟨0, p.c⟩ (pterm 1 0) by unfold pnorm lsign; rw [hla2, if_neg hneg])
      have HNN := Lib.hid (HNN1.out 1 (.inl rfl))
      clear hm hla hla2 h0 HN
      go_enter Try.func66, Try.ntmps66
      go_wp2_with fail
      rw [HW2.out]
      go_wp2_with fail
      have hb0 : Below W2.heap.size W2 W2.drew := (Below.refl _ _).drew
      replace HS := Lib.hid (HS.out.below hb0); replace P1 := Lib.hid (P1.out.below hb0); replace P2 := Lib.hid (P2.out.below hb0); replace B2 := Lib.hid (B2.out.trans (hb0.mono B2.out.size))
      replace c0 := P1.out.cell0; replace c1 := P1.out.cell1
      have hz3 : w.heap.size + 2 ≤ W2.drew.heap.size := HZ2.out
      clear hb0 c2 c3
      go_region_with (first
        | (go_at_call 64; refine (term_calls 1 0 _ (by decide) (by decide)).mono ?_; rintro z w5 ⟨tv, rfl, ht, hb5⟩; have ht5 := Lib.hid ht.ints; have p5 := Lib.hid (P1.out.below hb5); have r5 := Lib.hid (P2.out.below hb5); have hs5 := Lib.hid (HS.out.below hb5); have hb6 := Lib.hid (B2.out.trans (hb5.mono B2.out.size)); have d0 := p5.out.cell0; have d1 := p5.out.cell1; have st := ht.isSl; have z5 := Lib.hid (Nat.le_trans hz3 hb5.size); clear ht hb5)
        | (go_at_call 82; refine (ltimes_calls ⟨0, p.c⟩ (pterm 1 0) s tv _ hs5.out ht5.out (by show Int.natAbs 0 ≤ 100000; decide) ((pterm_low (S := 1) (.inl rfl)).1) hlen2 ((pterm_low (S := 1) (.inl rfl)).2) HNN.out).mono ?_; rintro z w6 ⟨pv, rfl, hp6, hb7⟩; have hp7 := Lib.hid hp6; have r7 := Lib.hid (r5.out.below hb7); have hb8 := Lib.hid (hb6.out.trans (hb7.mono hb6.out.size)); have f0 := r7.out.cell0; have f1 := r7.out.cell1; have f2 := r7.out.free0; have f3 := r7.out.free1; have sp := hp6.isSl; have z6 := Lib.hid (Nat.le_trans z5.out hb7.size); clear hp6 hb7))
      all_goals
        go_wp2_with fail
        refine bodyPost_ret (v := .agg #[.int .i64 (pnorm p).low, pv]) (by simp [results, Try.results66, go_sem, HNORM.out, f0, f1]) rfl ⟨_, rfl, ?_, (hb8.out.setCell (by simp) _).setCell (by simp) _⟩
        rw [HNORM.out]
        have hlo := hp7.out.low z5.out
        exact ((hlo.setOther (fun b hb hc => by have h1 := (hlo.lt b hb).1; simp at hc; omega) _).setOther (fun b hb hc => by have h1 := (hlo.lt b hb).1; simp at hc; omega) _).low (by omega)

end Go.Proofs.Ytckopilciekfbaa

