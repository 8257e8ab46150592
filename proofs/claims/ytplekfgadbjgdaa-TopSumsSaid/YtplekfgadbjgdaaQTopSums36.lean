/- laurent.Normal and Normalize walked. -/
import Derived.Test.YtplekfgadbjgdaaQTopSums0
import Derived.Test.YtplekfgadbjgdaaQTopSums1
import Derived.Test.YtplekfgadbjgdaaQTopSums3
import Derived.Test.YtplekfgadbjgdaaQTopSums4
import Derived.Test.YtplekfgadbjgdaaQTopSums5
import Derived.Test.YtplekfgadbjgdaaQTopSums6
import Derived.Test.YtplekfgadbjgdaaQTopSums7
import Derived.Test.YtplekfgadbjgdaaQTopSums8
import Derived.Test.YtplekfgadbjgdaaQTopSums10
import Derived.Test.YtplekfgadbjgdaaQTopSums11
import Derived.Test.YtplekfgadbjgdaaQTopSums12
import Derived.Test.YtplekfgadbjgdaaQTopSums13
import Derived.Test.YtplekfgadbjgdaaQTopSums14
import Derived.Test.YtplekfgadbjgdaaQTopSums19
import Derived.Test.YtplekfgadbjgdaaQTopSums26
import Derived.Deep.RegionWith
namespace Go.Proofs.Ytplekfgadbjgdaa
open Go.RowKit Go.Sl

theorem n1_pterm_one {S : Int} (h : S = 1 ∨ S = -1) : n1 (pterm S 0).c ≤ 1 := Nat.le_trans (n1_pterm S 0) (by rcases h with rfl | rfl <;> decide)
theorem pterm_low {S : Int} (h : S = 1 ∨ S = -1) : (pterm S 0).low.natAbs ≤ 100000 ∧ (pterm S 0).c.length ≤ 100000 := by
  rcases h with rfl | rfl <;> decide

set_option maxHeartbeats 2000000 in
set_option maxRecDepth 100000 in
theorem normal_calls (p : LP) (s : Value) (w : World) (hs : Ints w s p.c) (hp : POk p) :
    Calls Try.prog 78 #[.agg #[.int .i64 p.low, s]] w fun e w' => ∃ u, e = .returned (.agg #[.int .i64 (pnorm p).low, u]) ∧ OwnI w' w.heap.size u (pnorm p).c ∧ Below w.heap.size w w' := by
  have ss := hs.isSl
  have ls := hs.len
  have hlen := hp.len
  have hlen2 : (⟨0, p.c⟩ : LP).c.length ≤ 100000 := by show p.c.length ≤ 100000; omega
  have HNN0 : ∀ S : Int, S = 1 ∨ S = -1 → n1 (⟨0, p.c⟩ : LP).c * n1 (pterm S 0).c ≤ 4000000000000000000 := fun S h => Nat.le_trans (Nat.mul_le_mul hp.co.1 (n1_pterm_one h)) (by decide)
  have HNN1 := Lib.hid HNN0
  obtain ⟨n, hn⟩ : ∃ n, p.c.length = n := ⟨_, rfl⟩
  rw [hn] at ls hlen
  obtain ⟨W2, hW2⟩ : ∃ W2, W2 = (w.alloc (.cells #[.int .i64 p.low, s] 40)).alloc (.cells #[.int .i64 0, .slice none 0 0] 40) := ⟨_, rfl⟩
  obtain ⟨p1, p2, b2, hz2⟩ := two _ _ _ _ _ _ _ hW2
  have hz2' : w.heap.size + 2 ≤ W2.heap.size := by omega
  have c0 := p1.cell0; have c1 := p1.cell1
  have P1 := Lib.hid p1; have P2 := Lib.hid p2; have B2 := Lib.hid b2; have HZ2 := Lib.hid hz2'; have HW2 := Lib.hid hW2.symm
  have HS := Lib.hid (hs.below b2); have HN := Lib.hid hn
  clear p1 p2 b2 hz2 hz2' hW2 hs hp HNN0
  by_cases h0 : n = 0
  · subst h0
    have hsg : lsign p = 1 := by
      have : p.c = [] := List.length_eq_zero_iff.1 HN.out
      unfold lsign; rw [this]; simp [nth]
    have HNORM := Lib.hid (show pnorm p = pmul ⟨0, p.c⟩ (pterm 1 0) by unfold pnorm; rw [hsg])
    have HNN := Lib.hid (HNN1.out 1 (.inl rfl))
    have c2 : True := trivial
    have c3 : True := trivial
    clear hn hsg
    go_enter Try.func78, Try.ntmps78
    go_wp2_with fail
    rw [HW2.out]
    go_wp2_with fail
    have hb0 : Below W2.heap.size W2 W2.drew := (Below.refl _ _).drew
    replace HS := Lib.hid (HS.out.below hb0); replace P1 := Lib.hid (P1.out.below hb0); replace P2 := Lib.hid (P2.out.below hb0); replace B2 := Lib.hid (B2.out.trans (hb0.mono B2.out.size))
    replace c0 := P1.out.cell0; replace c1 := P1.out.cell1
    have hz3 : w.heap.size + 2 ≤ W2.drew.heap.size := HZ2.out
    clear hb0 c2 c3
    go_region_with (first
      | (go_at_call 71; refine (term_calls 1 0 _ (by decide) (by decide)).mono ?_; rintro z w5 ⟨tv, rfl, ht, hb5⟩; have ht5 := Lib.hid ht.ints; have p5 := Lib.hid (P1.out.below hb5); have r5 := Lib.hid (P2.out.below hb5); have hs5 := Lib.hid (HS.out.below hb5); have hb6 := Lib.hid (B2.out.trans (hb5.mono B2.out.size)); have d0 := p5.out.cell0; have d1 := p5.out.cell1; have st := ht.isSl; have z5 := Lib.hid (Nat.le_trans hz3 hb5.size); clear ht hb5)
      | (go_at_call 70; refine (ltimes_calls ⟨0, p.c⟩ (pterm 1 0) s tv _ hs5.out ht5.out (by show Int.natAbs 0 ≤ 100000; decide) ((pterm_low (S := 1) (.inl rfl)).1) hlen2 ((pterm_low (S := 1) (.inl rfl)).2) HNN.out).mono ?_; rintro z w6 ⟨pv, rfl, hp6, hb7⟩; have hp7 := Lib.hid hp6; have r7 := Lib.hid (r5.out.below hb7); have hb8 := Lib.hid (hb6.out.trans (hb7.mono hb6.out.size)); have f0 := r7.out.cell0; have f1 := r7.out.cell1; have f2 := r7.out.free0; have f3 := r7.out.free1; have sp := hp6.isSl; have z6 := Lib.hid (Nat.le_trans z5.out hb7.size); clear hp6 hb7))
    all_goals
      go_wp2_with fail
      refine bodyPost_ret (v := .agg #[.int .i64 (pnorm p).low, pv]) (by simp [results, Try.results78, go_sem, HNORM.out, f0, f1]) rfl ⟨_, rfl, ?_, (hb8.out.setCell (by simp) _).setCell (by simp) _⟩
      rw [HNORM.out]
      have hlo := hp7.out.low z5.out
      exact ((hlo.setOther (fun b hb hc => by have h1 := (hlo.lt b hb).1; simp at hc; omega) _).setOther (fun b hb hc => by have h1 := (hlo.lt b hb).1; simp at hc; omega) _).low (by omega)
  · obtain ⟨m, hm⟩ : ∃ m, m = n - 1 := ⟨_, rfl⟩
    have hmn : m < n := by omega
    have hmi : (n : Int) - 1 = (m : Int) := by omega
    have hni : (n : Int) > 0 := by omega
    have c2 := HS.out.cell (k := m) (by rw [HN.out]; exact hmn)
    obtain ⟨la, hla⟩ : ∃ la, nth p.c m = la := ⟨_, rfl⟩
    rw [hla] at c2
    have c3 := c2
    rw [← HW2.out] at c3
    have hla2 : nth p.c (p.c.length - 1) = la := by rw [HN.out, ← hm]; exact hla
    by_cases hneg : la < 0
    · have HNORM := Lib.hid (show pnorm p = pmul ⟨0, p.c⟩ (pterm (-1) 0) by unfold pnorm lsign; rw [hla2, if_pos hneg])
      have HNN := Lib.hid (HNN1.out (-1) (.inr rfl))
      clear hm hla hla2 h0 HN
      go_enter Try.func78, Try.ntmps78
      go_wp2_with fail
      rw [HW2.out]
      go_wp2_with fail
      have hb0 : Below W2.heap.size W2 W2.drew := (Below.refl _ _).drew
      replace HS := Lib.hid (HS.out.below hb0); replace P1 := Lib.hid (P1.out.below hb0); replace P2 := Lib.hid (P2.out.below hb0); replace B2 := Lib.hid (B2.out.trans (hb0.mono B2.out.size))
      replace c0 := P1.out.cell0; replace c1 := P1.out.cell1
      have hz3 : w.heap.size + 2 ≤ W2.drew.heap.size := HZ2.out
      clear hb0 c2 c3
      go_region_with (first
        | (go_at_call 71; refine (term_calls (-1) 0 _ (by decide) (by decide)).mono ?_; rintro z w5 ⟨tv, rfl, ht, hb5⟩; have ht5 := Lib.hid ht.ints; have p5 := Lib.hid (P1.out.below hb5); have r5 := Lib.hid (P2.out.below hb5); have hs5 := Lib.hid (HS.out.below hb5); have hb6 := Lib.hid (B2.out.trans (hb5.mono B2.out.size)); have d0 := p5.out.cell0; have d1 := p5.out.cell1; have st := ht.isSl; have z5 := Lib.hid (Nat.le_trans hz3 hb5.size); clear ht hb5)
        | (go_at_call 70; refine (ltimes_calls ⟨0, p.c⟩ (pterm (-1) 0) s tv _ hs5.out ht5.out (by show Int.natAbs 0 ≤ 100000; decide) ((pterm_low (S := (-1)) (.inr rfl)).1) hlen2 ((pterm_low (S := (-1)) (.inr rfl)).2) HNN.out).mono ?_; rintro z w6 ⟨pv, rfl, hp6, hb7⟩; have hp7 := Lib.hid hp6; have r7 := Lib.hid (r5.out.below hb7); have hb8 := Lib.hid (hb6.out.trans (hb7.mono hb6.out.size)); have f0 := r7.out.cell0; have f1 := r7.out.cell1; have f2 := r7.out.free0; have f3 := r7.out.free1; have sp := hp6.isSl; have z6 := Lib.hid (Nat.le_trans z5.out hb7.size); clear hp6 hb7))
      all_goals
        go_wp2_with fail
        refine bodyPost_ret (v := .agg #[.int .i64 (pnorm p).low, pv]) (by simp [results, Try.results78, go_sem, HNORM.out, f0, f1]) rfl ⟨_, rfl, ?_, (hb8.out.setCell (by simp) _).setCell (by simp) _⟩
        rw [HNORM.out]
        have hlo := hp7.out.low z5.out
        exact ((hlo.setOther (fun b hb hc => by have h1 := (hlo.lt b hb).1; simp at hc; omega) _).setOther (fun b hb hc => by have h1 := (hlo.lt b hb).1; simp at hc; omega) _).low (by omega)
    · have HNORM := Lib.hid (show pnorm p = pmul ⟨0, p.c⟩ (pterm 1 0) by unfold pnorm lsign; rw [hla2, if_neg hneg])
      have HNN := Lib.hid (HNN1.out 1 (.inl rfl))
      clear hm hla hla2 h0 HN
      go_enter Try.func78, Try.ntmps78
      go_wp2_with fail
      rw [HW2.out]
      go_wp2_with fail
      have hb0 : Below W2.heap.size W2 W2.drew := (Below.refl _ _).drew
      replace HS := Lib.hid (HS.out.below hb0); replace P1 := Lib.hid (P1.out.below hb0); replace P2 := Lib.hid (P2.out.below hb0); replace B2 := Lib.hid (B2.out.trans (hb0.mono B2.out.size))
      replace c0 := P1.out.cell0; replace c1 := P1.out.cell1
      have hz3 : w.heap.size + 2 ≤ W2.drew.heap.size := HZ2.out
      clear hb0 c2 c3
      go_region_with (first
        | (go_at_call 71; refine (term_calls 1 0 _ (by decide) (by decide)).mono ?_; rintro z w5 ⟨tv, rfl, ht, hb5⟩; have ht5 := Lib.hid ht.ints; have p5 := Lib.hid (P1.out.below hb5); have r5 := Lib.hid (P2.out.below hb5); have hs5 := Lib.hid (HS.out.below hb5); have hb6 := Lib.hid (B2.out.trans (hb5.mono B2.out.size)); have d0 := p5.out.cell0; have d1 := p5.out.cell1; have st := ht.isSl; have z5 := Lib.hid (Nat.le_trans hz3 hb5.size); clear ht hb5)
        | (go_at_call 70; refine (ltimes_calls ⟨0, p.c⟩ (pterm 1 0) s tv _ hs5.out ht5.out (by show Int.natAbs 0 ≤ 100000; decide) ((pterm_low (S := 1) (.inl rfl)).1) hlen2 ((pterm_low (S := 1) (.inl rfl)).2) HNN.out).mono ?_; rintro z w6 ⟨pv, rfl, hp6, hb7⟩; have hp7 := Lib.hid hp6; have r7 := Lib.hid (r5.out.below hb7); have hb8 := Lib.hid (hb6.out.trans (hb7.mono hb6.out.size)); have f0 := r7.out.cell0; have f1 := r7.out.cell1; have f2 := r7.out.free0; have f3 := r7.out.free1; have sp := hp6.isSl; have z6 := Lib.hid (Nat.le_trans z5.out hb7.size); clear hp6 hb7))
      all_goals
        go_wp2_with fail
        refine bodyPost_ret (v := .agg #[.int .i64 (pnorm p).low, pv]) (by simp [results, Try.results78, go_sem, HNORM.out, f0, f1]) rfl ⟨_, rfl, ?_, (hb8.out.setCell (by simp) _).setCell (by simp) _⟩
        rw [HNORM.out]
        have hlo := hp7.out.low z5.out
        exact ((hlo.setOther (fun b hb hc => by have h1 := (hlo.lt b hb).1; simp at hc; omega) _).setOther (fun b hb hc => by have h1 := (hlo.lt b hb).1; simp at hc; omega) _).low (by omega)

end Go.Proofs.Ytplekfgadbjgdaa

