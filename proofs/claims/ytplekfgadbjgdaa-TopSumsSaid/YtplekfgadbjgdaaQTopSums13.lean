/- laurent.Times, Check, both, Fit, Add, Sub, Mul walked. -/
import Derived.Test.YtplekfgadbjgdaaQTopSums0
import Derived.Test.YtplekfgadbjgdaaQTopSums1
import Derived.Test.YtplekfgadbjgdaaQTopSums3
import Derived.Test.YtplekfgadbjgdaaQTopSums4
import Derived.Test.YtplekfgadbjgdaaQTopSums5
import Derived.Test.YtplekfgadbjgdaaQTopSums6
import Derived.Test.YtplekfgadbjgdaaQTopSums7
import Derived.Test.YtplekfgadbjgdaaQTopSums10
import Derived.Test.YtplekfgadbjgdaaQTopSums11
import Derived.Test.YtplekfgadbjgdaaQTopSums12

namespace Go.Proofs.Ytplekfgadbjgdaa
open Go.RowKit Go.Sl

theorem pmul_nil {a b : LP} (h : a.c = [] ∨ b.c = []) : pmul a b = pzero := by
  refine ev_ext (pmul_trimmed a b) pzero_trimmed fun t ht => ?_
  rw [ev_pmul a b ht, ev_pzero]
  rcases h with h | h
  · rw [ev, h, evL]; grind
  · rw [ev, ev, h, evL]; grind

theorem times_zero (a b : LP) (sa sb : Value) (w : World) (ha : Ints w sa a.c) (hb : Ints w sb b.c) (h : a.c = [] ∨ b.c = []) :
    Calls Try.prog 70 #[.agg #[.int .i64 a.low, sa], .agg #[.int .i64 b.low, sb]] w fun e w' => ∃ s, e = .returned (.agg #[.int .i64 (pmul a b).low, s]) ∧ OwnI w' w.heap.size s (pmul a b).c ∧ Below w.heap.size w w' := by
  rw [pmul_nil h]
  have s1 := ha.isSl
  have s2 := hb.isSl
  have l1 := ha.len
  have l2 := hb.len
  by_cases h1 : a.c = []
  · rw [h1] at l1
    clear ha hb h h1 l2
    go_enter Try.func70, Try.ntmps70
    go_wp2
    exact bodyPost_ret (v := .agg #[.int .i64 0, .slice none 0 0]) (by simp [results, Try.results70, go_sem]) rfl ⟨_, rfl, ownI_nil _ _, (((Below.refl _ _).alloc (Nat.le_refl _) _).alloc (by simp) _).alloc (by simp; omega) _⟩
  · have h2 : b.c = [] := h.resolve_left h1
    rw [h2] at l2
    obtain ⟨na, hna⟩ : ∃ na, a.c.length = na := ⟨_, rfl⟩
    have hna0 : 0 < na := by rw [← hna]; exact List.length_pos_iff.2 h1
    rw [hna] at l1
    have hnaz : ((na : Int) == 0) = false := by rw [beq_eq_false_iff_ne]; omega
    clear ha hb h h1 h2 hna
    go_enter Try.func70, Try.ntmps70
    go_wp2
    exact bodyPost_ret (v := .agg #[.int .i64 0, .slice none 0 0]) (by simp [results, Try.results70, go_sem]) rfl ⟨_, rfl, ownI_nil _ _, (((Below.refl _ _).alloc (Nat.le_refl _) _).alloc (by simp) _).alloc (by simp; omega) _⟩

set_option maxHeartbeats 4000000 in
set_option maxRecDepth 100000 in
theorem times_some (a b : LP) (sa sb : Value) (w : World) (ha : Ints w sa a.c) (hb : Ints w sb b.c) (hal : a.low.natAbs ≤ 100000) (hbl : b.low.natAbs ≤ 100000) (hac : a.c.length ≤ 100000) (hbc : b.c.length ≤ 100000)
    (hn : n1 a.c * n1 b.c ≤ 4000000000000000000) (hA : a.c ≠ []) (hB : b.c ≠ []) :
    Calls Try.prog 70 #[.agg #[.int .i64 a.low, sa], .agg #[.int .i64 b.low, sb]] w fun e w' => ∃ s, e = .returned (.agg #[.int .i64 (pmul a b).low, s]) ∧ OwnI w' w.heap.size s (pmul a b).c ∧ Below w.heap.size w w' := by
  have s1 := ha.isSl
  have s2 := hb.isSl
  have l1 := ha.len
  have l2 := hb.len
  obtain ⟨na, hna⟩ : ∃ na, a.c.length = na := ⟨_, rfl⟩
  obtain ⟨nb, hnb⟩ : ∃ nb, b.c.length = nb := ⟨_, rfl⟩
  rw [hna] at l1 hac
  rw [hnb] at l2 hbc
  have hna0 : 0 < na := by rw [← hna]; exact List.length_pos_iff.2 hA
  have hnb0 : 0 < nb := by rw [← hnb]; exact List.length_pos_iff.2 hB
  have hnaz : ((na : Int) == 0) = false := by rw [beq_eq_false_iff_ne]; omega
  have hnbz : ((nb : Int) == 0) = false := by rw [beq_eq_false_iff_ne]; omega
  obtain ⟨N, hN⟩ : ∃ N : Nat, (N : Int) = (na : Int) + nb - 1 := ⟨(na + nb - 1), by omega⟩
  have hN1 : na + nb = N + 1 := by omega
  have hN2 : N ≤ 200000 := by omega
  have HNA := Lib.hid hna; have HNB := Lib.hid hnb; clear hna hnb
  have H1 := Lib.hid ha; have H2 := Lib.hid hb; clear ha hb hA hB
  have HN := Lib.hid hn; clear hn
  have HNN := Lib.hid hN; clear hN
  have HN1' := Lib.hid hN1; clear hN1
  obtain ⟨W3, hW3⟩ : ∃ W3, W3 = ((w.alloc (.cells #[.int .i64 a.low, sa] 40)).alloc (.cells #[.int .i64 b.low, sb] 40)).alloc (.cells #[.int .i64 0, .slice none 0 0] 40) := ⟨_, rfl⟩
  have hsz3 : W3.heap.size = w.heap.size + 3 := by rw [hW3]; simp
  have P1 := Lib.hid (show Pair W3 w.heap.size 40 (.int .i64 a.low) sa by rw [hW3]; exact ((pair_new w _ _ _).alloc _).alloc _)
  have P2 := Lib.hid (show Pair W3 (w.heap.size + 1) 40 (.int .i64 b.low) sb by rw [hW3]; have := (pair_new (w.alloc (.cells #[.int .i64 a.low, sa] 40)) 40 (.int .i64 b.low) sb).alloc (.cells #[.int .i64 0, .slice none 0 0] 40); rwa [World.size_alloc] at this)
  have P3 := Lib.hid (show Pair W3 (w.heap.size + 2) 40 (.int .i64 0) (.slice none 0 0) by rw [hW3]; have := pair_new ((w.alloc (.cells #[.int .i64 a.low, sa] 40)).alloc (.cells #[.int .i64 b.low, sb] 40)) 40 (.int .i64 0) (.slice none 0 0); rwa [World.size_alloc, World.size_alloc] at this)
  have B3 := Lib.hid (show Below w.heap.size w W3 by rw [hW3]; exact (((Below.refl _ _).alloc (Nat.le_refl _) _).alloc (by simp) _).alloc (by simp; omega) _)
  have HW3 := Lib.hid hW3.symm; have HSZ3 := Lib.hid hsz3; clear hW3 hsz3
  go_enter Try.func70, Try.ntmps70
  go_wp2_with (at_make; rw [HW3.out]; refine wpList_make rfl _ _ rfl _ _ N rfl rfl (by have := HNN.out; omega) (by have := HNN.out; omega) (by omega) ?_; intro v0 w1 ho1 hg1 hlo1 hsz; have so := ho1.isSl; have hb1 := below_grown_none (Below.refl _ _) hg1; have ST1 := Lib.hid (show PlusSt w w1 a.low b.low sa sb v0 (List.replicate N 0) from ⟨P1.out.below hb1, P2.out.below hb1, P3.out.below hb1, ho1.low (by rw [HSZ3.out]; exact Nat.le_refl _), B3.out.trans (hb1.mono (by rw [HSZ3.out]; omega))⟩); have c1 := ST1.out.p1.cell1; clear ho1 hg1 hb1)
  go_loopw [33] (fun i wr => ∃ (i' : Nat) (cs : List Int), i' ≤ na ∧ i = .int .i64 i' ∧ cs.length = N ∧ PlusSt w wr a.low b.low sa sb v0 cs ∧ (∀ t, evL cs t = evL (a.c.take i') t * evL b.c t) ∧ n1 cs ≤ n1 (a.c.take i') * n1 b.c) (fun i _ => na - (intOf i).toNat)
  case atStart => exact ⟨0, _, Nat.zero_le _, rfl, by simp, ST1.out, fun t => by simp [evL_replicate, evL], by rw [n1_replicate]; omega⟩
  case round =>
    obtain ⟨i, cs, hj, rfl, hcl, hst, hev, hn1⟩ := hrel
    have hok := hst.own.isSl
    have lo' := hst.own.len
    rw [hcl] at lo'
    have q0 := hst.p1.cell0; have q1 := hst.p1.cell1; have q2 := hst.p2.cell0; have q3 := hst.p2.cell1
    have HST := Lib.hid hst; have HEV := Lib.hid hev; have HN1 := Lib.hid hn1; have HCL := Lib.hid hcl; clear hst hev hn1 hcl
    by_cases hlt : i < na
    · have x1 := (H1.out.below (HST.out.below)).cell (k := i) (by have := HNA.out; omega)
      obtain ⟨x, hx⟩ : ∃ x, nth a.c i = x := ⟨_, rfl⟩
      rw [hx] at x1
      have hbx1 := n1_take_succ a.c i (by have := HNA.out; omega)
      have hbx2 := n1_take_le a.c (i + 1)
      rw [hx] at hbx1
      have hmulb : n1 (a.c.take (i + 1)) * n1 b.c = n1 (a.c.take i) * n1 b.c + x.natAbs * n1 b.c := by rw [hbx1, Nat.add_mul]
      have hmull : n1 (a.c.take (i + 1)) * n1 b.c ≤ n1 a.c * n1 b.c := Nat.mul_le_mul_right _ hbx2
      have hevn : ∀ t, evL (a.c.take (i + 1)) t * evL b.c t = evL (a.c.take i) t * evL b.c t + x * (t ^ i * evL b.c t) := fun t => by rw [evL_take_succ _ _ _ (by have := HNA.out; omega), hx]; grind
      have HX := Lib.hid hx; have HMB := Lib.hid hmulb; have HML := Lib.hid hmull; have HEN := Lib.hid hevn; clear hx hbx1 hbx2 hmulb hmull hevn
      go_wp2_with fail
      obtain ⟨W4, hW4⟩ : ∃ W4 : World, W4 = wr := ⟨_, rfl⟩
      subst hW4
      go_loopw [41] (fun ii wr => ∃ (j : Nat) (cs : List Int), j ≤ nb ∧ ii = .int .i64 j ∧ cs.length = N ∧ PlusSt w wr a.low b.low sa sb v0 cs ∧ (∀ t, evL cs t = evL (a.c.take i) t * evL b.c t + x * (t ^ i * evL (b.c.take j) t)) ∧ n1 cs ≤ n1 (a.c.take i) * n1 b.c + x.natAbs * n1 (b.c.take j)) (fun i _ => nb - (intOf i).toNat)
      case atStart => exact ⟨0, _, Nat.zero_le _, rfl, HCL.out, HST.out, fun t => by rw [HEV.out]; exact ev_start _ _ _ _ _, by have := HN1.out; omega⟩
      case round =>
        obtain ⟨j, cs, hj, rfl, hcl, hst, hev, hn1⟩ := hrel
        have hok := hst.own.isSl
        have lo' := hst.own.len
        rw [hcl] at lo'
        have q0 := hst.p1.cell0; have q1 := hst.p1.cell1; have q2 := hst.p2.cell0; have q3 := hst.p2.cell1
        have HST := Lib.hid hst; have HEV := Lib.hid hev; have HN1 := Lib.hid hn1; have HCL := Lib.hid hcl; clear hst hev hn1 hcl
        by_cases hlt2 : j < nb
        · have hdj : i + j < N := by have := HN1'.out; omega
          have x1 := (H2.out.below (HST.out.below)).cell (k := j) (by have := HNB.out; omega)
          have x2 := HST.out.own.cell (k := i + j) (by rw [HCL.out]; exact hdj)
          have x3 := HST.out.own.frozen (k := i + j) (by rw [HCL.out]; exact hdj)
          have hb1 := n1_take_succ b.c j (by have := HNB.out; omega)
          have hb2 := n1_take_le b.c (j + 1)
          have hb3 := n1_nth cs (i + j)
          have hb4 : (x * nth b.c j).natAbs = x.natAbs * (nth b.c j).natAbs := Int.natAbs_mul _ _
          have hb5 : x.natAbs * n1 (b.c.take (j + 1)) ≤ x.natAbs * n1 b.c := Nat.mul_le_mul_left _ hb2
          have hb6 : x.natAbs * n1 (b.c.take (j + 1)) = x.natAbs * n1 (b.c.take j) + (x * nth b.c j).natAbs := by rw [hb1, Nat.mul_add, hb4]
          have HSTEP := Lib.hid (fun t => ev_step (cs := cs) (A := b.c) (d := i) (j := j) HEV.out (by rw [HCL.out]; exact hdj) (by have := HNB.out; omega) t)
          have HNS := Lib.hid (n1_step (x := x * nth b.c j) HN1.out (show i + j < cs.length by rw [HCL.out]; exact hdj))
          have HTS := Lib.hid hb6
          have HSET := Lib.hid (HST.out.set (show i + j < cs.length by rw [HCL.out]; exact hdj) (nth cs (i + j) + x * nth b.c j))
          have hs1 : -9000000000000000000 ≤ nth cs (i + j) + x * nth b.c j := by have := HN.out; have := HN1.out; have := HMB.out; have := HML.out; omega
          have hs2 : nth cs (i + j) + x * nth b.c j ≤ 9000000000000000000 := by have := HN.out; have := HN1.out; have := HMB.out; have := HML.out; omega
          have hs3 : -9000000000000000000 ≤ x * nth b.c j := by have := HN.out; have := HMB.out; have := HML.out; omega
          have hs4 : x * nth b.c j ≤ 9000000000000000000 := by have := HN.out; have := HMB.out; have := HML.out; omega
          clear hb1 hb2 hb3 hb4 hb5 hb6
          go_wp2_with fail
          go_roundw
          case rel => exact ⟨j + 1, _, by omega, by go_num, by rw [List.length_set]; exact HCL.out, HSET.out, fun t => HSTEP.out t, by rw [HTS.out, ← Nat.add_assoc]; exact HNS.out⟩
          case measure => simp [intOf]; omega
        · have hfull : b.c.take j = b.c := List.take_of_length_le (by have := HNB.out; omega)
          have HF2 := Lib.hid hfull; clear hfull
          go_wp2_with fail
          go_roundw
          case rel => exact ⟨i + 1, cs, by omega, by go_num, HCL.out, HST.out, fun t => by rw [HEV.out, HF2.out, HEN.out], by have := HN1.out; rw [HF2.out] at this; rw [HMB.out]; exact this⟩
          case measure => simp [intOf]; omega
    · have hend : trimP (a.low + b.low) cs = pmul a b := by
        refine trimP_eq (pmul_trimmed a b) fun t ht => ?_
        have hfull : a.c.take i = a.c := List.take_of_length_le (by have := HNA.out; omega)
        rw [HEV.out, hfull, ev_pmul a b ht, ev, ev, Rat.zpow_add ht]; grind
      have HEND := Lib.hid hend; clear hend
      go_wp2_with fail
      refine (trim_calls (a.low + b.low) _ cs _ HST.out.own.ints (by rw [HCL.out]; omega) (by omega) (by omega)).mono ?_
      rw [HEND.out]
      rintro z w5 ⟨s, rfl, hs, hb5⟩
      obtain ⟨sa', sn, sc, rfl, -⟩ := hs.isSl.cases
      have hp3 := HST.out.p3.below hb5
      have d0 := hp3.cell0; have d1 := hp3.cell1; have e0 := hp3.free0; have e1 := hp3.free1
      have hlt3 := HST.out.p3.lt
      have HS5 := Lib.hid hs; have HB5 := Lib.hid hb5
      clear hs hb5 hp3
      go_wp2_with fail
      refine bodyPost_ret (v := .agg #[.int .i64 (pmul a b).low, .slice sa' sn sc]) (by simp [results, Try.results70, go_sem, d0, d1]) rfl ⟨_, rfl, ?_, ((HST.out.below.trans (HB5.out.mono (by omega))).setCell (by simp; omega) _).setCell (by simp; omega) _⟩
      exact ((HS5.out.setOther (fun k hk e => by have := (HS5.out.lt k hk).1; simp at e; omega) _).setOther (fun k hk e => by have := (HS5.out.lt k hk).1; simp at e; omega) _).low (by omega)

theorem ltimes_calls (a b : LP) (sa sb : Value) (w : World) (ha : Ints w sa a.c) (hb : Ints w sb b.c) (hal : a.low.natAbs ≤ 100000) (hbl : b.low.natAbs ≤ 100000) (hac : a.c.length ≤ 100000) (hbc : b.c.length ≤ 100000)
    (hn : n1 a.c * n1 b.c ≤ 4000000000000000000) :
    Calls Try.prog 70 #[.agg #[.int .i64 a.low, sa], .agg #[.int .i64 b.low, sb]] w fun e w' => ∃ s, e = .returned (.agg #[.int .i64 (pmul a b).low, s]) ∧ OwnI w' w.heap.size s (pmul a b).c ∧ Below w.heap.size w w' := by
  by_cases h1 : a.c = []
  · exact times_zero a b sa sb w ha hb (.inl h1)
  · by_cases h2 : b.c = []
    · exact times_zero a b sa sb w ha hb (.inr h2)
    · exact times_some a b sa sb w ha hb hal hbl hac hbc hn h1 h2

end Go.Proofs.Ytplekfgadbjgdaa

