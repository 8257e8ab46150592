/- laurent.Term, Plus walked. -/
import Derived.Test.YtplekfgadbjgdaaQTopSums0
import Derived.Test.YtplekfgadbjgdaaQTopSums1
import Derived.Test.YtplekfgadbjgdaaQTopSums3
import Derived.Test.YtplekfgadbjgdaaQTopSums4
import Derived.Test.YtplekfgadbjgdaaQTopSums5
import Derived.Test.YtplekfgadbjgdaaQTopSums6
import Derived.Test.YtplekfgadbjgdaaQTopSums7
import Derived.Test.YtplekfgadbjgdaaQTopSums10
import Derived.Test.YtplekfgadbjgdaaQTopSums11

namespace Go.Proofs.Ytplekfgadbjgdaa
open Go.RowKit Go.Sl

theorem term_calls (c e : Int) (w : World) (h1 : -1000000 ≤ e) (h2 : e ≤ 1000000) :
    Calls Try.prog 71 #[.int .i64 c, .int .i64 e] w fun z w' => ∃ s, z = .returned (.agg #[.int .i64 (pterm c e).low, s]) ∧ OwnI w' w.heap.size s (pterm c e).c ∧ Below w.heap.size w w' := by
  go_enter Try.func71, Try.ntmps71
  go_wp2_with fail
  refine (trim_calls e _ [c] _ (ints_lit [c] (by simp) rfl rfl (by simp)) (by simp) (by omega) (by omega)).mono ?_
  rintro z w1 ⟨s, rfl, hs, hb⟩
  obtain ⟨a, n, cp, rfl, -⟩ := hs.isSl.cases
  have hp := ((pair_new w 40 (.int .i64 0) (.slice none 0 0)).alloc (.cells #[.int .i64 c] 3)).below hb
  have d0 := hp.cell0; have d1 := hp.cell1; have e0 := hp.free0; have e1 := hp.free1
  have HS := Lib.hid hs; have HBB := Lib.hid hb
  clear hs hb hp
  have hts : trimP e [c] = pterm c e := rfl
  rw [hts] at HS ⊢
  go_wp2_with fail
  refine bodyPost_ret (v := .agg #[.int .i64 (pterm c e).low, .slice a n cp]) (by simp [results, Try.results71, go_sem, d0, d1]) rfl ⟨_, rfl, ?_, (((((Below.refl _ _).alloc (Nat.le_refl _) _).alloc (by simp) _).trans (HBB.out.mono (by simp; omega))).setCell (Nat.le_refl _) _).setCell (Nat.le_refl _) _⟩
  have hlo := HS.out.low (B' := w.heap.size + 1) (by simp)
  exact ((hlo.setOther (fun k hk e => by have := (hlo.lt k hk).1; simp at e; omega) _).setOther (fun k hk e => by have := (hlo.lt k hk).1; simp at e; omega) _).low (by omega)

theorem plus_end {a b : LP} {k lo la lb : Int} {cs : List Int} (hla : a.c ≠ [] → la = a.low) (hlb : b.c ≠ [] → lb = b.low) (h1 : lo ≤ la) (h2 : lo ≤ lb)
    (h : ∀ t, evL cs t = t ^ (la - lo).toNat * evL a.c t + k * (t ^ (lb - lo).toNat * evL b.c t)) : trimP lo cs = padd a b k := by
  refine trimP_eq (padd_trimmed a b k) fun t ht => ?_
  have e1 : t ^ lo * (t ^ (la - lo).toNat * evL a.c t) = ev a t := by
    by_cases e : a.c = []
    · rw [ev, e]; simp [evL]
    · rw [pow_shift ht h1, ev, hla e]
  have e2 : t ^ lo * (t ^ (lb - lo).toNat * evL b.c t) = ev b t := by
    by_cases e : b.c = []
    · rw [ev, e]; simp [evL]
    · rw [pow_shift ht h2, ev, hlb e]
  rw [ev_padd a b k ht, h, ← e1, ← e2]; grind

/-- What lies in memory between two rounds of Plus. -/
structure PlusSt (w wr : World) (la lb : Int) (sa sb : Value) (v : Value) (cs : List Int) : Prop where
  p1 : Pair wr w.heap.size 40 (.int .i64 la) sa
  p2 : Pair wr (w.heap.size + 1) 40 (.int .i64 lb) sb
  p3 : Pair wr (w.heap.size + 2) 40 (.int .i64 0) (.slice none 0 0)
  own : OwnI wr (w.heap.size + 3) v cs
  below : Below w.heap.size w wr
theorem PlusSt.set {w wr : World} {la lb : Int} {sa sb : Value} {v : Value} {cs : List Int} (h : PlusSt w wr la lb sa sb v cs) {i : Nat} (hi : i < cs.length) (x : Int) : PlusSt w (wr.setCell (vat v i) (.int .i64 x)) la lb sa sb v (cs.set i x) := by
  have hg : w.heap.size + 3 ≤ vblk v := h.own.ge hi
  exact ⟨h.p1.other (by omega) _ _, h.p2.other (by omega) _ _, h.p3.other (by omega) _ _, h.own.set hi x, h.below.setCell (p := vat v i) (by rw [vat_block]; omega) _⟩

set_option maxHeartbeats 4000000 in
set_option maxRecDepth 100000 in
theorem plus_00 (a b : LP) (k : Int) (sa sb : Value) (w : World) (ha : Ints w sa a.c) (hb : Ints w sb b.c) (hal : a.low.natAbs ≤ 100000) (hbl : b.low.natAbs ≤ 100000) (hac : a.c.length ≤ 100000) (hbc : b.c.length ≤ 100000) (hk : k.natAbs ≤ 1000)
    (hn : n1 a.c + 1000 * n1 b.c ≤ 4000000000000000000) (hA : a.c ≠ []) (hB : b.c ≠ []) :
    Calls Try.prog 77 #[.agg #[.int .i64 a.low, sa], .agg #[.int .i64 b.low, sb], .int .i64 k] w fun e w' => ∃ s, e = .returned (.agg #[.int .i64 (padd a b k).low, s]) ∧ OwnI w' w.heap.size s (padd a b k).c ∧ Below w.heap.size w w' := by
  have s1 := ha.isSl
  have s2 := hb.isSl
  have l1 := ha.len
  have l2 := hb.len
  obtain ⟨na, hna⟩ : ∃ na, a.c.length = na := ⟨_, rfl⟩
  obtain ⟨nb, hnb⟩ : ∃ nb, b.c.length = nb := ⟨_, rfl⟩
  rw [hna] at l1 hac
  rw [hnb] at l2 hbc
  have hna0 : 0 < na := by rw [← hna]; exact List.length_pos_iff.2 hA
  have hnb0 : 0 < nb := by rw [← hnb]; exact List.length_pos_iff.2 hB
  have hnaz : ((na : Int) == 0) = false := by rw [beq_eq_false_iff_ne]; omega
  have hnbz : ((nb : Int) == 0) = false := by rw [beq_eq_false_iff_ne]; omega
  obtain ⟨lo, hlo⟩ : ∃ lo : Int, lo = min a.low b.low := ⟨_, rfl⟩
  obtain ⟨N, hN⟩ : ∃ N : Nat, (N : Int) = max (a.low + na) (b.low + nb) - lo := ⟨(max (a.low + na) (b.low + nb) - lo).toNat, by omega⟩
  have hla : lo ≤ a.low := by omega
  have hlb : lo ≤ b.low := by omega
  obtain ⟨da, hda⟩ : ∃ da : Nat, (da : Int) = a.low - lo := ⟨(a.low - lo).toNat, by omega⟩
  obtain ⟨db, hdb⟩ : ∃ db : Nat, (db : Int) = b.low - lo := ⟨(b.low - lo).toNat, by omega⟩
  have hdaN : da + na ≤ N := by omega
  have hdbN : db + nb ≤ N := by omega
  have hN1 : N ≤ 1000000 := by omega
  have hlo1 : -1000000 ≤ lo := by omega
  have hlo2 : lo ≤ 1000000 := by omega
  have HNA := Lib.hid hna; have HNB := Lib.hid hnb; clear hna hnb
  have H1 := Lib.hid ha; have H2 := Lib.hid hb; clear ha hb
  have HN := Lib.hid hn; clear hn
  have HHA := Lib.hid hA; have HHB := Lib.hid hB; clear hA hB
  have HLO := Lib.hid hlo.symm; have HNN := Lib.hid hN; have HDA := Lib.hid hda; have HDB := Lib.hid hdb; clear hlo hN hda hdb
  obtain ⟨W3, hW3⟩ : ∃ W3, W3 = ((w.alloc (.cells #[.int .i64 (a.low), sa] 40)).alloc (.cells #[.int .i64 (b.low), sb] 40)).alloc (.cells #[.int .i64 0, .slice none 0 0] 40) := ⟨_, rfl⟩
  have hsz3 : W3.heap.size = w.heap.size + 3 := by rw [hW3]; simp
  have P1 := Lib.hid (show Pair W3 w.heap.size 40 (.int .i64 (a.low)) sa by rw [hW3]; exact ((pair_new w _ _ _).alloc _).alloc _)
  have P2 := Lib.hid (show Pair W3 (w.heap.size + 1) 40 (.int .i64 (b.low)) sb by rw [hW3]; have := (pair_new (w.alloc (.cells #[.int .i64 (a.low), sa] 40)) 40 (.int .i64 (b.low)) sb).alloc (.cells #[.int .i64 0, .slice none 0 0] 40); rwa [World.size_alloc] at this)
  have P3 := Lib.hid (show Pair W3 (w.heap.size + 2) 40 (.int .i64 0) (.slice none 0 0) by rw [hW3]; have := pair_new ((w.alloc (.cells #[.int .i64 (a.low), sa] 40)).alloc (.cells #[.int .i64 (b.low), sb] 40)) 40 (.int .i64 0) (.slice none 0 0); rwa [World.size_alloc, World.size_alloc] at this)
  have B3 := Lib.hid (show Below w.heap.size w W3 by rw [hW3]; exact (((Below.refl _ _).alloc (Nat.le_refl _) _).alloc (by simp) _).alloc (by simp; omega) _)
  have HW3 := Lib.hid hW3.symm; have HSZ3 := Lib.hid hsz3; clear hW3 hsz3
  go_enter Try.func77, Try.ntmps77
  go_wp2_with (at_make; rw [HW3.out]; refine wpList_make rfl _ _ rfl _ _ N rfl rfl (by have := HNN.out; have := HLO.out; omega) (by have := HNN.out; have := HLO.out; omega) (by omega) ?_; intro v0 w1 ho1 hg1 hlo1 hsz; have so := ho1.isSl; have hb1 := below_grown_none (Below.refl _ _) hg1; have ST1 := Lib.hid (show PlusSt w w1 (a.low) (b.low) sa sb v0 (List.replicate N 0) from ⟨P1.out.below hb1, P2.out.below hb1, P3.out.below hb1, ho1.low (by rw [HSZ3.out]; exact Nat.le_refl _), B3.out.trans (hb1.mono (by rw [HSZ3.out]; omega))⟩); have c1 := ST1.out.p1.cell1; clear ho1 hg1 hb1)
  go_loopw [51] (fun i wr => ∃ (j : Nat) (cs : List Int), j ≤ na ∧ i = .int .i64 j ∧ cs.length = N ∧ PlusSt w wr (a.low) (b.low) sa sb v0 cs ∧ (∀ t, evL cs t = t ^ da * evL (a.c.take j) t) ∧ n1 cs ≤ n1 (a.c.take j)) (fun i _ => na - (intOf i).toNat)
  case atStart => exact ⟨0, _, Nat.zero_le _, rfl, by simp, ST1.out, fun t => by simp [evL_replicate, evL], by rw [n1_replicate]; omega⟩
  case round =>
    obtain ⟨j, cs, hj, rfl, hcl, hst, hev, hn1⟩ := hrel
    have hok := hst.own.isSl
    have lo' := hst.own.len
    rw [hcl] at lo'
    have q0 := hst.p1.cell0; have q1 := hst.p1.cell1; have q2 := hst.p2.cell0; have q3 := hst.p2.cell1
    have HST := Lib.hid hst; have HEV := Lib.hid hev; have HN1 := Lib.hid hn1; have HCL := Lib.hid hcl; clear hst hev hn1 hcl
    by_cases hlt : j < na
    · have hidx : (a.low - min a.low b.low + (j : Int)).toNat = da + j := by have := HDA.out; have := HLO.out; omega
      have hdj : da + j < N := by omega
      have x1 := (H1.out.below (HST.out.below)).cell (k := j) (by have := HNA.out; omega)
      have x2 := HST.out.own.cell (k := (a.low - min a.low b.low + (j : Int)).toNat) (by rw [hidx, HCL.out]; exact hdj)
      have x3 := HST.out.own.frozen (k := (a.low - min a.low b.low + (j : Int)).toNat) (by rw [hidx, HCL.out]; exact hdj)
      have hb1 := n1_take_succ a.c j (by have := HNA.out; omega)
      have hb2 := n1_take_le a.c (j + 1)
      have hb3 := n1_nth cs ((a.low - min a.low b.low + (j : Int)).toNat)
      have HSTEP := Lib.hid (fun t => ev_step1 (cs := cs) (A := a.c) (d := da) (j := j) HEV.out (by rw [HCL.out]; exact hdj) (by have := HNA.out; omega) t)
      have HNS := Lib.hid (n1_step (x := nth a.c j) HN1.out (show da + j < cs.length by rw [HCL.out]; exact hdj))
      have HTS := Lib.hid hb1
      have HSET := Lib.hid (HST.out.set (show (a.low - min a.low b.low + (j : Int)).toNat < cs.length by rw [hidx, HCL.out]; exact hdj) (nth cs ((a.low - min a.low b.low + (j : Int)).toNat) + nth a.c j))
      have hs1 : -9000000000000000000 ≤ nth cs ((a.low - min a.low b.low + (j : Int)).toNat) + nth a.c j := by have := HN.out; have := HN1.out; omega
      have hs2 : nth cs ((a.low - min a.low b.low + (j : Int)).toNat) + nth a.c j ≤ 9000000000000000000 := by have := HN.out; have := HN1.out; omega
      have hi1 : 0 ≤ a.low - min a.low b.low + (j : Int) := by omega
      have hi2 : a.low - min a.low b.low + (j : Int) < N := by have := HDA.out; have := HLO.out; omega
      have HIDX := Lib.hid hidx; clear hidx hb1 hb2 hb3
      go_wp2_with fail
      go_roundw
      case rel => exact ⟨j + 1, _, by omega, by go_num, by rw [List.length_set]; exact HCL.out, HSET.out, fun t => by have h := HSTEP.out t; rw [← HIDX.out] at h; exact h, by have h := HNS.out; rw [← HIDX.out] at h; rw [HTS.out]; exact h⟩
      case measure => simp [intOf]; omega
    · have hje : j = na := by omega
      have hfull : a.c.take j = a.c := List.take_of_length_le (by have := HNA.out; omega)
      have HF := Lib.hid hfull; clear hfull hje
      go_wp2_with fail
      obtain ⟨W4, hW4⟩ : ∃ W4 : World, W4 = wr := ⟨_, rfl⟩
      subst hW4
      go_loopw [72] (fun i wr => ∃ (j : Nat) (cs : List Int), j ≤ nb ∧ i = .int .i64 j ∧ cs.length = N ∧ PlusSt w wr (a.low) (b.low) sa sb v0 cs ∧ (∀ t, evL cs t = t ^ da * evL a.c t + k * (t ^ db * evL (b.c.take j) t)) ∧ n1 cs ≤ n1 a.c + k.natAbs * n1 (b.c.take j)) (fun i _ => nb - (intOf i).toNat)
      case atStart => exact ⟨0, _, Nat.zero_le _, rfl, HCL.out, HST.out, fun t => by rw [HEV.out, HF.out]; exact ev_start _ _ _ _ _, by have := HN1.out; rw [HF.out] at this; omega⟩
      case round =>
        obtain ⟨j, cs, hj, rfl, hcl, hst, hev, hn1⟩ := hrel
        have hok := hst.own.isSl
        have lo' := hst.own.len
        rw [hcl] at lo'
        have q0 := hst.p1.cell0; have q1 := hst.p1.cell1; have q2 := hst.p2.cell0; have q3 := hst.p2.cell1
        have HST := Lib.hid hst; have HEV := Lib.hid hev; have HN1 := Lib.hid hn1; have HCL := Lib.hid hcl; clear hst hev hn1 hcl
        by_cases hlt : j < nb
        · have hidx : (b.low - min a.low b.low + (j : Int)).toNat = db + j := by have := HDB.out; have := HLO.out; omega
          have hdj : db + j < N := by omega
          have x1 := (H2.out.below (HST.out.below)).cell (k := j) (by have := HNB.out; omega)
          have x2 := HST.out.own.cell (k := (b.low - min a.low b.low + (j : Int)).toNat) (by rw [hidx, HCL.out]; exact hdj)
          have x3 := HST.out.own.frozen (k := (b.low - min a.low b.low + (j : Int)).toNat) (by rw [hidx, HCL.out]; exact hdj)
          have hb1 := n1_take_succ b.c j (by have := HNB.out; omega)
          have hb2 := n1_take_le b.c (j + 1)
          have hb3 := n1_nth cs ((b.low - min a.low b.low + (j : Int)).toNat)
          have hb4 : (k * nth b.c j).natAbs = k.natAbs * (nth b.c j).natAbs := Int.natAbs_mul _ _
          have hb5 : k.natAbs * n1 (b.c.take (j + 1)) ≤ 1000 * n1 b.c := Nat.mul_le_mul hk hb2
          have hb6 : k.natAbs * n1 (b.c.take (j + 1)) = k.natAbs * n1 (b.c.take j) + (k * nth b.c j).natAbs := by rw [hb1, Nat.mul_add, hb4]
          have HSTEP := Lib.hid (fun t => ev_step (cs := cs) (A := b.c) (d := db) (j := j) HEV.out (by rw [HCL.out]; exact hdj) (by have := HNB.out; omega) t)
          have HNS := Lib.hid (n1_step (x := k * nth b.c j) HN1.out (show db + j < cs.length by rw [HCL.out]; exact hdj))
          have HTS := Lib.hid hb6
          have HSET := Lib.hid (HST.out.set (show (b.low - min a.low b.low + (j : Int)).toNat < cs.length by rw [hidx, HCL.out]; exact hdj) (nth cs ((b.low - min a.low b.low + (j : Int)).toNat) + k * nth b.c j))
          have hs1 : -9000000000000000000 ≤ nth cs ((b.low - min a.low b.low + (j : Int)).toNat) + k * nth b.c j := by have := HN.out; have := HN1.out; omega
          have hs2 : nth cs ((b.low - min a.low b.low + (j : Int)).toNat) + k * nth b.c j ≤ 9000000000000000000 := by have := HN.out; have := HN1.out; omega
          have hs3 : -9000000000000000000 ≤ k * nth b.c j := by have := HN.out; omega
          have hs4 : k * nth b.c j ≤ 9000000000000000000 := by have := HN.out; omega
          have hi1 : 0 ≤ b.low - min a.low b.low + (j : Int) := by omega
          have hi2 : b.low - min a.low b.low + (j : Int) < N := by have := HDB.out; have := HLO.out; omega
          have HIDX := Lib.hid hidx; clear hidx hb1 hb2 hb3 hb4 hb5 hb6
          go_wp2_with fail
          go_roundw
          case rel => exact ⟨j + 1, _, by omega, by go_num, by rw [List.length_set]; exact HCL.out, HSET.out, fun t => by have h := HSTEP.out t; rw [← HIDX.out] at h; exact h, by have h := HNS.out; rw [← HIDX.out] at h; rw [HTS.out, ← Nat.add_assoc]; exact h⟩
          case measure => simp [intOf]; omega
        · have hfull : b.c.take j = b.c := List.take_of_length_le (by have := HNB.out; omega)
          have HF2 := Lib.hid hfull; clear hfull
          have hje : j = nb := by omega
          have hda' : (((a.low) - lo).toNat) = da := by have := HDA.out; have := HLO.out; omega
          have hdb' : (((b.low) - lo).toNat) = db := by have := HDB.out; have := HLO.out; omega
          have hend : trimP lo cs = padd a b k := plus_end (la := a.low) (lb := b.low) (fun _ => rfl) (fun _ => rfl) (by omega) (by omega) (fun t => by have h := HEV.out t; rw [HF2.out, ← hda', ← hdb'] at h; exact h)
          have HEND := Lib.hid hend; clear hend hda' hdb' hje
          go_wp2_with fail
          simp only [HLO.out]
          refine (trim_calls lo _ cs _ HST.out.own.ints (by rw [HCL.out]; omega) (by omega) (by omega)).mono ?_
          rw [HEND.out]
          rintro z w5 ⟨s, rfl, hs, hb5⟩
          obtain ⟨sa', sn, sc, rfl, -⟩ := hs.isSl.cases
          have hp3 := HST.out.p3.below hb5
          have d0 := hp3.cell0; have d1 := hp3.cell1; have e0 := hp3.free0; have e1 := hp3.free1
          have hlt3 := HST.out.p3.lt
          have HS5 := Lib.hid hs; have HB5 := Lib.hid hb5
          clear hs hb5 hp3
          go_wp2_with fail
          refine bodyPost_ret (v := .agg #[.int .i64 (padd a b k).low, .slice sa' sn sc]) (by simp [results, Try.results77, go_sem, d0, d1]) rfl ⟨_, rfl, ?_, ((HST.out.below.trans (HB5.out.mono (by omega))).setCell (by simp; omega) _).setCell (by simp; omega) _⟩
          exact ((HS5.out.setOther (fun k hk e => by have := (HS5.out.lt k hk).1; simp at e; omega) _).setOther (fun k hk e => by have := (HS5.out.lt k hk).1; simp at e; omega) _).low (by omega)

set_option maxHeartbeats 4000000 in
set_option maxRecDepth 100000 in
theorem plus_01 (a b : LP) (k : Int) (sa sb : Value) (w : World) (ha : Ints w sa a.c) (hb : Ints w sb b.c) (hal : a.low.natAbs ≤ 100000) (_hbl : b.low.natAbs ≤ 100000) (hac : a.c.length ≤ 100000) (hbc : b.c.length ≤ 100000) (_hk : k.natAbs ≤ 1000)
    (hn : n1 a.c + 1000 * n1 b.c ≤ 4000000000000000000) (hA : a.c ≠ []) (hB : b.c = []) :
    Calls Try.prog 77 #[.agg #[.int .i64 a.low, sa], .agg #[.int .i64 b.low, sb], .int .i64 k] w fun e w' => ∃ s, e = .returned (.agg #[.int .i64 (padd a b k).low, s]) ∧ OwnI w' w.heap.size s (padd a b k).c ∧ Below w.heap.size w w' := by
  have s1 := ha.isSl
  have s2 := hb.isSl
  have l1 := ha.len
  have l2 := hb.len
  obtain ⟨na, hna⟩ : ∃ na, a.c.length = na := ⟨_, rfl⟩
  obtain ⟨nb, hnb⟩ : ∃ nb, b.c.length = nb := ⟨_, rfl⟩
  rw [hna] at l1 hac
  rw [hnb] at l2 hbc
  have hna0 : 0 < na := by rw [← hna]; exact List.length_pos_iff.2 hA
  have hnb0 : nb = 0 := by rw [← hnb, hB]; rfl
  have hnaz : ((na : Int) == 0) = false := by rw [beq_eq_false_iff_ne]; omega
  subst hnb0
  obtain ⟨lo, hlo⟩ : ∃ lo : Int, lo = min a.low a.low := ⟨_, rfl⟩
  obtain ⟨N, hN⟩ : ∃ N : Nat, (N : Int) = max (a.low + na) (a.low + 0) - lo := ⟨(max (a.low + na) (a.low + 0) - lo).toNat, by omega⟩
  have hla : lo ≤ a.low := by omega
  have hlb : lo ≤ a.low := by omega
  obtain ⟨da, hda⟩ : ∃ da : Nat, (da : Int) = a.low - lo := ⟨(a.low - lo).toNat, by omega⟩
  obtain ⟨db, hdb⟩ : ∃ db : Nat, (db : Int) = a.low - lo := ⟨(a.low - lo).toNat, by omega⟩
  have hdaN : da + na ≤ N := by omega
  have hdbN : db + 0 ≤ N := by omega
  have hN1 : N ≤ 1000000 := by omega
  have hlo1 : -1000000 ≤ lo := by omega
  have hlo2 : lo ≤ 1000000 := by omega
  have HNA := Lib.hid hna; have HNB := Lib.hid hnb; clear hna hnb
  have H1 := Lib.hid ha; have H2 := Lib.hid hb; clear ha hb
  have HN := Lib.hid hn; clear hn
  have HHA := Lib.hid hA; have HHB := Lib.hid hB; clear hA hB
  have HLO := Lib.hid hlo.symm; have HNN := Lib.hid hN; have HDA := Lib.hid hda; have HDB := Lib.hid hdb; clear hlo hN hda hdb
  obtain ⟨W3, hW3⟩ : ∃ W3, W3 = ((w.alloc (.cells #[.int .i64 (a.low), sa] 40)).alloc (.cells #[.int .i64 (a.low), sb] 40)).alloc (.cells #[.int .i64 0, .slice none 0 0] 40) := ⟨_, rfl⟩
  have hsz3 : W3.heap.size = w.heap.size + 3 := by rw [hW3]; simp
  have P1 := Lib.hid (show Pair W3 w.heap.size 40 (.int .i64 (a.low)) sa by rw [hW3]; exact ((pair_new w _ _ _).alloc _).alloc _)
  have P2 := Lib.hid (show Pair W3 (w.heap.size + 1) 40 (.int .i64 (a.low)) sb by rw [hW3]; have := (pair_new (w.alloc (.cells #[.int .i64 (a.low), sa] 40)) 40 (.int .i64 (a.low)) sb).alloc (.cells #[.int .i64 0, .slice none 0 0] 40); rwa [World.size_alloc] at this)
  have P3 := Lib.hid (show Pair W3 (w.heap.size + 2) 40 (.int .i64 0) (.slice none 0 0) by rw [hW3]; have := pair_new ((w.alloc (.cells #[.int .i64 (a.low), sa] 40)).alloc (.cells #[.int .i64 (a.low), sb] 40)) 40 (.int .i64 0) (.slice none 0 0); rwa [World.size_alloc, World.size_alloc] at this)
  have B3 := Lib.hid (show Below w.heap.size w W3 by rw [hW3]; exact (((Below.refl _ _).alloc (Nat.le_refl _) _).alloc (by simp) _).alloc (by simp; omega) _)
  have HW3 := Lib.hid hW3.symm; have HSZ3 := Lib.hid hsz3; clear hW3 hsz3
  go_enter Try.func77, Try.ntmps77
  go_wp2_with (at_make; rw [HW3.out]; refine wpList_make rfl _ _ rfl _ _ N rfl rfl (by have := HNN.out; have := HLO.out; omega) (by have := HNN.out; have := HLO.out; omega) (by omega) ?_; intro v0 w1 ho1 hg1 hlo1 hsz; have so := ho1.isSl; have hb1 := below_grown_none (Below.refl _ _) hg1; have ST1 := Lib.hid (show PlusSt w w1 (a.low) (a.low) sa sb v0 (List.replicate N 0) from ⟨P1.out.below hb1, P2.out.below hb1, P3.out.below hb1, ho1.low (by rw [HSZ3.out]; exact Nat.le_refl _), B3.out.trans (hb1.mono (by rw [HSZ3.out]; omega))⟩); have c1 := ST1.out.p1.cell1; clear ho1 hg1 hb1)
  go_loopw [51] (fun i wr => ∃ (j : Nat) (cs : List Int), j ≤ na ∧ i = .int .i64 j ∧ cs.length = N ∧ PlusSt w wr (a.low) (a.low) sa sb v0 cs ∧ (∀ t, evL cs t = t ^ da * evL (a.c.take j) t) ∧ n1 cs ≤ n1 (a.c.take j)) (fun i _ => na - (intOf i).toNat)
  case atStart => exact ⟨0, _, Nat.zero_le _, rfl, by simp, ST1.out, fun t => by simp [evL_replicate, evL], by rw [n1_replicate]; omega⟩
  case round =>
    obtain ⟨j, cs, hj, rfl, hcl, hst, hev, hn1⟩ := hrel
    have hok := hst.own.isSl
    have lo' := hst.own.len
    rw [hcl] at lo'
    have q0 := hst.p1.cell0; have q1 := hst.p1.cell1; have q2 := hst.p2.cell0; have q3 := hst.p2.cell1
    have HST := Lib.hid hst; have HEV := Lib.hid hev; have HN1 := Lib.hid hn1; have HCL := Lib.hid hcl; clear hst hev hn1 hcl
    by_cases hlt : j < na
    · have hidx : j = da + j := by have := HDA.out; have := HLO.out; omega
      have hdj : da + j < N := by omega
      have x1 := (H1.out.below (HST.out.below)).cell (k := j) (by have := HNA.out; omega)
      have x2 := HST.out.own.cell (k := j) (by rw [hidx, HCL.out]; exact hdj)
      have x3 := HST.out.own.frozen (k := j) (by rw [hidx, HCL.out]; exact hdj)
      have hb1 := n1_take_succ a.c j (by have := HNA.out; omega)
      have hb2 := n1_take_le a.c (j + 1)
      have hb3 := n1_nth cs (j)
      have HSTEP := Lib.hid (fun t => ev_step1 (cs := cs) (A := a.c) (d := da) (j := j) HEV.out (by rw [HCL.out]; exact hdj) (by have := HNA.out; omega) t)
      have HNS := Lib.hid (n1_step (x := nth a.c j) HN1.out (show da + j < cs.length by rw [HCL.out]; exact hdj))
      have HTS := Lib.hid hb1
      have HSET := Lib.hid (HST.out.set (show j < cs.length by rw [hidx, HCL.out]; exact hdj) (nth cs (j) + nth a.c j))
      have hs1 : -9000000000000000000 ≤ nth cs (j) + nth a.c j := by have := HN.out; have := HN1.out; omega
      have hs2 : nth cs (j) + nth a.c j ≤ 9000000000000000000 := by have := HN.out; have := HN1.out; omega
      have hi1 : 0 ≤ (j : Int) := by omega
      have hi2 : (j : Int) < N := by have := HDA.out; have := HLO.out; omega
      have HIDX := Lib.hid hidx; clear hidx hb1 hb2 hb3
      go_wp2_with fail
      go_roundw
      case rel => exact ⟨j + 1, _, by omega, by go_num, by rw [List.length_set]; exact HCL.out, HSET.out, fun t => by have h := HSTEP.out t; rw [← HIDX.out] at h; exact h, by have h := HNS.out; rw [← HIDX.out] at h; rw [HTS.out]; exact h⟩
      case measure => simp [intOf]; omega
    · have hje : j = na := by omega
      have hfull : a.c.take j = a.c := List.take_of_length_le (by have := HNA.out; omega)
      have HF := Lib.hid hfull; clear hfull hje
      go_wp2_with fail
      obtain ⟨W4, hW4⟩ : ∃ W4 : World, W4 = wr := ⟨_, rfl⟩
      subst hW4
      go_loopw [72] (fun i wr => ∃ (j : Nat) (cs : List Int), j ≤ 0 ∧ i = .int .i64 j ∧ cs.length = N ∧ PlusSt w wr (a.low) (a.low) sa sb v0 cs ∧ (∀ t, evL cs t = t ^ da * evL a.c t + k * (t ^ db * evL (b.c.take j) t)) ∧ n1 cs ≤ n1 a.c + k.natAbs * n1 (b.c.take j)) (fun i _ => 0 - (intOf i).toNat)
      case atStart => exact ⟨0, _, Nat.zero_le _, rfl, HCL.out, HST.out, fun t => by rw [HEV.out, HF.out]; exact ev_start _ _ _ _ _, by have := HN1.out; rw [HF.out] at this; omega⟩
      case round =>
        obtain ⟨j, cs, hj, rfl, hcl, hst, hev, hn1⟩ := hrel
        have hok := hst.own.isSl
        have lo' := hst.own.len
        rw [hcl] at lo'
        have q0 := hst.p1.cell0; have q1 := hst.p1.cell1; have q2 := hst.p2.cell0; have q3 := hst.p2.cell1
        have HST := Lib.hid hst; have HEV := Lib.hid hev; have HN1 := Lib.hid hn1; have HCL := Lib.hid hcl; clear hst hev hn1 hcl
        by_cases hlt : j < 0
        · exact absurd hlt (Nat.not_lt_zero _)
        · have hfull : b.c.take j = b.c := List.take_of_length_le (by have := HNB.out; omega)
          have HF2 := Lib.hid hfull; clear hfull
          have hje : j = 0 := by omega
          have hda' : (((a.low) - a.low).toNat) = da := by have := HDA.out; have := HLO.out; omega
          have hdb' : (((a.low) - a.low).toNat) = db := by have := HDB.out; have := HLO.out; omega
          have hend : trimP a.low cs = padd a b k := plus_end (la := a.low) (lb := a.low) (fun _ => rfl) (fun h => absurd HHB.out h) (by omega) (by omega) (fun t => by have h := HEV.out t; rw [HF2.out, ← hda', ← hdb'] at h; exact h)
          have HEND := Lib.hid hend; clear hend hda' hdb' hje
          go_wp2_with fail
          skip
          refine (trim_calls a.low _ cs _ HST.out.own.ints (by rw [HCL.out]; omega) (by omega) (by omega)).mono ?_
          rw [HEND.out]
          rintro z w5 ⟨s, rfl, hs, hb5⟩
          obtain ⟨sa', sn, sc, rfl, -⟩ := hs.isSl.cases
          have hp3 := HST.out.p3.below hb5
          have d0 := hp3.cell0; have d1 := hp3.cell1; have e0 := hp3.free0; have e1 := hp3.free1
          have hlt3 := HST.out.p3.lt
          have HS5 := Lib.hid hs; have HB5 := Lib.hid hb5
          clear hs hb5 hp3
          go_wp2_with fail
          refine bodyPost_ret (v := .agg #[.int .i64 (padd a b k).low, .slice sa' sn sc]) (by simp [results, Try.results77, go_sem, d0, d1]) rfl ⟨_, rfl, ?_, ((HST.out.below.trans (HB5.out.mono (by omega))).setCell (by simp; omega) _).setCell (by simp; omega) _⟩
          exact ((HS5.out.setOther (fun k hk e => by have := (HS5.out.lt k hk).1; simp at e; omega) _).setOther (fun k hk e => by have := (HS5.out.lt k hk).1; simp at e; omega) _).low (by omega)

set_option maxHeartbeats 4000000 in
set_option maxRecDepth 100000 in
theorem plus_10 (a b : LP) (k : Int) (sa sb : Value) (w : World) (ha : Ints w sa a.c) (hb : Ints w sb b.c) (_hal : a.low.natAbs ≤ 100000) (hbl : b.low.natAbs ≤ 100000) (hac : a.c.length ≤ 100000) (hbc : b.c.length ≤ 100000) (hk : k.natAbs ≤ 1000)
    (hn : n1 a.c + 1000 * n1 b.c ≤ 4000000000000000000) (hA : a.c = []) (hB : b.c ≠ []) :
    Calls Try.prog 77 #[.agg #[.int .i64 a.low, sa], .agg #[.int .i64 b.low, sb], .int .i64 k] w fun e w' => ∃ s, e = .returned (.agg #[.int .i64 (padd a b k).low, s]) ∧ OwnI w' w.heap.size s (padd a b k).c ∧ Below w.heap.size w w' := by
  have s1 := ha.isSl
  have s2 := hb.isSl
  have l1 := ha.len
  have l2 := hb.len
  obtain ⟨na, hna⟩ : ∃ na, a.c.length = na := ⟨_, rfl⟩
  obtain ⟨nb, hnb⟩ : ∃ nb, b.c.length = nb := ⟨_, rfl⟩
  rw [hna] at l1 hac
  rw [hnb] at l2 hbc
  have hna0 : na = 0 := by rw [← hna, hA]; rfl
  have hnb0 : 0 < nb := by rw [← hnb]; exact List.length_pos_iff.2 hB
  subst hna0
  have hnbz : ((nb : Int) == 0) = false := by rw [beq_eq_false_iff_ne]; omega
  obtain ⟨lo, hlo⟩ : ∃ lo : Int, lo = min b.low b.low := ⟨_, rfl⟩
  obtain ⟨N, hN⟩ : ∃ N : Nat, (N : Int) = max (b.low + 0) (b.low + nb) - lo := ⟨(max (b.low + 0) (b.low + nb) - lo).toNat, by omega⟩
  have hla : lo ≤ b.low := by omega
  have hlb : lo ≤ b.low := by omega
  obtain ⟨da, hda⟩ : ∃ da : Nat, (da : Int) = b.low - lo := ⟨(b.low - lo).toNat, by omega⟩
  obtain ⟨db, hdb⟩ : ∃ db : Nat, (db : Int) = b.low - lo := ⟨(b.low - lo).toNat, by omega⟩
  have hdaN : da + 0 ≤ N := by omega
  have hdbN : db + nb ≤ N := by omega
  have hN1 : N ≤ 1000000 := by omega
  have hlo1 : -1000000 ≤ lo := by omega
  have hlo2 : lo ≤ 1000000 := by omega
  have HNA := Lib.hid hna; have HNB := Lib.hid hnb; clear hna hnb
  have H1 := Lib.hid ha; have H2 := Lib.hid hb; clear ha hb
  have HN := Lib.hid hn; clear hn
  have HHA := Lib.hid hA; have HHB := Lib.hid hB; clear hA hB
  have HLO := Lib.hid hlo.symm; have HNN := Lib.hid hN; have HDA := Lib.hid hda; have HDB := Lib.hid hdb; clear hlo hN hda hdb
  obtain ⟨W3, hW3⟩ : ∃ W3, W3 = ((w.alloc (.cells #[.int .i64 (b.low), sa] 40)).alloc (.cells #[.int .i64 (b.low), sb] 40)).alloc (.cells #[.int .i64 0, .slice none 0 0] 40) := ⟨_, rfl⟩
  have hsz3 : W3.heap.size = w.heap.size + 3 := by rw [hW3]; simp
  have P1 := Lib.hid (show Pair W3 w.heap.size 40 (.int .i64 (b.low)) sa by rw [hW3]; exact ((pair_new w _ _ _).alloc _).alloc _)
  have P2 := Lib.hid (show Pair W3 (w.heap.size + 1) 40 (.int .i64 (b.low)) sb by rw [hW3]; have := (pair_new (w.alloc (.cells #[.int .i64 (b.low), sa] 40)) 40 (.int .i64 (b.low)) sb).alloc (.cells #[.int .i64 0, .slice none 0 0] 40); rwa [World.size_alloc] at this)
  have P3 := Lib.hid (show Pair W3 (w.heap.size + 2) 40 (.int .i64 0) (.slice none 0 0) by rw [hW3]; have := pair_new ((w.alloc (.cells #[.int .i64 (b.low), sa] 40)).alloc (.cells #[.int .i64 (b.low), sb] 40)) 40 (.int .i64 0) (.slice none 0 0); rwa [World.size_alloc, World.size_alloc] at this)
  have B3 := Lib.hid (show Below w.heap.size w W3 by rw [hW3]; exact (((Below.refl _ _).alloc (Nat.le_refl _) _).alloc (by simp) _).alloc (by simp; omega) _)
  have HW3 := Lib.hid hW3.symm; have HSZ3 := Lib.hid hsz3; clear hW3 hsz3
  go_enter Try.func77, Try.ntmps77
  go_wp2_with (at_make; rw [HW3.out]; refine wpList_make rfl _ _ rfl _ _ N rfl rfl (by have := HNN.out; have := HLO.out; omega) (by have := HNN.out; have := HLO.out; omega) (by omega) ?_; intro v0 w1 ho1 hg1 hlo1 hsz; have so := ho1.isSl; have hb1 := below_grown_none (Below.refl _ _) hg1; have ST1 := Lib.hid (show PlusSt w w1 (b.low) (b.low) sa sb v0 (List.replicate N 0) from ⟨P1.out.below hb1, P2.out.below hb1, P3.out.below hb1, ho1.low (by rw [HSZ3.out]; exact Nat.le_refl _), B3.out.trans (hb1.mono (by rw [HSZ3.out]; omega))⟩); have c1 := ST1.out.p1.cell1; clear ho1 hg1 hb1)
  go_loopw [51] (fun i wr => ∃ (j : Nat) (cs : List Int), j ≤ 0 ∧ i = .int .i64 j ∧ cs.length = N ∧ PlusSt w wr (b.low) (b.low) sa sb v0 cs ∧ (∀ t, evL cs t = t ^ da * evL (a.c.take j) t) ∧ n1 cs ≤ n1 (a.c.take j)) (fun i _ => 0 - (intOf i).toNat)
  case atStart => exact ⟨0, _, Nat.zero_le _, rfl, by simp, ST1.out, fun t => by simp [evL_replicate, evL], by rw [n1_replicate]; omega⟩
  case round =>
    obtain ⟨j, cs, hj, rfl, hcl, hst, hev, hn1⟩ := hrel
    have hok := hst.own.isSl
    have lo' := hst.own.len
    rw [hcl] at lo'
    have q0 := hst.p1.cell0; have q1 := hst.p1.cell1; have q2 := hst.p2.cell0; have q3 := hst.p2.cell1
    have HST := Lib.hid hst; have HEV := Lib.hid hev; have HN1 := Lib.hid hn1; have HCL := Lib.hid hcl; clear hst hev hn1 hcl
    by_cases hlt : j < 0
    · exact absurd hlt (Nat.not_lt_zero _)
    · have hje : j = 0 := by omega
      have hfull : a.c.take j = a.c := List.take_of_length_le (by have := HNA.out; omega)
      have HF := Lib.hid hfull; clear hfull hje
      go_wp2_with fail
      obtain ⟨W4, hW4⟩ : ∃ W4 : World, W4 = wr := ⟨_, rfl⟩
      subst hW4
      go_loopw [72] (fun i wr => ∃ (j : Nat) (cs : List Int), j ≤ nb ∧ i = .int .i64 j ∧ cs.length = N ∧ PlusSt w wr (b.low) (b.low) sa sb v0 cs ∧ (∀ t, evL cs t = t ^ da * evL a.c t + k * (t ^ db * evL (b.c.take j) t)) ∧ n1 cs ≤ n1 a.c + k.natAbs * n1 (b.c.take j)) (fun i _ => nb - (intOf i).toNat)
      case atStart => exact ⟨0, _, Nat.zero_le _, rfl, HCL.out, HST.out, fun t => by rw [HEV.out, HF.out]; exact ev_start _ _ _ _ _, by have := HN1.out; rw [HF.out] at this; omega⟩
      case round =>
        obtain ⟨j, cs, hj, rfl, hcl, hst, hev, hn1⟩ := hrel
        have hok := hst.own.isSl
        have lo' := hst.own.len
        rw [hcl] at lo'
        have q0 := hst.p1.cell0; have q1 := hst.p1.cell1; have q2 := hst.p2.cell0; have q3 := hst.p2.cell1
        have HST := Lib.hid hst; have HEV := Lib.hid hev; have HN1 := Lib.hid hn1; have HCL := Lib.hid hcl; clear hst hev hn1 hcl
        by_cases hlt : j < nb
        · have hidx : j = db + j := by have := HDB.out; have := HLO.out; omega
          have hdj : db + j < N := by omega
          have x1 := (H2.out.below (HST.out.below)).cell (k := j) (by have := HNB.out; omega)
          have x2 := HST.out.own.cell (k := j) (by rw [hidx, HCL.out]; exact hdj)
          have x3 := HST.out.own.frozen (k := j) (by rw [hidx, HCL.out]; exact hdj)
          have hb1 := n1_take_succ b.c j (by have := HNB.out; omega)
          have hb2 := n1_take_le b.c (j + 1)
          have hb3 := n1_nth cs (j)
          have hb4 : (k * nth b.c j).natAbs = k.natAbs * (nth b.c j).natAbs := Int.natAbs_mul _ _
          have hb5 : k.natAbs * n1 (b.c.take (j + 1)) ≤ 1000 * n1 b.c := Nat.mul_le_mul hk hb2
          have hb6 : k.natAbs * n1 (b.c.take (j + 1)) = k.natAbs * n1 (b.c.take j) + (k * nth b.c j).natAbs := by rw [hb1, Nat.mul_add, hb4]
          have HSTEP := Lib.hid (fun t => ev_step (cs := cs) (A := b.c) (d := db) (j := j) HEV.out (by rw [HCL.out]; exact hdj) (by have := HNB.out; omega) t)
          have HNS := Lib.hid (n1_step (x := k * nth b.c j) HN1.out (show db + j < cs.length by rw [HCL.out]; exact hdj))
          have HTS := Lib.hid hb6
          have HSET := Lib.hid (HST.out.set (show j < cs.length by rw [hidx, HCL.out]; exact hdj) (nth cs (j) + k * nth b.c j))
          have hs1 : -9000000000000000000 ≤ nth cs (j) + k * nth b.c j := by have := HN.out; have := HN1.out; omega
          have hs2 : nth cs (j) + k * nth b.c j ≤ 9000000000000000000 := by have := HN.out; have := HN1.out; omega
          have hs3 : -9000000000000000000 ≤ k * nth b.c j := by have := HN.out; omega
          have hs4 : k * nth b.c j ≤ 9000000000000000000 := by have := HN.out; omega
          have hi1 : 0 ≤ (j : Int) := by omega
          have hi2 : (j : Int) < N := by have := HDB.out; have := HLO.out; omega
          have HIDX := Lib.hid hidx; clear hidx hb1 hb2 hb3 hb4 hb5 hb6
          go_wp2_with fail
          go_roundw
          case rel => exact ⟨j + 1, _, by omega, by go_num, by rw [List.length_set]; exact HCL.out, HSET.out, fun t => by have h := HSTEP.out t; rw [← HIDX.out] at h; exact h, by have h := HNS.out; rw [← HIDX.out] at h; rw [HTS.out, ← Nat.add_assoc]; exact h⟩
          case measure => simp [intOf]; omega
        · have hfull : b.c.take j = b.c := List.take_of_length_le (by have := HNB.out; omega)
          have HF2 := Lib.hid hfull; clear hfull
          have hje : j = nb := by omega
          have hda' : (((b.low) - b.low).toNat) = da := by have := HDA.out; have := HLO.out; omega
          have hdb' : (((b.low) - b.low).toNat) = db := by have := HDB.out; have := HLO.out; omega
          have hend : trimP b.low cs = padd a b k := plus_end (la := b.low) (lb := b.low) (fun h => absurd HHA.out h) (fun _ => rfl) (by omega) (by omega) (fun t => by have h := HEV.out t; rw [HF2.out, ← hda', ← hdb'] at h; exact h)
          have HEND := Lib.hid hend; clear hend hda' hdb' hje
          go_wp2_with fail
          skip
          refine (trim_calls b.low _ cs _ HST.out.own.ints (by rw [HCL.out]; omega) (by omega) (by omega)).mono ?_
          rw [HEND.out]
          rintro z w5 ⟨s, rfl, hs, hb5⟩
          obtain ⟨sa', sn, sc, rfl, -⟩ := hs.isSl.cases
          have hp3 := HST.out.p3.below hb5
          have d0 := hp3.cell0; have d1 := hp3.cell1; have e0 := hp3.free0; have e1 := hp3.free1
          have hlt3 := HST.out.p3.lt
          have HS5 := Lib.hid hs; have HB5 := Lib.hid hb5
          clear hs hb5 hp3
          go_wp2_with fail
          refine bodyPost_ret (v := .agg #[.int .i64 (padd a b k).low, .slice sa' sn sc]) (by simp [results, Try.results77, go_sem, d0, d1]) rfl ⟨_, rfl, ?_, ((HST.out.below.trans (HB5.out.mono (by omega))).setCell (by simp; omega) _).setCell (by simp; omega) _⟩
          exact ((HS5.out.setOther (fun k hk e => by have := (HS5.out.lt k hk).1; simp at e; omega) _).setOther (fun k hk e => by have := (HS5.out.lt k hk).1; simp at e; omega) _).low (by omega)

set_option maxHeartbeats 4000000 in
set_option maxRecDepth 100000 in
theorem plus_11 (a b : LP) (k : Int) (sa sb : Value) (w : World) (ha : Ints w sa a.c) (hb : Ints w sb b.c) (_hal : a.low.natAbs ≤ 100000) (hbl : b.low.natAbs ≤ 100000) (hac : a.c.length ≤ 100000) (hbc : b.c.length ≤ 100000) (_hk : k.natAbs ≤ 1000)
    (hn : n1 a.c + 1000 * n1 b.c ≤ 4000000000000000000) (hA : a.c = []) (hB : b.c = []) :
    Calls Try.prog 77 #[.agg #[.int .i64 a.low, sa], .agg #[.int .i64 b.low, sb], .int .i64 k] w fun e w' => ∃ s, e = .returned (.agg #[.int .i64 (padd a b k).low, s]) ∧ OwnI w' w.heap.size s (padd a b k).c ∧ Below w.heap.size w w' := by
  have s1 := ha.isSl
  have s2 := hb.isSl
  have l1 := ha.len
  have l2 := hb.len
  obtain ⟨na, hna⟩ : ∃ na, a.c.length = na := ⟨_, rfl⟩
  obtain ⟨nb, hnb⟩ : ∃ nb, b.c.length = nb := ⟨_, rfl⟩
  rw [hna] at l1 hac
  rw [hnb] at l2 hbc
  have hna0 : na = 0 := by rw [← hna, hA]; rfl
  have hnb0 : nb = 0 := by rw [← hnb, hB]; rfl
  subst hna0
  subst hnb0
  obtain ⟨lo, hlo⟩ : ∃ lo : Int, lo = min b.low b.low := ⟨_, rfl⟩
  obtain ⟨N, hN⟩ : ∃ N : Nat, (N : Int) = max (b.low + 0) (b.low + 0) - lo := ⟨(max (b.low + 0) (b.low + 0) - lo).toNat, by omega⟩
  have hla : lo ≤ b.low := by omega
  have hlb : lo ≤ b.low := by omega
  obtain ⟨da, hda⟩ : ∃ da : Nat, (da : Int) = b.low - lo := ⟨(b.low - lo).toNat, by omega⟩
  obtain ⟨db, hdb⟩ : ∃ db : Nat, (db : Int) = b.low - lo := ⟨(b.low - lo).toNat, by omega⟩
  have hdaN : da + 0 ≤ N := by omega
  have hdbN : db + 0 ≤ N := by omega
  have hN1 : N ≤ 1000000 := by omega
  have hlo1 : -1000000 ≤ lo := by omega
  have hlo2 : lo ≤ 1000000 := by omega
  have HNA := Lib.hid hna; have HNB := Lib.hid hnb; clear hna hnb
  have H1 := Lib.hid ha; have H2 := Lib.hid hb; clear ha hb
  have HN := Lib.hid hn; clear hn
  have HHA := Lib.hid hA; have HHB := Lib.hid hB; clear hA hB
  have HLO := Lib.hid hlo.symm; have HNN := Lib.hid hN; have HDA := Lib.hid hda; have HDB := Lib.hid hdb; clear hlo hN hda hdb
  obtain ⟨W3, hW3⟩ : ∃ W3, W3 = ((w.alloc (.cells #[.int .i64 (b.low), sa] 40)).alloc (.cells #[.int .i64 (b.low), sb] 40)).alloc (.cells #[.int .i64 0, .slice none 0 0] 40) := ⟨_, rfl⟩
  have hsz3 : W3.heap.size = w.heap.size + 3 := by rw [hW3]; simp
  have P1 := Lib.hid (show Pair W3 w.heap.size 40 (.int .i64 (b.low)) sa by rw [hW3]; exact ((pair_new w _ _ _).alloc _).alloc _)
  have P2 := Lib.hid (show Pair W3 (w.heap.size + 1) 40 (.int .i64 (b.low)) sb by rw [hW3]; have := (pair_new (w.alloc (.cells #[.int .i64 (b.low), sa] 40)) 40 (.int .i64 (b.low)) sb).alloc (.cells #[.int .i64 0, .slice none 0 0] 40); rwa [World.size_alloc] at this)
  have P3 := Lib.hid (show Pair W3 (w.heap.size + 2) 40 (.int .i64 0) (.slice none 0 0) by rw [hW3]; have := pair_new ((w.alloc (.cells #[.int .i64 (b.low), sa] 40)).alloc (.cells #[.int .i64 (b.low), sb] 40)) 40 (.int .i64 0) (.slice none 0 0); rwa [World.size_alloc, World.size_alloc] at this)
  have B3 := Lib.hid (show Below w.heap.size w W3 by rw [hW3]; exact (((Below.refl _ _).alloc (Nat.le_refl _) _).alloc (by simp) _).alloc (by simp; omega) _)
  have HW3 := Lib.hid hW3.symm; have HSZ3 := Lib.hid hsz3; clear hW3 hsz3
  go_enter Try.func77, Try.ntmps77
  go_wp2_with (at_make; rw [HW3.out]; refine wpList_make rfl _ _ rfl _ _ N rfl rfl (by have := HNN.out; have := HLO.out; omega) (by have := HNN.out; have := HLO.out; omega) (by omega) ?_; intro v0 w1 ho1 hg1 hlo1 hsz; have so := ho1.isSl; have hb1 := below_grown_none (Below.refl _ _) hg1; have ST1 := Lib.hid (show PlusSt w w1 (b.low) (b.low) sa sb v0 (List.replicate N 0) from ⟨P1.out.below hb1, P2.out.below hb1, P3.out.below hb1, ho1.low (by rw [HSZ3.out]; exact Nat.le_refl _), B3.out.trans (hb1.mono (by rw [HSZ3.out]; omega))⟩); have c1 := ST1.out.p1.cell1; clear ho1 hg1 hb1)
  go_loopw [51] (fun i wr => ∃ (j : Nat) (cs : List Int), j ≤ 0 ∧ i = .int .i64 j ∧ cs.length = N ∧ PlusSt w wr (b.low) (b.low) sa sb v0 cs ∧ (∀ t, evL cs t = t ^ da * evL (a.c.take j) t) ∧ n1 cs ≤ n1 (a.c.take j)) (fun i _ => 0 - (intOf i).toNat)
  case atStart => exact ⟨0, _, Nat.zero_le _, rfl, by simp, ST1.out, fun t => by simp [evL_replicate, evL], by rw [n1_replicate]; omega⟩
  case round =>
    obtain ⟨j, cs, hj, rfl, hcl, hst, hev, hn1⟩ := hrel
    have hok := hst.own.isSl
    have lo' := hst.own.len
    rw [hcl] at lo'
    have q0 := hst.p1.cell0; have q1 := hst.p1.cell1; have q2 := hst.p2.cell0; have q3 := hst.p2.cell1
    have HST := Lib.hid hst; have HEV := Lib.hid hev; have HN1 := Lib.hid hn1; have HCL := Lib.hid hcl; clear hst hev hn1 hcl
    by_cases hlt : j < 0
    · exact absurd hlt (Nat.not_lt_zero _)
    · have hje : j = 0 := by omega
      have hfull : a.c.take j = a.c := List.take_of_length_le (by have := HNA.out; omega)
      have HF := Lib.hid hfull; clear hfull hje
      go_wp2_with fail
      obtain ⟨W4, hW4⟩ : ∃ W4 : World, W4 = wr := ⟨_, rfl⟩
      subst hW4
      go_loopw [72] (fun i wr => ∃ (j : Nat) (cs : List Int), j ≤ 0 ∧ i = .int .i64 j ∧ cs.length = N ∧ PlusSt w wr (b.low) (b.low) sa sb v0 cs ∧ (∀ t, evL cs t = t ^ da * evL a.c t + k * (t ^ db * evL (b.c.take j) t)) ∧ n1 cs ≤ n1 a.c + k.natAbs * n1 (b.c.take j)) (fun i _ => 0 - (intOf i).toNat)
      case atStart => exact ⟨0, _, Nat.zero_le _, rfl, HCL.out, HST.out, fun t => by rw [HEV.out, HF.out]; exact ev_start _ _ _ _ _, by have := HN1.out; rw [HF.out] at this; omega⟩
      case round =>
        obtain ⟨j, cs, hj, rfl, hcl, hst, hev, hn1⟩ := hrel
        have hok := hst.own.isSl
        have lo' := hst.own.len
        rw [hcl] at lo'
        have q0 := hst.p1.cell0; have q1 := hst.p1.cell1; have q2 := hst.p2.cell0; have q3 := hst.p2.cell1
        have HST := Lib.hid hst; have HEV := Lib.hid hev; have HN1 := Lib.hid hn1; have HCL := Lib.hid hcl; clear hst hev hn1 hcl
        by_cases hlt : j < 0
        · exact absurd hlt (Nat.not_lt_zero _)
        · have hfull : b.c.take j = b.c := List.take_of_length_le (by have := HNB.out; omega)
          have HF2 := Lib.hid hfull; clear hfull
          have hje : j = 0 := by omega
          have hda' : (((b.low) - b.low).toNat) = da := by have := HDA.out; have := HLO.out; omega
          have hdb' : (((b.low) - b.low).toNat) = db := by have := HDB.out; have := HLO.out; omega
          have hend : trimP b.low cs = padd a b k := plus_end (la := b.low) (lb := b.low) (fun h => absurd HHA.out h) (fun h => absurd HHB.out h) (by omega) (by omega) (fun t => by have h := HEV.out t; rw [HF2.out, ← hda', ← hdb'] at h; exact h)
          have HEND := Lib.hid hend; clear hend hda' hdb' hje
          go_wp2_with fail
          skip
          refine (trim_calls b.low _ cs _ HST.out.own.ints (by rw [HCL.out]; omega) (by omega) (by omega)).mono ?_
          rw [HEND.out]
          rintro z w5 ⟨s, rfl, hs, hb5⟩
          obtain ⟨sa', sn, sc, rfl, -⟩ := hs.isSl.cases
          have hp3 := HST.out.p3.below hb5
          have d0 := hp3.cell0; have d1 := hp3.cell1; have e0 := hp3.free0; have e1 := hp3.free1
          have hlt3 := HST.out.p3.lt
          have HS5 := Lib.hid hs; have HB5 := Lib.hid hb5
          clear hs hb5 hp3
          go_wp2_with fail
          refine bodyPost_ret (v := .agg #[.int .i64 (padd a b k).low, .slice sa' sn sc]) (by simp [results, Try.results77, go_sem, d0, d1]) rfl ⟨_, rfl, ?_, ((HST.out.below.trans (HB5.out.mono (by omega))).setCell (by simp; omega) _).setCell (by simp; omega) _⟩
          exact ((HS5.out.setOther (fun k hk e => by have := (HS5.out.lt k hk).1; simp at e; omega) _).setOther (fun k hk e => by have := (HS5.out.lt k hk).1; simp at e; omega) _).low (by omega)

theorem plus_calls (a b : LP) (k : Int) (sa sb : Value) (w : World) (ha : Ints w sa a.c) (hb : Ints w sb b.c) (hal : a.low.natAbs ≤ 100000) (hbl : b.low.natAbs ≤ 100000) (hac : a.c.length ≤ 100000) (hbc : b.c.length ≤ 100000) (hk : k.natAbs ≤ 1000)
    (hn : n1 a.c + 1000 * n1 b.c ≤ 4000000000000000000) :
    Calls Try.prog 77 #[.agg #[.int .i64 a.low, sa], .agg #[.int .i64 b.low, sb], .int .i64 k] w fun e w' => ∃ s, e = .returned (.agg #[.int .i64 (padd a b k).low, s]) ∧ OwnI w' w.heap.size s (padd a b k).c ∧ Below w.heap.size w w' := by
  by_cases h1 : a.c = []
  · by_cases h2 : b.c = []
    · exact plus_11 a b k sa sb w ha hb hal hbl hac hbc hk hn h1 h2
    · exact plus_10 a b k sa sb w ha hb hal hbl hac hbc hk hn h1 h2
  · by_cases h2 : b.c = []
    · exact plus_01 a b k sa sb w ha hb hal hbl hac hbc hk hn h1 h2
    · exact plus_00 a b k sa sb w ha hb hal hbl hac hbc hk hn h1 h2

end Go.Proofs.Ytplekfgadbjgdaa

