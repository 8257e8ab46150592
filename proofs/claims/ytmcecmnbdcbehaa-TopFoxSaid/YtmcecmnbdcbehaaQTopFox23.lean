/- foxcalc.Exponent and Derivative walked. -/
import Derived.Test.YtmcecmnbdcbehaaQTopFox0
import Derived.Test.YtmcecmnbdcbehaaQTopFox1
import Derived.Test.YtmcecmnbdcbehaaQTopFox2
import Derived.Test.YtmcecmnbdcbehaaQTopFox3
import Derived.Test.YtmcecmnbdcbehaaQTopFox4
import Derived.Test.YtmcecmnbdcbehaaQTopFox5
import Derived.Test.YtmcecmnbdcbehaaQTopFox6
import Derived.Test.YtmcecmnbdcbehaaQTopFox7
import Derived.Test.YtmcecmnbdcbehaaQTopFox9
import Derived.Test.YtmcecmnbdcbehaaQTopFox10
import Derived.Test.YtmcecmnbdcbehaaQTopFox11
import Derived.Test.YtmcecmnbdcbehaaQTopFox12
import Derived.Test.YtmcecmnbdcbehaaQTopFox13
import Derived.Test.YtmcecmnbdcbehaaQTopFox14
import Derived.Test.YtmcecmnbdcbehaaQTopFox16
import Derived.Test.YtmcecmnbdcbehaaQTopFox17
import Derived.Test.YtmcecmnbdcbehaaQTopFox18
import Derived.Test.YtmcecmnbdcbehaaQTopFox21
import Derived.Test.YtmcecmnbdcbehaaQTopFox22
import Derived.Deep.RegionWith
namespace Go.Proofs.Ytmcecmnbdcbehaa
open Go.RowKit Go.Sl

theorem pterm_unit (e : Int) : pterm 1 e = unitP e := trimP_self (unitP_trimmed e)

set_option maxHeartbeats 4000000 in
set_option maxRecDepth 100000 in
theorem derivative_calls (a : Value) (xs : List Int) (i : Int) (w : World) (ha : Ints w a xs) (hx : IsWord xs) (hl : xs.length ≤ 60) (hi1 : 1 ≤ i) (hi2 : i ≤ 6) :
    Calls Try.prog 45 #[a, .int .i64 i] w fun e w' => ∃ u, e = .returned (.tuple #[.agg #[.int .i64 (foxL i xs).low, u], .int .i64 0]) ∧ OwnI w' w.heap.size u (foxL i xs).c ∧ Below w.heap.size w w' := by
  have sa := ha.isSl
  have la := ha.len
  obtain ⟨W1, hW1⟩ : ∃ W1, W1 = w.alloc (.cells #[.int .i64 0, .slice none 0 0] 27) := ⟨_, rfl⟩
  have b1 : Below w.heap.size w W1 := by rw [hW1]; exact (Below.refl _ _).alloc (Nat.le_refl _) _
  have p1 : Pair W1 w.heap.size 27 (.int .i64 0) (.slice none 0 0) := by rw [hW1]; exact pair_new _ _ _ _
  have z1 : W1.heap.size = w.heap.size + 1 := by rw [hW1]; simp
  obtain ⟨W2, hW2⟩ : ∃ W2, W2 = W1.alloc (.cells #[.int .i64 0, .slice none 0 0] 27) := ⟨_, rfl⟩
  have b2 : Below W1.heap.size W1 W2 := by rw [hW2]; exact (Below.refl _ _).alloc (Nat.le_refl _) _
  have p2 : Pair W2 W1.heap.size 27 (.int .i64 0) (.slice none 0 0) := by rw [hW2]; exact pair_new _ _ _ _
  have z2 : W2.heap.size = w.heap.size + 2 := by rw [hW2]; simp [z1]
  have HA1 := Lib.hid (ha.below b1)
  have HA := Lib.hid ha
  have HX := Lib.hid hx; have HL := Lib.hid hl
  have HW1 := Lib.hid hW1.symm; have HW2 := Lib.hid hW2.symm
  have P1 := Lib.hid (p1.below b2); have P2 := Lib.hid p2
  have B2 := Lib.hid (Below.chain b1 b2)
  have HZ1 := Lib.hid z1; have HZ2 := Lib.hid z2
  clear ha hx hW1 hW2 p1 p2 b1 b2 z1 z2
  go_enter Try.func45, Try.ntmps45
  go_wp2_with fail
  rw [HW1.out]
  refine (fcheck_calls a xs _ HA1.out HX.out HL.out).mono ?_
  rintro e w' ⟨rfl, rfl⟩
  have i1 : ¬ i < 1 := by omega
  have i2 : ¬ i > 6 := by omega
  go_wp2_with fail
  rw [HW2.out]
  go_loopw [8, 26] (fun e j wr => ∃ (k : Nat) (m : Int) (p : LP) (v : Value), k ≤ xs.length ∧ j = .int .i64 k ∧ e = .int .i64 m ∧ (p, m) = foxS i (xs.take k) ∧ Pair wr W1.heap.size 27 (.int .i64 p.low) v ∧ OwnI wr (w.heap.size + 2) v p.c ∧ Pair wr w.heap.size 27 (.int .i64 0) (.slice none 0 0) ∧ Below w.heap.size w wr ∧ w.heap.size + 2 ≤ wr.heap.size) (fun _ j _ => xs.length - (intOf j).toNat)
  case atStart => exact ⟨0, 0, pzero, .slice none 0 0, Nat.zero_le _, rfl, rfl, rfl, P2.out, ownI_nil _ _, P1.out, B2.out, by have := HZ2.out; omega⟩
  case round =>
    obtain ⟨k, m, p, v, hk, rfl, rfl, hf, hpo, hv, hpr, hbr, hsz⟩ := hrel
    obtain ⟨bv, nv, kv, rfl, -⟩ := hv.isSl.cases
    have sv := hv.isSl
    have c0 := hpo.cell0; have c1 := hpo.cell1
    have HPO := Lib.hid hpo; have HV := Lib.hid hv; have HPR := Lib.hid hpr; have HBR := Lib.hid hbr
    clear hpo hv hpr hbr
    by_cases hlt : k < xs.length
    · have e1 := (HA.out.below HBR.out).cell hlt
      obtain ⟨x, hxx⟩ : ∃ x, nth xs k = x := ⟨_, rfl⟩
      have hxb := HX.out _ (nth_mem hlt)
      rw [hxx] at e1 hxb
      obtain ⟨x0, x1, x2⟩ := hxb
      have hpre : ∀ y ∈ xs.take k, y ≠ 0 := fun y hy => (HX.out y (List.mem_of_mem_take hy)).1
      have hpb := foxS_pb i (xs.take k) hpre
      have hexp := foxS_exp i (xs.take k) hpre
      have hel := expo_le (xs.take k)
      unfold foxL at hpb
      rw [← hf] at hpb hexp
      simp only at hpb hexp
      have htl : (xs.take k).length ≤ 60 := by have := HL.out; simp; omega
      have hok := PB.ok hpb (by omega) (by omega) (by omega) (by omega) (by omega) (by omega)
      have hm1 : -60 ≤ m := by omega
      have hm2 : m ≤ 60 := by omega
      have g1 : p.low.natAbs ≤ 100000 := by have := hok.lo1; have := hok.lo2; omega
      have g2 : p.c.length ≤ 100000 := by have := hok.len; omega
      have g3 : n1 p.c + 1000 * n1 [1] ≤ 4000000000000000000 := by have := hok.co.1; have : n1 [1] = 1 := rfl; omega
      have hst : foxStep i (p, m) x = foxS i (xs.take (k + 1)) := by
        rw [List.take_succ_eq_append_getElem hlt, foxS_snoc, ← nth_lt hlt, hxx, hf]
      have HST := Lib.hid hst
      clear hst hpre hpb hexp hel htl hok hf hxx
      by_cases hp : 0 < x
      · have hp' : x > 0 := hp
        have hp'' : ¬ x < 0 := by omega
        have hni : (x == -i) = false := by rw [beq_eq_false_iff_ne]; omega
        by_cases hxi : x = i
        · have he : (x == i) = true := by simp [hxi]
          have hfin : foxS i (xs.take (k + 1)) = (padd p (unitP m) 1, m + 1) := by
            rw [← HST.out]; unfold foxStep; simp only [if_pos hxi, if_pos hp, if_neg hp'', pterm_unit]
          have HF := Lib.hid hfin; clear hfin
          subst hxi
          go_wp2_with fail
          have hb0 : Below wr.heap.size wr wr.drew := (Below.refl _ _).drew
          replace HPO := Lib.hid (HPO.out.below hb0); replace HV := Lib.hid (HV.out.below hb0); replace HPR := Lib.hid (HPR.out.below hb0); replace HBR := Lib.hid (HBR.out.trans (hb0.mono HBR.out.size))
          replace c0 := HPO.out.cell0; replace c1 := HPO.out.cell1
          have hsz1 : w.heap.size + 2 ≤ wr.drew.heap.size := hsz
          clear hb0
          go_region_with (first
            | (go_at_call 105; refine (term_calls 1 m _ (by omega) (by omega)).mono ?_; rw [pterm_unit]; rintro z w5 ⟨tv, rfl, ht, hb5⟩; have ht5 := Lib.hid ht.ints; have po5 := Lib.hid (HPO.out.below hb5); have pr5 := Lib.hid (HPR.out.below hb5); have hv5 := Lib.hid (HV.out.below hb5); have hb6 := Lib.hid (HBR.out.trans (hb5.mono HBR.out.size)); have d0 := po5.out.cell0; have d1 := po5.out.cell1; have st := ht.isSl; have z5 := Lib.hid (Nat.le_trans hsz1 hb5.size); clear ht hb5)
            | (go_at_call 104; refine (plus_calls p (unitP m) 1 (.slice bv nv kv) tv _ hv5.out.ints ht5.out g1 (by show Int.natAbs m ≤ 100000; omega) g2 (by show 1 ≤ 100000; omega) (by decide) g3).mono ?_; rintro z w6 ⟨pv, rfl, hp6, hb7⟩; have hp7 := Lib.hid hp6; have po7 := Lib.hid (po5.out.below hb7); have pr7 := Lib.hid (pr5.out.below hb7); have hb8 := Lib.hid (hb6.out.trans (hb7.mono hb6.out.size)); have f0 := po7.out.cell0; have f1 := po7.out.cell1; have f2 := po7.out.free0; have f3 := po7.out.free1; have sp := hp6.isSl; have z6 := Lib.hid (Nat.le_trans z5.out hb7.size); clear hp6 hb7))
          all_goals
            obtain ⟨V, hV⟩ : ∃ V, V = (w6.setCell ⟨W1.heap.size, 0, none⟩ (.int .i64 (padd p (unitP m) 1).low)).setCell ⟨W1.heap.size, 1, none⟩ pv := ⟨_, rfl⟩
            have q1 : Pair V W1.heap.size 27 (.int .i64 (padd p (unitP m) 1).low) pv := by rw [hV]; exact po7.out.set _ _
            have q2 : Pair V w.heap.size 27 (.int .i64 0) (.slice none 0 0) := by rw [hV]; exact (pr7.out.other (by have := HZ1.out; omega) _ _).other (by have := HZ1.out; omega) _ _
            have q3 : OwnI V (w.heap.size + 2) pv (padd p (unitP m) 1).c := by
              rw [hV]
              have hlo := hp7.out.low z5.out
              exact (hlo.setOther (fun b hb hc => by have h1 := (hlo.lt b hb).1; have := HZ1.out; simp at hc; omega) _).setOther (fun b hb hc => by have h1 := (hlo.lt b hb).1; have := HZ1.out; simp at hc; omega) _
            have q4 : Below w.heap.size w V := by rw [hV]; exact (hb8.out.setCell (by have := HZ1.out; simp; omega) _).setCell (by have := HZ1.out; simp; omega) _
            have q5 : w.heap.size + 2 ≤ V.heap.size := by rw [hV]; simpa using z6.out
            rw [← hV]
            have Q1 := Lib.hid q1; have Q2 := Lib.hid q2; have Q3 := Lib.hid q3; have Q4 := Lib.hid q4
            clear hV q1 q2 q3 q4
            go_wp2_with fail
            go_roundw
            case rel => exact ⟨k + 1, m + 1, padd p (unitP m) 1, pv, by omega, by go_num, by go_num, HF.out.symm, Q1.out, Q3.out, Q2.out, Q4.out, q5⟩
            case measure => simp [intOf]; omega
        · have he : (x == i) = false := by simp [hxi]
          have hfin : foxS i (xs.take (k + 1)) = (p, m + 1) := by
            rw [← HST.out]; unfold foxStep; simp only [if_neg hxi, if_pos hp, if_neg hp'', if_neg (show ¬ x = -i by omega)]
          have HF := Lib.hid hfin; clear hfin
          go_wp2_with fail
          go_roundw
          case rel => exact ⟨k + 1, m + 1, p, _, by omega, by go_num, by go_num, HF.out.symm, HPO.out, HV.out, HPR.out, HBR.out, hsz⟩
          case measure => simp [intOf]; omega
      · have hp' : ¬ x > 0 := hp
        have hp'' : x < 0 := by omega
        have hni : (x == i) = false := by rw [beq_eq_false_iff_ne]; omega
        by_cases hxi : x = -i
        · have he : (x == -i) = true := by simp [hxi]
          have hfin : foxS i (xs.take (k + 1)) = (padd p (unitP (m - 1)) (-1), m - 1) := by
            rw [← HST.out]; unfold foxStep; simp only [if_pos hxi, if_neg hp, if_pos hp'', if_neg (show ¬ x = i by omega), pterm_unit]
          have HF := Lib.hid hfin; clear hfin
          go_wp2_with fail
          have hb0 : Below wr.heap.size wr wr.drew := (Below.refl _ _).drew
          replace HPO := Lib.hid (HPO.out.below hb0); replace HV := Lib.hid (HV.out.below hb0); replace HPR := Lib.hid (HPR.out.below hb0); replace HBR := Lib.hid (HBR.out.trans (hb0.mono HBR.out.size))
          replace c0 := HPO.out.cell0; replace c1 := HPO.out.cell1
          have hsz1 : w.heap.size + 2 ≤ wr.drew.heap.size := hsz
          clear hb0
          go_region_with (first
            | (go_at_call 105; refine (term_calls 1 (m - 1) _ (by omega) (by omega)).mono ?_; rw [pterm_unit]; rintro z w5 ⟨tv, rfl, ht, hb5⟩; have ht5 := Lib.hid ht.ints; have po5 := Lib.hid (HPO.out.below hb5); have pr5 := Lib.hid (HPR.out.below hb5); have hv5 := Lib.hid (HV.out.below hb5); have hb6 := Lib.hid (HBR.out.trans (hb5.mono HBR.out.size)); have d0 := po5.out.cell0; have d1 := po5.out.cell1; have st := ht.isSl; have z5 := Lib.hid (Nat.le_trans hsz1 hb5.size); clear ht hb5)
            | (go_at_call 104; refine (plus_calls p (unitP (m - 1)) (-1) (.slice bv nv kv) tv _ hv5.out.ints ht5.out g1 (by show Int.natAbs (m - 1) ≤ 100000; omega) g2 (by show 1 ≤ 100000; omega) (by decide) g3).mono ?_; rintro z w6 ⟨pv, rfl, hp6, hb7⟩; have hp7 := Lib.hid hp6; have po7 := Lib.hid (po5.out.below hb7); have pr7 := Lib.hid (pr5.out.below hb7); have hb8 := Lib.hid (hb6.out.trans (hb7.mono hb6.out.size)); have f0 := po7.out.cell0; have f1 := po7.out.cell1; have f2 := po7.out.free0; have f3 := po7.out.free1; have sp := hp6.isSl; have z6 := Lib.hid (Nat.le_trans z5.out hb7.size); clear hp6 hb7))
          all_goals
            obtain ⟨V, hV⟩ : ∃ V, V = (w6.setCell ⟨W1.heap.size, 0, none⟩ (.int .i64 (padd p (unitP (m - 1)) (-1)).low)).setCell ⟨W1.heap.size, 1, none⟩ pv := ⟨_, rfl⟩
            have q1 : Pair V W1.heap.size 27 (.int .i64 (padd p (unitP (m - 1)) (-1)).low) pv := by rw [hV]; exact po7.out.set _ _
            have q2 : Pair V w.heap.size 27 (.int .i64 0) (.slice none 0 0) := by rw [hV]; exact (pr7.out.other (by have := HZ1.out; omega) _ _).other (by have := HZ1.out; omega) _ _
            have q3 : OwnI V (w.heap.size + 2) pv (padd p (unitP (m - 1)) (-1)).c := by
              rw [hV]
              have hlo := hp7.out.low z5.out
              exact (hlo.setOther (fun b hb hc => by have h1 := (hlo.lt b hb).1; have := HZ1.out; simp at hc; omega) _).setOther (fun b hb hc => by have h1 := (hlo.lt b hb).1; have := HZ1.out; simp at hc; omega) _
            have q4 : Below w.heap.size w V := by rw [hV]; exact (hb8.out.setCell (by have := HZ1.out; simp; omega) _).setCell (by have := HZ1.out; simp; omega) _
            have q5 : w.heap.size + 2 ≤ V.heap.size := by rw [hV]; simpa using z6.out
            rw [← hV]
            have Q1 := Lib.hid q1; have Q2 := Lib.hid q2; have Q3 := Lib.hid q3; have Q4 := Lib.hid q4
            clear hV q1 q2 q3 q4
            go_wp2_with fail
            go_roundw
            case rel => exact ⟨k + 1, m - 1, padd p (unitP (m - 1)) (-1), pv, by omega, by go_num, by go_num, HF.out.symm, Q1.out, Q3.out, Q2.out, Q4.out, q5⟩
            case measure => simp [intOf]; omega
        · have he : (x == -i) = false := by simp [hxi]
          have hfin : foxS i (xs.take (k + 1)) = (p, m - 1) := by
            rw [← HST.out]; unfold foxStep; simp only [if_neg hxi, if_neg hp, if_pos hp'', if_neg (show ¬ x = i by omega)]
          have HF := Lib.hid hfin; clear hfin
          go_wp2_with fail
          go_roundw
          case rel => exact ⟨k + 1, m - 1, p, _, by omega, by go_num, by go_num, HF.out.symm, HPO.out, HV.out, HPR.out, HBR.out, hsz⟩
          case measure => simp [intOf]; omega
    · have hfin : p = foxL i xs := by
        rw [List.take_of_length_le (by omega)] at hf
        unfold foxL; rw [← hf]
      subst hfin
      have f0 := HPR.out.cell0; have f1 := HPR.out.cell1; have f2 := HPR.out.free0; have f3 := HPR.out.free1
      clear hf
      go_wp2_with fail
      refine bodyPost_ret (v := .tuple #[.agg #[.int .i64 (foxL i xs).low, .slice bv nv kv], .int .i64 0]) (by simp [results, Try.results45, go_sem, f0, f1]) rfl ⟨_, rfl, ?_, (HBR.out.setCell (by simp) _).setCell (by simp) _⟩
      have hlo := HV.out
      exact ((hlo.setOther (fun b hb hc => by have h1 := (hlo.lt b hb).1; simp at hc; omega) _).setOther (fun b hb hc => by have h1 := (hlo.lt b hb).1; simp at hc; omega) _).low (by omega)

end Go.Proofs.Ytmcecmnbdcbehaa

