/- topRinging: for every input the statement returns true, and nothing that was there has changed. -/
import Derived.Test.YtplekfgadbjgdaaQTopRinging0
import Derived.Test.YtplekfgadbjgdaaQTopRinging1
import Derived.Test.YtplekfgadbjgdaaQTopRinging2
import Derived.Test.YtplekfgadbjgdaaQTopRinging3
import Derived.Test.YtplekfgadbjgdaaQTopRinging4
import Derived.Test.YtplekfgadbjgdaaQTopRinging5
import Derived.Test.YtplekfgadbjgdaaQTopRinging6
import Derived.Test.YtplekfgadbjgdaaQTopRinging7
import Derived.Test.YtplekfgadbjgdaaQTopRinging8
import Derived.Test.YtplekfgadbjgdaaQTopRinging9
import Derived.Test.YtplekfgadbjgdaaQTopRinging10
import Derived.Test.YtplekfgadbjgdaaQTopRinging11
import Derived.Test.YtplekfgadbjgdaaQTopRinging12
import Derived.Test.YtplekfgadbjgdaaQTopRinging13
import Derived.Test.YtplekfgadbjgdaaQTopRinging14
import Derived.Test.YtplekfgadbjgdaaQTopRinging15
import Derived.Test.YtplekfgadbjgdaaQTopRinging16
import Derived.Test.YtplekfgadbjgdaaQTopRinging17
import Derived.Test.YtplekfgadbjgdaaQTopRinging18
import Derived.Test.YtplekfgadbjgdaaQTopRinging19
import Derived.Test.YtplekfgadbjgdaaQTopRinging20
import Derived.Test.YtplekfgadbjgdaaQTopRinging21
import Derived.Test.YtplekfgadbjgdaaQTopRinging22
import Derived.Test.YtplekfgadbjgdaaQTopRinging23
import Derived.Test.YtplekfgadbjgdaaQTopRinging24
import Derived.Test.YtplekfgadbjgdaaQTopRinging25
import Derived.Test.YtplekfgadbjgdaaQTopRinging26
import Derived.Test.YtplekfgadbjgdaaQTopRinging27
import Derived.Test.YtplekfgadbjgdaaQTopRinging28
import Derived.Test.YtplekfgadbjgdaaQTopRinging29
import Derived.Test.YtplekfgadbjgdaaQTopRinging30

namespace Go.Proofs.Ytplekfgadbjgdaa
open Go.RowKit Go.Sl
attribute [local go_sem] Oper.semAt_some

theorem fact_step {K : Nat} (h2 : 2 ≤ K) (h6 : K ≤ 6) : ((fact (K - 1) : Nat) : Int) * (K : Int) = ((fact K : Nat) : Int) ∧ fact K ≤ 720 := by
  obtain rfl | rfl | rfl | rfl | rfl : K = 2 ∨ K = 3 ∨ K = 4 ∨ K = 5 ∨ K = 6 := by omega
  all_goals decide
theorem downs_rung (Y : List Int) (g : Nat → Int) (hg : ∀ j, j < Y.length → g j = nth Y j) : (downs Y.length Y.length).map (fun j => ((2 ^ ((g j).natAbs - 1) : Nat) : Int)) = rungL Y := by
  have h := downs_map Y fun x => ((2 ^ (x.natAbs - 1) : Nat) : Int)
  unfold rungL
  rw [List.map_reverse]
  simp only [pow_cast]
  rw [← h]
  refine List.map_congr_left fun j hj => ?_
  unfold downs at hj
  obtain ⟨m, hm, rfl⟩ := List.mem_map.1 hj
  have := List.mem_range.1 hm
  rw [hg _ (by omega)]
theorem inv_take (p : List Int) {a : Nat} (h : a < p.length) : invR (p.take (a + 1)) = invR (p.take a) + more (p.take a) (nth p a) := by
  rw [List.take_succ_eq_append_getElem h, invR_snoc, nth_lt h]
theorem more_take (p : List Int) (x : Int) {b : Nat} (h : b < p.length) : more (p.take (b + 1)) x = more (p.take b) x + (if x < nth p b then 1 else 0) := by
  rw [List.take_succ_eq_append_getElem h, more_snoc, nth_lt h]
theorem inv_len (xs : List Int) : invR xs ≤ xs.length * xs.length := by
  induction xs with
  | nil => decide
  | cons x xs ih =>
    rw [invR, List.length_cons]
    have := less_le xs x
    have e : (xs.length + 1) * (xs.length + 1) = xs.length * xs.length + 2 * xs.length + 1 := by grind
    omega
theorem inv_le (n : Nat) (p : List Int) (hl : p.length = n) (hn : n ≤ 6) : invR p ≤ 36 := by
  have h1 := inv_len p
  rw [hl] at h1
  have h2 : n * n ≤ 6 * 6 := Nat.mul_le_mul hn hn
  omega

set_option maxHeartbeats 16000000 in
set_option maxRecDepth 100000 in
theorem topRinging_true {w0 : World} (n0 : Int) (hn0 : I64 n0) (raw : Value) (zs : List Int) (hr0 : Ints w0 raw zs) (hz0 : ∀ x ∈ zs, I64 x) (w : World) (hw : w = w0 := by rfl) :
    Calls Try.prog 8 #[.int .i64 n0, raw] w fun e w' => e = .returned (.bool true) ∧ Below w.heap.size w w' := by
  subst hw
  have sr := hr0.isSl
  obtain ⟨n, hN⟩ : ∃ n : Nat, 2 + n0 % 5 = (n : Int) := ⟨(2 + n0 % 5).toNat, by omega⟩
  have hn6 : n ≤ 6 := by omega
  have hn2 : 2 ≤ n := by omega
  obtain ⟨m, hm⟩ : ∃ m, m = n - 1 := ⟨_, rfl⟩
  have hm1 : (n : Int) - 1 = (m : Int) := by omega
  have hmn : m + 1 = n := by omega
  have HR := Lib.hid hr0; have HZ := Lib.hid hz0; have HN := Lib.hid hN
  clear hr0 hz0 hN hm
  refine (callsIn_wide (n := 3)).1 ?_
  have hro : Fence.wide.round = none := rfl
  have i1 : 1 ≤ 3 := by omega
  refine callsIn_of_wp_marks Try.func8 rfl trivial ?_ hro
  simp only [Try.ntmps8, List.size_toArray, List.length_cons, List.length_nil, Nat.reduceAdd, Nat.reduceSub, Array.replicate_succ, Array.replicate_zero, List.push_toArray, List.append_toArray, List.nil_append, List.cons_append]
  refine wpIn_wide.2 ?_
  go_wp2_with fail
  refine (below_calls n0 5 _ (by decide) (by decide) hn0).mono ?_
  rintro e w' ⟨rfl, rfl⟩
  have hadd := HN.out
  go_wp2_with fail
  clear hadd
  go_loopw [5, 32] (fun out i wr => ∃ q : Nat, q ≤ m ∧ i = .int .i64 q ∧ OwnR.apart wr w.heap.size out ((adjS n).take q) ∧ Below w.heap.size w wr) (fun _ i _ => m - (intOf i).toNat)
  case atStart => exact ⟨0, Nat.zero_le _, rfl, by simpa using ownRA_nil w w.heap.size, Below.refl _ _⟩
  case round =>
    obtain ⟨q, hq, rfl, ho, hbr⟩ := hrel
    have hbs := hbr.size
    have so := ho.own.isSl
    have HO := Lib.hid ho; have HB := Lib.hid hbr
    clear ho hbr
    by_cases hlt : q < m
    · have hpw := (pow_wrap ⟨q, by omega⟩).1
      simp only at hpw
      obtain ⟨pw, hpe⟩ : ∃ pw : Nat, 2 ^ q = pw := ⟨_, rfl⟩
      have hpc := pow_cast q
      have hchg := pow_chg (k := q) (m := n - 1) (by omega) (by omega)
      rw [hpe] at hpw hpc hchg
      have hrun : runL (iota n) [(pw : Int)] = adjT n q := by rw [← hpc]; exact runL_pow _ (by rw [iota_length]; omega)
      have HPE := Lib.hid hpe; have HPC := Lib.hid hpc; have HCH := Lib.hid hchg; have HRUN := Lib.hid hrun
      clear hpe hpc hchg hrun
      go_wp2_with fail
      refine (leadHeadN_calls n _ [(pw : Int)] _ (ints_lit [(pw : Int)] (by simp) rfl rfl (by simp)) (by omega) (by omega) (fun c hc => by rw [List.mem_singleton.1 hc]; exact HCH.out) (by simp)).mono ?_
      rw [HRUN.out]
      rintro e w1 ⟨pv, rfl, hp, hb1⟩
      have sp := hp.isSl
      have hb2 := Below.chain ((Below.refl _ _).alloc (Nat.le_refl _) _) hb1
      have hz1 := hb2.size
      have hsz1 := hb1.size
      rw [World.size_alloc] at hsz1
      have hap : 0 < (adjT n q).length → row u5 ≠ some (vblk pv) := fun h0 e => by
        have h1 := (HO.out.own.lt _ e).2
        have h2 := (hp.lt _ (row_some (by have := hp.ints.cap; omega))).1
        rw [World.size_alloc] at h2
        omega
      have HP := Lib.hid hp.ints; have HO1 := Lib.hid (HO.out.below hb2); have HB1 := Lib.hid (Below.chain HB.out hb2); have HAP := Lib.hid hap
      clear hp hb1 hb2 hap
      go_wp2_with (at_builtin; refine wpList_pushRow (v := u5) rfl _ _ rfl rfl rfl HO1.out HP.out (by omega) (by rw [List.length_take]; omega) HAP.out ?_; intro v2 w2 ho2 hg2 hr2; have s2 := ho2.own.isSl)
      rw [adjS_take (by omega)] at ho2
      have hb2 := Below_of_grown HB1.out hg2 (by omega) (fun b hb => (HO1.out.own.lt b hb).1)
      go_roundw
      case rel => exact ⟨q + 1, by omega, by go_num, ho2, hb2⟩
      case measure => (simp [intOf]; try omega)
    · obtain rfl : q = m := by omega
      have hs : (adjS n).take q = adjS n := List.take_of_length_le (by rw [adjS_length]; omega)
      have hs2 := HO.out
      rw [hs] at hs2
      obtain ⟨vs, hv⟩ := hs2.own.rows
      have sl := hv.isSl
      have ll := hv.len
      rw [adjS_length] at ll
      have HV := Lib.hid hv
      have HP := Lib.hid (adjS_pm (n := n) (by omega))
      have hG : (adjS n).length ≤ 6 := by rw [adjS_length]; omega
      have HG := Lib.hid hG
      clear hs hs2 hv hG
      go_wp2_with fail
      refine (gorder2_calls n u5 vs (adjS n) _ HV.out HP.out (by omega) HG.out).mono ?_
      rintro e w2 ⟨k, rfl, hk, hkb, hb⟩
      have hkn := adj_card (n := n) (by omega) hk (by rw [← factN_fact]; exact hkb)
      clear hk hkb
      obtain ⟨fn, hfn⟩ : ∃ fn, fact n = fn := ⟨_, rfl⟩
      rw [hfn] at hkn
      subst hkn
      have HFN := Lib.hid hfn
      clear hfn
      replace HV := Lib.hid (HV.out.below hb); replace HB := Lib.hid (Below.chain HB.out hb); replace HR := Lib.hid (HR.out.below HB.out)
      clear hb
      go_wp2_with fail
      go_loop [11, 12] (fun a k => ∃ K : Nat, k = .int .i64 K ∧ 2 ≤ K ∧ K ≤ n + 1 ∧ a = .int .i64 (fact (K - 1))) (fun a k => n + 1 - (intOf k).toNat)
      case atStart => exact ⟨2, rfl, by omega, by omega, rfl⟩
      case round =>
        obtain ⟨K, rfl, hK2, hKn, rfl⟩ := hrel
        by_cases hle : K ≤ n
        · obtain ⟨hmul, hf720⟩ := fact_step (K := K) (by omega) (by omega)
          obtain ⟨f0, hf0⟩ : ∃ f, fact (K - 1) = f := ⟨_, rfl⟩
          obtain ⟨f1, hf1⟩ : ∃ f, fact K = f := ⟨_, rfl⟩
          rw [hf0, hf1] at hmul
          rw [hf1] at hf720
          rw [hf0]
          have HF1 := Lib.hid hf1
          clear hf0 hf1
          go_wp2_with fail
          go_round
          case rel => exact ⟨K + 1, by go_num, by omega, by omega, by rw [Nat.add_sub_cancel, HF1.out]⟩
          case measure => (simp [intOf]; try omega)
        · obtain rfl : K = n + 1 := by omega
          rw [Nat.add_sub_cancel, HFN.out]
          have hch := changesL_right (m := n - 1) (by omega) zs 30
          rw [show n - 1 + 1 = n by omega] at hch
          have hcl := changesL_length n zs 30
          obtain ⟨C, hC⟩ : ∃ C, changesL n zs 30 = C := ⟨_, rfl⟩
          rw [hC] at hch hcl
          have HCH := Lib.hid hch; have HC := Lib.hid hC
          clear hch hC hKn hle hK2
          go_wp2_with fail
          refine (changesN_calls n raw zs 30 _ HR.out HZ.out (by omega) (by omega) (by decide)).mono ?_
          rw [HC.out]
          rintro e w3 ⟨cv, rfl, hc, hb⟩
          have sc := hc.isSl
          have HCV := Lib.hid hc.ints
          replace HV := Lib.hid (HV.out.below hb); replace HB := Lib.hid (Below.chain HB.out hb)
          clear hc hb
          go_wp2_with fail
          refine (leadHeadN_calls n cv C _ HCV.out (by omega) (by omega) HCH.out (by omega)).mono ?_
          have hpm : Pm n (runL (iota n) C) := ⟨runL_isPerm C (by omega), by rw [runL_length, iota_length]⟩
          obtain ⟨p, hp⟩ : ∃ p, runL (iota n) C = p := ⟨_, rfl⟩
          rw [hp] at hpm ⊢
          have hgen := adj_gen (n := n) (by omega) hpm
          rintro e w4 ⟨pv, rfl, hpv, hb⟩
          have sp := hpv.isSl
          have lp := hpv.len
          rw [hpm.2] at lp
          have HPM := Lib.hid hpm; have HGEN := Lib.hid hgen; have HPV := Lib.hid hpv.ints
          replace HV := Lib.hid (HV.out.below hb); replace HB := Lib.hid (Below.chain HB.out hb)
          clear hp hpm hgen hpv hb HCV
          go_wp2_with fail
          refine (gcontains_calls n u5 vs (adjS n) pv p _ HV.out HP.out HPV.out HGEN.out (by omega) HG.out).mono ?_
          rintro e w5 ⟨rfl, hb⟩
          replace HV := Lib.hid (HV.out.below hb); replace HB := Lib.hid (Below.chain HB.out hb); replace HPV := Lib.hid (HPV.out.below hb)
          clear hb
          go_wp2_with fail
          refine (gfactor_calls n u5 vs (adjS n) pv p _ HV.out HP.out HPV.out HGEN.out (by omega) HG.out).mono ?_
          rintro e w6 ⟨yv, Y, rfl, hy, hval, hYok, hshort, hb⟩
          have hlen := adj_short (n := n) (by omega) HPM.out hYok hval hshort
          have hrung := rung_val (n := n) (by omega) Y hYok
          rw [hval] at hrung
          have hinv := inv_le n p HPM.out.2 (by omega)
          rw [← hlen] at hinv
          have sy := hy.isSl
          have ly := hy.len
          obtain ⟨L, hL⟩ : ∃ L, Y.length = L := ⟨_, rfl⟩
          rw [hL] at ly hinv
          have hyb : ∀ y ∈ Y, y ≠ 0 ∧ y.natAbs < n := fun y h => ⟨(hYok y h).1, by have := okL_adj (hYok y h); have := (hYok y h).1; omega⟩
          have HY := Lib.hid hy.ints; have HYB := Lib.hid hyb; have HRUNG := Lib.hid hrung; have HL := Lib.hid hL; have HLEN := Lib.hid hlen
          replace HB := Lib.hid (Below.chain HB.out hb); replace HPV := Lib.hid (HPV.out.below hb)
          have hws6 := HB.out.size
          clear hy hval hYok hshort hb hrung hL hlen hyb HV
          go_wp2_with fail
          refine (callsIn_wide.1 (backward_in Fence.wide 0 trivial hro _ sy _)).mono ?_
          rintro e w' ⟨rfl, rfl⟩
          go_wp2_with fail
          obtain ⟨W0, hW0⟩ : ∃ W0, W0 = (w6.alloc (.cells #[.slice none 0 0] 22)).alloc (.cells #[yv] 22) := ⟨_, rfl⟩
          have bO : Boxed W0 w6.heap.size 22 (.slice none 0 0) := by rw [hW0]; exact (Boxed.new w6 22 (.slice none 0 0)).alloc _
          have bN : Boxed W0 (w6.heap.size + 1) 22 yv := by
            rw [hW0]
            have := Boxed.new (w6.alloc (.cells #[.slice none 0 0] 22)) 22 yv
            rwa [World.size_alloc] at this
          have hB3 : Below w6.heap.size w6 W0 := by rw [hW0]; exact ((Below.refl _ _).alloc (Nat.le_refl _) _).alloc (by simp) _
          have hs0 : W0.heap.size = w6.heap.size + 2 := by rw [hW0]; simp
          have hB0 : Below w.heap.size w W0 := Below.chain HB.out hB3
          rw [← hW0]
          have HW0 := Lib.hid hW0; clear hW0
          obtain ⟨g, hg⟩ : ∃ g : Nat → Int, g = fun j => if j < Y.length then nth Y j else 1 := ⟨_, rfl⟩
          have hg1 : ∀ j, j < Y.length → g j = nth Y j := fun j hj => by rw [hg]; simp [hj]
          have hg2 : ∀ j, g j ≠ 0 ∧ (g j).natAbs < n := fun j => by
            rcases Nat.lt_or_ge j Y.length with h | h
            · rw [hg1 j h]; exact HYB.out _ (nth_mem h)
            · rw [hg]; simp [Nat.not_lt.2 h]; omega
          have HG1 := Lib.hid hg1; have HG2 := Lib.hid hg2; clear hg hg1 hg2
          obtain ⟨it, hit, hz0, hz1, hz2⟩ := info_parts info_int
          have hn3 : w6.heap.size ≤ W0.heap.size := hB3.size
          refine (wpIn_wide (n := 3)).1 ?_
          refine wpIn_rangeFunc_ownG hro i1 (gf := 92) (lb := #[.pointer (some ⟨w6.heap.size + 1, 0, none⟩)]) rfl trivial (enters_of Try.func92 (by kernel_rfl) rfl)
            (backward_stopsG Fence.wide (3 - 1) trivial hro (by omega) (w6.heap.size + 1) w6.heap.size yv Y g HG1.out w6 _ rfl HY.out hB3 (by omega) bN.cell) keepB_t (keepB_b (by omega) (by omega)) (Below.refl _ _) (fun _ => rfl)
            (fun pre W => ((∃ x, Boxed W w6.heap.size 22 x ∧ OwnI W w6.heap.size x (pre.map fun j => ((2 ^ ((g j).natAbs - 1) : Nat) : Int))) ∧ Boxed W (w6.heap.size + 1) 22 yv) ∧ Below w6.heap.size w6 W)
            (fun _ _ _ => False)
            (OwnFrom.and (OwnFrom.and rung_from (Go.Own.from (boxed_own _ _ _) _)) (ownFrom_below (Nat.le_refl _) (by omega)))
            (fun _ _ _ _ _ hs _ _ => hs)
            ⟨⟨⟨_, bO, ownI_nil _ _⟩, bN⟩, hB3⟩
            ?act ?assign ?body ?done ?stop
          case assign =>
            intro l x W K hK
            gi_wp2
            exact hK
          case body =>
            rintro l pre x W ⟨⟨⟨y, hu, ho⟩, hbx⟩, hBW⟩ hlt
            obtain ⟨c, hcx⟩ : ∃ c, c = g x := ⟨_, rfl⟩
            obtain ⟨hx1, hx2⟩ : c ≠ 0 ∧ c.natAbs < n := by rw [hcx]; exact HG2.out x
            obtain ⟨k1, hk1⟩ : ∃ k1, c.natAbs - 1 = k1 := ⟨_, rfl⟩
            have hmax : max c (-c) - 1 = (k1 : Int) := by omega
            have hkn : ((k1 : Nat) : Int).toNat = k1 := by omega
            have hmin : min k1 64 = k1 := by omega
            have hwn : IntKind.i64.wrap (-c) = -c := IntWalk.i64_in _ (by omega)
            have hwm : IntKind.i64.wrap (max c (-c) - 1) = (k1 : Int) := by rw [hmax]; exact IntWalk.i64_in _ (by omega)
            clear hmax
            have hpw := (pow_wrap ⟨k1, by omega⟩).1
            simp only at hpw
            obtain ⟨pw, hpe⟩ : ∃ pw : Nat, 2 ^ k1 = pw := ⟨_, rfl⟩
            rw [hpe] at hpw
            have hfx : (pre.map fun j => ((2 ^ ((g j).natAbs - 1) : Nat) : Int)) ++ [(pw : Int)] = (pre ++ [x]).map fun j => ((2 ^ ((g j).natAbs - 1) : Nat) : Int) := by
              rw [List.map_append, ← hpe, ← hk1, hcx]; rfl
            simp only [← hcx]
            have hpl : pre.length < 37 := by have := HL.out; omega
            have hbw := hu.lt
            have sy := ho.isSl
            have hc0 := hu.cell
            have cI : -100 ≤ c ∧ c ≤ 100 := by omega
            obtain ⟨D, hD⟩ : ∃ D, D = W.drew := ⟨_, rfl⟩
            have hbD : Below W.heap.size W D := by rw [hD]; exact (Below.refl _ W).drew
            have hBD : w6.heap.size ≤ D.heap.size := by rw [hD]; exact Nat.le_of_lt hbw
            have hOD := ho.below hbD
            have hCD := (boxed_below' hu hbD).cell
            have hCD2 : ∀ E, E = World.alloc D (.cells #[.int .i64 pw] 3) → E.cell? ⟨w6.heap.size, 0, none⟩ = some y := fun E hE => by
              rw [hE]; exact ((boxed_below' hu hbD).alloc _).cell
            have HCX := Lib.hid hcx; have HFX := Lib.hid hfx; have HU := Lib.hid hu; have HO := Lib.hid ho; have HBX := Lib.hid hbx; have HBW := Lib.hid hBW; have HD := Lib.hid hD.symm; have HOD := Lib.hid hOD; have HCD := Lib.hid hCD; have HCD2 := Lib.hid hCD2; have HPE := Lib.hid hpe; have HK1 := Lib.hid hk1
            clear hcx hfx hu ho hbx hBW hD hOD hCD hCD2 hpe hk1 hc0 hbD
            gi_wp2
            refine wpIn_region_held (fun _ => True) 10 rfl (by kernel_rfl) (by kernel_rfl) (by rintro ⟨_, _, h⟩; exact h) trivial (fun hHeld => ?_)
            rw [HD.out]
            refine' wpAnyH_take (i := 1) (oi := ?oiz7) (v := ?vz7) ?haz7 (by kernel_rfl) ?hfz7 ?hrz7 ?hQz7 (Or.inl ⟨?hwz7, ?hyz7⟩) (by assumption) ?restz7
            case haz7 => (simp only [List.getElem?_toArray, List.getElem?_cons_succ, List.getElem?_cons_zero]; exact rfl)
            case hQz7 => exact fun _ _ _ h => h
            case hfz7 => kernel_rfl
            case hrz7 => kernel_rfl
            case hwz7 => rfl
            case hyz7 => (intro w hSw; (try dsimp only at hSw); skip; go_simp; (try with_reducible rfl))
            try simp only [Act.put, List.setIfInBounds_toArray, List.set_cons_zero, List.set_cons_succ]
            refine' wpAnyH_take (i := 2) (oi := ?oiz8) (v := ?vz8) ?haz8 (by kernel_rfl) ?hfz8 ?hrz8 ?hQz8 (Or.inl ⟨?hwz8, ?hyz8⟩) (by assumption) ?restz8
            case haz8 => (simp only [List.getElem?_toArray, List.getElem?_cons_succ, List.getElem?_cons_zero]; exact rfl)
            case hQz8 => exact fun _ _ _ h => h
            case hfz8 => kernel_rfl
            case hrz8 => kernel_rfl
            case hwz8 => rfl
            case hyz8 => (intro w hSw; (try dsimp only at hSw); skip; go_simp; (try with_reducible rfl))
            try simp only [Act.put, List.setIfInBounds_toArray, List.set_cons_zero, List.set_cons_succ]
            refine' wpAnyH_take (i := 3) (oi := ?oiz9) (v := ?vz9) ?haz9 (by kernel_rfl) ?hfz9 ?hrz9 ?hQz9 (Or.inl ⟨?hwz9, ?hyz9⟩) (by assumption) ?restz9
            case haz9 => (simp only [List.getElem?_toArray, List.getElem?_cons_succ, List.getElem?_cons_zero]; exact rfl)
            case hQz9 => exact fun _ _ _ h => h
            case hfz9 => kernel_rfl
            case hrz9 => kernel_rfl
            case hwz9 => rfl
            case hyz9 => (intro w hSw; (try dsimp only at hSw); skip; go_simp; (try with_reducible rfl))
            try simp only [Act.put, List.setIfInBounds_toArray, List.set_cons_zero, List.set_cons_succ]
            refine' wpAnyH_take (i := 4) (oi := ?oiz10) (v := ?vz10) ?haz10 (by kernel_rfl) ?hfz10 ?hrz10 ?hQz10 (Or.inl ⟨?hwz10, ?hyz10⟩) (by assumption) ?restz10
            case haz10 => (simp only [List.getElem?_toArray, List.getElem?_cons_succ, List.getElem?_cons_zero]; exact rfl)
            case hQz10 => exact fun _ _ _ h => h
            case hfz10 => kernel_rfl
            case hrz10 => kernel_rfl
            case hwz10 => rfl
            case hyz10 => (intro w hSw; (try dsimp only at hSw); skip; go_simp; (try with_reducible rfl))
            try simp only [Act.put, List.setIfInBounds_toArray, List.set_cons_zero, List.set_cons_succ]
            refine' wpAnyH_take (i := 5) (oi := ?oiz11) (v := ?vz11) ?haz11 (by kernel_rfl) ?hfz11 ?hrz11 ?hQz11 (Or.inl ⟨?hwz11, ?hyz11⟩) (by assumption) ?restz11
            case haz11 => (simp only [List.getElem?_toArray, List.getElem?_cons_succ, List.getElem?_cons_zero]; exact rfl)
            case hQz11 => exact fun _ _ _ h => h
            case hfz11 => kernel_rfl
            case hrz11 => kernel_rfl
            case hwz11 => rfl
            case hyz11 => (intro w hSw; (try dsimp only at hSw); skip; go_simp; (try with_reducible rfl))
            try simp only [Act.put, List.setIfInBounds_toArray, List.set_cons_zero, List.set_cons_succ]
            refine' wpAnyH_take (i := 6) (oi := ?oiz12) (v := ?vz12) ?haz12 (by kernel_rfl) ?hfz12 ?hrz12 ?hQz12 (Or.inl ⟨?hwz12, ?hyz12⟩) (by assumption) ?restz12
            case haz12 => (simp only [List.getElem?_toArray, List.getElem?_cons_succ, List.getElem?_cons_zero]; exact rfl)
            case hQz12 => exact fun _ _ _ h => h
            case hfz12 => kernel_rfl
            case hrz12 => kernel_rfl
            case hwz12 => rfl
            case hyz12 => (intro w hSw; (try dsimp only at hSw); skip; go_simp; (try with_reducible rfl))
            try simp only [Act.put, List.setIfInBounds_toArray, List.set_cons_zero, List.set_cons_succ]
            refine wpAnyH_ready (rs := [0, 7]) (by kernel_rfl) (by simp) ?_
            refine' AllReadyH.cons (o := ?oiz13) ?haz13 (fun K hK => ?stepz13) (AllReadyH.cons (o := ?oiz14) ?haz14 (fun K hK => ?stepz14) AllReadyH.nil)
            case haz13 => (simp only [List.getElem?_toArray, List.getElem?_cons_zero]; exact rfl)
            case haz14 => (simp only [List.getElem?_toArray, List.getElem?_cons_succ, List.getElem?_cons_zero]; exact rfl)
            case stepz13 =>
              have c0 := HCD.out
              go_simp
              clear c0
              refine hK.out _ _ (trivial) (fun hHeld => ?_)
              clear hK K
              try simp only [Act.put, List.setIfInBounds_toArray, List.set_cons_zero, List.set_cons_succ]
              refine wpAnyH_ready (rs := [7]) (by kernel_rfl) (by simp) ?_
              refine' AllReadyH.cons (o := ?oiz3) ?haz3 (fun K hK => ?stepz3) AllReadyH.nil
              case haz3 => (simp only [List.getElem?_toArray, List.getElem?_cons_succ, List.getElem?_cons_zero]; exact rfl)
              go_simp
              obtain ⟨E, hE⟩ : ∃ E, E = World.alloc D (.cells #[.int .i64 pw] 3) := ⟨_, rfl⟩
              rw [← hE]
              have HE := Lib.hid hE
              clear hE
              refine hK.out _ _ (trivial) (fun hHeld => ?_)
              clear hK K
              try simp only [Act.put, List.setIfInBounds_toArray, List.set_cons_zero, List.set_cons_succ]
              refine wpAnyH_ready (rs := [8]) (by kernel_rfl) (by simp) ?_
              refine' AllReadyH.cons (o := ?oiz2) ?haz2 (fun K hK => ?stepz2) AllReadyH.nil
              case haz2 => (simp only [List.getElem?_toArray, List.getElem?_cons_succ, List.getElem?_cons_zero]; exact rfl)
              refine step_pushI (.tmp 113) (.tmp 120) HE.out rfl rfl rfl HOD.out (by omega) (by rw [List.length_map]; omega) ?_
              intro v2 w2 ho2 hg2 hr2
              have s2 := ho2.isSl
              have bx2 := rung_box HU.out HO.out (by rw [HD.out]; exact hg2)
              have b0 : (w2.cell? ⟨w6.heap.size, 0, none⟩).isSome = true := by rw [cell_of_one bx2]; rfl
              have f0 := free_of_one bx2
              refine hK.out _ _ (trivial) (fun hHeld => ?_)
              clear hK K
              try simp only [Act.put, List.setIfInBounds_toArray, List.set_cons_zero, List.set_cons_succ]
              refine wpAnyH_ready (rs := [9]) (by kernel_rfl) (by simp) ?_
              refine' AllReadyH.cons (o := ?oiz1) ?haz1 (fun K hK => ?stepz1) AllReadyH.nil
              case haz1 => (simp only [List.getElem?_toArray, List.getElem?_cons_succ, List.getElem?_cons_zero]; exact rfl)
              go_simp
              refine hK.out _ _ (trivial) (fun hHeld => ?_)
              clear hK K
              try simp only [Act.put, List.setIfInBounds_toArray, List.set_cons_zero, List.set_cons_succ]
              refine wpAnyH_done (by kernel_rfl) ?_ _
              gi_wp2
              have hst := rung_step (E := W0.heap.size) (Nat.le_refl _) HBW.out HU.out HBX.out HO.out ho2 (by rw [HD.out]; exact hg2)
              rw [HFX.out] at hst
              exact hst
            case stepz14 =>
              go_simp
              obtain ⟨E, hE⟩ : ∃ E, E = World.alloc D (.cells #[.int .i64 pw] 3) := ⟨_, rfl⟩
              rw [← hE]
              have HE := Lib.hid hE
              clear hE
              refine hK.out _ _ (trivial) (fun hHeld => ?_)
              clear hK K
              try simp only [Act.put, List.setIfInBounds_toArray, List.set_cons_zero, List.set_cons_succ]
              refine wpAnyH_ready (rs := [0]) (by kernel_rfl) (by simp) ?_
              refine' AllReadyH.cons (o := ?oiz6) ?haz6 (fun K hK => ?stepz6) AllReadyH.nil
              case haz6 => (simp only [List.getElem?_toArray, List.getElem?_cons_zero]; exact rfl)
              have c0 := HCD2.out E HE.out
              go_simp
              clear c0
              refine hK.out _ _ (trivial) (fun hHeld => ?_)
              clear hK K
              try simp only [Act.put, List.setIfInBounds_toArray, List.set_cons_zero, List.set_cons_succ]
              refine wpAnyH_ready (rs := [8]) (by kernel_rfl) (by simp) ?_
              refine' AllReadyH.cons (o := ?oiz5) ?haz5 (fun K hK => ?stepz5) AllReadyH.nil
              case haz5 => (simp only [List.getElem?_toArray, List.getElem?_cons_succ, List.getElem?_cons_zero]; exact rfl)
              refine step_pushI (.tmp 113) (.tmp 120) HE.out rfl rfl rfl HOD.out (by omega) (by rw [List.length_map]; omega) ?_
              intro v2 w2 ho2 hg2 hr2
              have s2 := ho2.isSl
              have bx2 := rung_box HU.out HO.out (by rw [HD.out]; exact hg2)
              have b0 : (w2.cell? ⟨w6.heap.size, 0, none⟩).isSome = true := by rw [cell_of_one bx2]; rfl
              have f0 := free_of_one bx2
              refine hK.out _ _ (trivial) (fun hHeld => ?_)
              clear hK K
              try simp only [Act.put, List.setIfInBounds_toArray, List.set_cons_zero, List.set_cons_succ]
              refine wpAnyH_ready (rs := [9]) (by kernel_rfl) (by simp) ?_
              refine' AllReadyH.cons (o := ?oiz4) ?haz4 (fun K hK => ?stepz4) AllReadyH.nil
              case haz4 => (simp only [List.getElem?_toArray, List.getElem?_cons_succ, List.getElem?_cons_zero]; exact rfl)
              go_simp
              refine hK.out _ _ (trivial) (fun hHeld => ?_)
              clear hK K
              try simp only [Act.put, List.setIfInBounds_toArray, List.set_cons_zero, List.set_cons_succ]
              refine wpAnyH_done (by kernel_rfl) ?_ _
              gi_wp2
              have hst := rung_step (E := W0.heap.size) (Nat.le_refl _) HBW.out HU.out HBX.out HO.out ho2 (by rw [HD.out]; exact hg2)
              rw [HFX.out] at hst
              exact hst
          case done =>
            rintro D ys W hD rfl ⟨⟨⟨y, hu, ho⟩, -⟩, hBW⟩ hK
            have hrr := (downs_rung Y g HG1.out)
            rw [hrr] at ho
            have hrl : (rungL Y).length ≤ 5040 := by unfold rungL; rw [List.length_map, List.length_reverse, HL.out]; omega
            have hrc : ∀ c ∈ rungL Y, Chg (n - 1) c := fun c hc => by
              unfold rungL at hc
              obtain ⟨y, hy, rfl⟩ := List.mem_map.1 hc
              have h1 := HYB.out y (List.mem_reverse.1 hy)
              rw [pow_cast]
              exact pow_chg (by omega) (by omega)
            have sy := ho.isSl
            have cy := hu.cell
            have HY2 := Lib.hid ho.ints; have HRC := Lib.hid hrc; have HRL := Lib.hid hrl; have HBW := Lib.hid (Below.chain HB.out hBW); have HK := Lib.hid hK
            have HPX := Lib.hid (show Ints W pv p from HPV.out.below hBW)
            have hDl : D < W.heap.size := (Array.getElem?_eq_some_iff.1 hK).1
            clear ho hu hrr hrl hrc hBW hK
            gi_wp2
            go_wp2_with fail
            refine (leadHeadN_calls n y (rungL Y) _ HY2.out (by omega) (by omega) HRC.out HRL.out).mono ?_
            rw [HRUNG.out]
            rintro e W2 ⟨av, rfl, hav, hb⟩
            have sav := hav.isSl
            have HAV := Lib.hid hav.ints
            have HK2 := Lib.hid ((hb.block D hDl).trans HK.out)
            have HB2 := Lib.hid (Below.chain HBW.out hb)
            have hPW := (HPX.out.below hb)
            have HPW := Lib.hid hPW
            clear hav hb hPW cy HY2 HRC HRL HBW HK
            go_wp2_with fail
            go_loopw [24, 130] (fun c i wr => ∃ a : Nat, i = .int .i64 a ∧ a ≤ n ∧ c = .int .i64 (invR (p.take a)) ∧ Below W2.heap.size W2 wr) (fun _ i _ => n - (intOf i).toNat)
            case atStart => exact ⟨0, rfl, Nat.zero_le _, rfl, Below.refl _ _⟩
            case round =>
              obtain ⟨a, rfl, ha, rfl, hb⟩ := hrel
              have HBA := Lib.hid hb
              clear hb
              by_cases hlt : a < n
              · obtain ⟨I, hI⟩ : ∃ I, invR (p.take a) = I := ⟨_, rfl⟩
                have hI36 : I ≤ 36 := by rw [← hI]; exact inv_le a _ (by rw [List.length_take, HPM.out.2]; omega) (by omega)
                obtain ⟨x, hx⟩ : ∃ x, nth p a = x := ⟨_, rfl⟩
                rw [hI]
                have HI := Lib.hid hI; have HX := Lib.hid hx
                clear hI hx
                go_wp2_with fail
                go_loopw [24, 134] (fun c j wr => ∃ b : Nat, j = .int .i64 b ∧ b ≤ a ∧ c = .int .i64 ((I + more (p.take b) x : Nat) : Int) ∧ Below W2.heap.size W2 wr) (fun _ j _ => a - (intOf j).toNat)
                case atStart => exact ⟨0, rfl, Nat.zero_le _, rfl, HBA.out⟩
                case round =>
                  obtain ⟨b, rfl, hb, rfl, hbb⟩ := hrel
                  have HBB := Lib.hid hbb
                  clear hbb
                  obtain ⟨m0, hm0⟩ : ∃ m0, I + more (p.take b) x = m0 := ⟨_, rfl⟩
                  have hm50 : m0 ≤ 50 := by have := more_le (p.take b) x; rw [List.length_take] at this; omega
                  rw [hm0]
                  by_cases hltb : b < a
                  · obtain ⟨y2, hy2⟩ : ∃ y2, nth p b = y2 := ⟨_, rfl⟩
                    have hst := more_take p x (b := b) (by rw [HPM.out.2]; omega)
                    rw [hy2] at hst
                    have facts : ∀ wx, Below W2.heap.size W2 wx → wx.cell? (vat pv b) = some (.int .i64 y2) ∧ wx.cell? (vat pv a) = some (.int .i64 x) := fun wx hwx => by
                      have h1 := (HPW.out.below hwx).cell (k := b) (by rw [HPM.out.2]; omega)
                      have h2 := (HPW.out.below hwx).cell (k := a) (by rw [HPM.out.2]; omega)
                      rw [hy2] at h1
                      rw [HX.out] at h2
                      exact ⟨h1, h2⟩
                    have hban : b < n := by omega
                    have FACTS := Lib.hid facts; have HM0 := Lib.hid hm0; have HST := Lib.hid hst
                    clear facts hm0 hst hy2
                    rename World => wz
                    go_wp2_with fail
                    refine wp_region_held_drew (S := fun W => Below W2.heap.size W2 W) (by kernel_rfl) (HBB.out.drew) (fun hHeld => ?_)
                    refine' wpAnyH_take (i := 0) (oi := ?oiz15) (v := ?vz15) ?haz15 (by kernel_rfl) ?hfz15 ?hrz15 ?hQz15 (Or.inl ⟨?hwz15, ?hyz15⟩) (by assumption) ?restz15
                    case haz15 => (simp only [List.getElem?_toArray, List.getElem?_cons_zero]; exact rfl)
                    case hQz15 => exact fun _ _ _ h => panicM_put (t0 := 4) rfl (by decide) h
                    case hfz15 => kernel_rfl
                    case hrz15 => kernel_rfl
                    case hwz15 => rfl
                    case hyz15 => (intro w hSw; (try dsimp only at hSw); obtain ⟨e0, e1⟩ := FACTS.out _ hSw; go_simp; (try with_reducible rfl))
                    try simp only [Act.put, List.setIfInBounds_toArray, List.set_cons_zero, List.set_cons_succ]
                    refine' wpAnyH_take (i := 1) (oi := ?oiz16) (v := ?vz16) ?haz16 (by kernel_rfl) ?hfz16 ?hrz16 ?hQz16 (Or.inl ⟨?hwz16, ?hyz16⟩) (by assumption) ?restz16
                    case haz16 => (simp only [List.getElem?_toArray, List.getElem?_cons_succ, List.getElem?_cons_zero]; exact rfl)
                    case hQz16 => exact fun _ _ _ h => panicM_put (t0 := 4) rfl (by decide) h
                    case hfz16 => kernel_rfl
                    case hrz16 => kernel_rfl
                    case hwz16 => rfl
                    case hyz16 => (intro w hSw; (try dsimp only at hSw); obtain ⟨e0, e1⟩ := FACTS.out _ hSw; go_simp; (try with_reducible rfl))
                    try simp only [Act.put, List.setIfInBounds_toArray, List.set_cons_zero, List.set_cons_succ]
                    refine' wpAnyH_take (i := 2) (oi := ?oiz17) (v := ?vz17) ?haz17 (by kernel_rfl) ?hfz17 ?hrz17 ?hQz17 (Or.inl ⟨?hwz17, ?hyz17⟩) (by assumption) ?restz17
                    case haz17 => (simp only [List.getElem?_toArray, List.getElem?_cons_succ, List.getElem?_cons_zero]; exact rfl)
                    case hQz17 => exact fun _ _ _ h => panicM_put (t0 := 4) rfl (by decide) h
                    case hfz17 => kernel_rfl
                    case hrz17 => kernel_rfl
                    case hwz17 => rfl
                    case hyz17 => (intro w hSw; (try dsimp only at hSw); obtain ⟨e0, e1⟩ := FACTS.out _ hSw; go_simp; (try with_reducible rfl))
                    try simp only [Act.put, List.setIfInBounds_toArray, List.set_cons_zero, List.set_cons_succ]
                    refine' wpAnyH_take (i := 3) (oi := ?oiz18) (v := ?vz18) ?haz18 (by kernel_rfl) ?hfz18 ?hrz18 ?hQz18 (Or.inl ⟨?hwz18, ?hyz18⟩) (by assumption) ?restz18
                    case haz18 => (simp only [List.getElem?_toArray, List.getElem?_cons_succ, List.getElem?_cons_zero]; exact rfl)
                    case hQz18 => exact fun _ _ _ h => panicM_put (t0 := 4) rfl (by decide) h
                    case hfz18 => kernel_rfl
                    case hrz18 => kernel_rfl
                    case hwz18 => rfl
                    case hyz18 => (intro w hSw; (try dsimp only at hSw); obtain ⟨e0, e1⟩ := FACTS.out _ hSw; go_simp; (try with_reducible rfl))
                    try simp only [Act.put, List.setIfInBounds_toArray, List.set_cons_zero, List.set_cons_succ]
                    refine' wpAnyH_take (i := 4) (oi := ?oiz19) (v := ?vz19) ?haz19 (by kernel_rfl) ?hfz19 ?hrz19 ?hQz19 (Or.inl ⟨?hwz19, ?hyz19⟩) (by assumption) ?restz19
                    case haz19 => (simp only [List.getElem?_toArray, List.getElem?_cons_succ, List.getElem?_cons_zero]; exact rfl)
                    case hQz19 => exact fun _ _ _ h => panicM_put (t0 := 4) rfl (by decide) h
                    case hfz19 => kernel_rfl
                    case hrz19 => kernel_rfl
                    case hwz19 => rfl
                    case hyz19 => (intro w hSw; (try dsimp only at hSw); obtain ⟨e0, e1⟩ := FACTS.out _ hSw; go_simp; (try with_reducible rfl))
                    try simp only [Act.put, List.setIfInBounds_toArray, List.set_cons_zero, List.set_cons_succ]
                    refine' wpAnyH_take (i := 5) (oi := ?oiz20) (v := ?vz20) ?haz20 (by kernel_rfl) ?hfz20 ?hrz20 ?hQz20 (Or.inl ⟨?hwz20, ?hyz20⟩) (by assumption) ?restz20
                    case haz20 => (simp only [List.getElem?_toArray, List.getElem?_cons_succ, List.getElem?_cons_zero]; exact rfl)
                    case hQz20 => exact fun _ _ _ h => panicM_put (t0 := 4) rfl (by decide) h
                    case hfz20 => kernel_rfl
                    case hrz20 => kernel_rfl
                    case hwz20 => rfl
                    case hyz20 => (intro w hSw; (try dsimp only at hSw); obtain ⟨e0, e1⟩ := FACTS.out _ hSw; go_simp; (try with_reducible rfl))
                    try simp only [Act.put, List.setIfInBounds_toArray, List.set_cons_zero, List.set_cons_succ]
                    refine' wpAnyH_take (i := 6) (oi := ?oiz21) (v := ?vz21) ?haz21 (by kernel_rfl) ?hfz21 ?hrz21 ?hQz21 (Or.inl ⟨?hwz21, ?hyz21⟩) (by assumption) ?restz21
                    case haz21 => (simp only [List.getElem?_toArray, List.getElem?_cons_succ, List.getElem?_cons_zero]; exact rfl)
                    case hQz21 => exact fun _ _ _ h => panicM_put (t0 := 4) rfl (by decide) h
                    case hfz21 => kernel_rfl
                    case hrz21 => kernel_rfl
                    case hwz21 => rfl
                    case hyz21 => (intro w hSw; (try dsimp only at hSw); obtain ⟨e0, e1⟩ := FACTS.out _ hSw; go_simp; (try with_reducible rfl))
                    try simp only [Act.put, List.setIfInBounds_toArray, List.set_cons_zero, List.set_cons_succ]
                    refine' wpAnyH_take (i := 7) (oi := ?oiz22) (v := ?vz22) ?haz22 (by kernel_rfl) ?hfz22 ?hrz22 ?hQz22 (Or.inl ⟨?hwz22, ?hyz22⟩) (by assumption) ?restz22
                    case haz22 => (simp only [List.getElem?_toArray, List.getElem?_cons_succ, List.getElem?_cons_zero]; exact rfl)
                    case hQz22 => exact fun _ _ _ h => panicM_put (t0 := 4) rfl (by decide) h
                    case hfz22 => kernel_rfl
                    case hrz22 => kernel_rfl
                    case hwz22 => rfl
                    case hyz22 => (intro w hSw; (try dsimp only at hSw); obtain ⟨e0, e1⟩ := FACTS.out _ hSw; go_simp; (try with_reducible rfl))
                    try simp only [Act.put, List.setIfInBounds_toArray, List.set_cons_zero, List.set_cons_succ]
                    refine' wpAnyH_take (i := 8) (oi := ?oiz23) (v := ?vz23) ?haz23 (by kernel_rfl) ?hfz23 ?hrz23 ?hQz23 (Or.inl ⟨?hwz23, ?hyz23⟩) (by assumption) ?restz23
                    case haz23 => (simp only [List.getElem?_toArray, List.getElem?_cons_succ, List.getElem?_cons_zero]; exact rfl)
                    case hQz23 => exact fun _ _ _ h => panicM_put (t0 := 4) rfl (by decide) h
                    case hfz23 => kernel_rfl
                    case hrz23 => kernel_rfl
                    case hwz23 => rfl
                    case hyz23 => (intro w hSw; (try dsimp only at hSw); obtain ⟨e0, e1⟩ := FACTS.out _ hSw; go_simp; (try with_reducible rfl))
                    try simp only [Act.put, List.setIfInBounds_toArray, List.set_cons_zero, List.set_cons_succ]
                    refine wpAnyH_done (by kernel_rfl) ?_ _
                    by_cases hgt : x < y2
                    · have hgt' : y2 > x := hgt
                      go_wp2_with fail
                      go_roundw
                      case rel => exact ⟨b + 1, by go_num, by omega, by rw [HST.out, if_pos hgt]; exact congrArg (Value.int .i64) (by have := HM0.out; omega), HBB.out.drew⟩
                      case measure => (simp [intOf]; try omega)
                    · have hgt' : ¬ y2 > x := hgt
                      go_wp2_with fail
                      go_roundw
                      case rel => exact ⟨b + 1, by go_num, by omega, by rw [HST.out, if_neg hgt]; exact congrArg (Value.int .i64) (by have := HM0.out; omega), HBB.out.drew⟩
                      case measure => (simp [intOf]; try omega)
                  · obtain rfl : b = a := by omega
                    have hst := inv_take p (a := b) (by rw [HPM.out.2]; omega)
                    rw [HX.out, HI.out, hm0] at hst
                    have HST := Lib.hid hst
                    clear hst hm0
                    go_wp2_with fail
                    go_roundw
                    case rel => exact ⟨b + 1, by go_num, by omega, by rw [HST.out], HBB.out⟩
                    case measure => (simp [intOf]; try omega)
              · obtain rfl : a = n := by omega
                rw [List.take_of_length_le (by rw [HPM.out.2]; exact Nat.le_refl _), ← HLEN.out, HL.out]
                have HAV2 := Lib.hid (HAV.out.below HBA.out); have HPW2 := Lib.hid (HPW.out.below HBA.out); have HK3 := Lib.hid ((HBA.out.block D (by have := (Array.getElem?_eq_some_iff.1 HK2.out).1; exact this)).trans HK2.out)
                replace HB2 := Lib.hid (Below.chain HB2.out HBA.out)
                go_wp2_with fail
                refine (equal_calls _ _ _ _ _ HAV2.out HPW2.out).mono ?_
                rintro e W4 ⟨rfl, hb⟩
                have hk4 := (hb.block D (Array.getElem?_eq_some_iff.1 HK3.out).1).trans HK3.out
                replace HB2 := Lib.hid (Below.chain HB2.out hb)
                have HK4 := Lib.hid hk4
                clear hb hk4
                go_wp2_with fail
                refine ⟨by simp, .inl ⟨_, _, rfl, run_takeDeferred HK4.out, ?_⟩⟩
                exact ⟨_, results_tmp rfl _ _ _, by simp, HB2.out.trans (belowK_b (w := w) (Nat.le_refl _) W4 D _ _ (by omega) HK4.out rfl rfl)⟩
          case stop =>
            rintro D c pre W _ _ h _
            exact h.elim
end Go.Proofs.Ytplekfgadbjgdaa

