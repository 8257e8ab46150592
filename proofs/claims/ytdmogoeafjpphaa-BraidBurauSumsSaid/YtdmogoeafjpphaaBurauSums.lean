/- BraidBurauSums: for every input the statement returns true, and nothing that was there has changed. -/
import Derived.Test.YtdmogoeafjpphaaBurauSumLaw
import Derived.Test.YtdmogoeafjpphaaBSum
import Derived.Test.YtdmogoeafjpphaaBurauFn
import Derived.Test.YtdmogoeafjpphaaMatrices
import Derived.Test.YtdmogoeafjpphaaSides
namespace Go.Proofs.Ytdmogoeafjpphaa
open Go.RowKit Go.Sl

set_option maxHeartbeats 4000000 in
set_option maxRecDepth 100000 in
theorem braidBurauSums_true {w0 : World} (n : Int) (hn : I64 n) (a : Value) (as1 : List Int) (hra : Ints w0 a as1) (hxa : ∀ x ∈ as1, I64 x)
    (w : World) (hw : w = w0 := by rfl) :
    Calls Try.prog 5 #[.int .i64 n, a] w fun e w' => e = .returned (.bool true) ∧ Below w.heap.size w w' := by
  subst hw
  obtain ⟨N, hN⟩ : ∃ N : Nat, 2 + n % (6 - 1) = (N : Int) := ⟨(2 + n % (6 - 1)).toNat, by omega⟩
  have hN1 : 2 ≤ N := by omega
  have hN2 : N ≤ 6 := by omega
  obtain ⟨X, hX⟩ : ∃ X, X = wordL ((N : Int) - 1) as1 12 := ⟨_, rfl⟩
  have WX : BWord (N : Int) X := by rw [hX]; exact wordL_bw (by omega) as1 12
  have LX : X.length ≤ 12 := by rw [hX]; exact wordL_length _ as1 12
  have E4 : (burauM N X).length = N := burauM_length _ _
  have E5 : ∀ i, i < N → nthm (burauM N X) i = rowM N X i := fun i hi => nthm_burauM N X hi
  have HNW := Lib.hid WX.nword
  have HW1 := Lib.hid WX; have HL1 := Lib.hid LX; have HE4 := Lib.hid E4; have HE5 := Lib.hid E5
  have HN := Lib.hid hN; have HX0 := Lib.hid hX.symm; have HXA := Lib.hid hxa; have HRA := Lib.hid hra
  have sa := hra.isSl
  clear WX LX E4 E5 hN hX hxa hra
  go_enter Try.func5, Try.ntmps5
  go_wp2_with fail
  refine (strands_calls n 6 _ hn (by decide) (by decide)).mono ?_
  rintro e w' ⟨rfl, rfl⟩
  rw [HN.out]
  go_wp2_with fail
  refine (word_calls ((N : Int) - 1) a as1 12 _ HRA.out HXA.out (by omega) (by omega) (by omega)).mono ?_
  rintro e w1 ⟨x, rfl, hx, hb1⟩
  rw [HX0.out] at hx
  have sx := hx.isSl
  have HX := Lib.hid hx.ints; have HB1 := Lib.hid hb1
  clear hx hb1
  go_wp2_with fail
  refine (burau_calls N _ X _ HX.out (by omega) hN2 HW1.out (Nat.le_trans HL1.out (by omega))).mono ?_
  rintro e w2 ⟨m, vs, rfl, hm, hvl, hb2⟩
  have sm := hm.isSl
  have hmr := hm.mread (hvl.trans HE4.out.symm)
  have lm := hm.vlen
  rw [hvl] at lm
  have HM := Lib.hid hmr; have HB2 := Lib.hid (Below.chain HB1.out hb2)
  clear hm hvl hmr hb2
  go_wp2_with fail
  refine (braided_calls _).mono ?_
  rintro e w3 ⟨rfl, hb⟩
  have HM3 := Lib.hid (HM.out.below hb); have HB3 := Lib.hid (Below.chain HB2.out hb)
  clear hb HM HB2
  go_wp2_with fail
  go_loopw [38] (fun i wr => ∃ k : Nat, k ≤ N ∧ i = .int .i64 k ∧ Below w3.heap.size w3 wr) (fun i _ => N - (intOf i).toNat)
  case atStart => exact ⟨0, by omega, rfl, Below.refl _ _⟩
  case round =>
    rename World => Wo
    obtain ⟨i, hi, rfl, hb⟩ := hrel
    by_cases hlt : i < N
    · have hmr := HM3.out.below hb
      have ci := hmr.cell (i := i) (by rw [HE4.out]; exact hlt)
      obtain ⟨us, hus⟩ := hmr.row i (by rw [HE4.out]; exact hlt)
      rw [HE5.out i hlt] at hus
      have sr := hus.isSl
      have lr := hus.vlen
      rw [rowM_length] at lr
      have HMR := Lib.hid hmr; have HR := Lib.hid hus; have HB := Lib.hid hb
      clear hmr hus hb
      go_wp2_with fail
      go_loopw [47] (fun j wi => ∃ (k : Nat) (v1 v2 : Value), k ≤ N ∧ j = .int .i64 k ∧ Pair wi Wo.heap.size 27 (.int .i64 (rsumP N X i k).low) v1 ∧ OwnI wi (Wo.heap.size + 2) v1 (rsumP N X i k).c ∧ Pair wi (Wo.heap.size + 1) 27 (.int .i64 (csumP N X i k).low) v2 ∧ OwnI wi (Wo.heap.size + 2) v2 (csumP N X i k).c ∧ Below Wo.heap.size Wo wi ∧ Wo.heap.size + 2 ≤ wi.heap.size) (fun j _ => N - (intOf j).toNat)
      case atStart =>
        obtain ⟨p1, p2, b, hz⟩ := two Wo 27 (.int .i64 0) (.slice none 0 0) (.int .i64 0) (.slice none 0 0) _ rfl
        exact ⟨0, _, _, by omega, rfl, p1, ownI_nil _ _, p2, ownI_nil _ _, b, by rw [hz]; exact Nat.le_refl _⟩
      case round =>
        obtain ⟨k, v1, v2, hk, rfl, q1, o1, q2, o2, hb, hz⟩ := hrel
        obtain ⟨g1, g2, g3, rfl, -⟩ := o1.isSl.cases
        obtain ⟨h1, h2, h3, rfl, -⟩ := o2.isSl.cases
        have s1 := o1.isSl
        have s2 := o2.isSl
        by_cases hlk : k < N
        · have hr := HR.out.below hb
          have hkr : k < (rowM N X i).length := by rw [rowM_length]; exact hlk
          have e0 := hr.low hkr; have e1 := hr.c hkr
          have se := (hr.each k hkr).isSl
          have c0 := q1.cell0; have c1 := q1.cell1; have c2 := q1.free0; have c3 := q1.free1; have d0 := q2.cell0; have d1 := q2.cell1; have d2 := q2.free0; have d3 := q2.free1; have l1 := q1.lt; have l2 := q2.lt
          have HE := Lib.hid (hr.each k hkr)
          have HQ1 := Lib.hid q1; have HQ2 := Lib.hid q2; have HO1 := Lib.hid o1; have HO2 := Lib.hid o2; have HBI := Lib.hid hb
          clear hr hkr q1 q2 o1 o2 hb
          go_wp2_with fail
          have ba : Below wr.heap.size wr (wr.alloc (.cells #[.int .i64 (nthp (rowM N X i) k).low, nthv us k] 27)) := (Below.refl _ _).alloc (Nat.le_refl _) _
          refine (addK_calls (rsumP N X i k) (nthp (rowM N X i) k) _ _ _ (HO1.out.ints.below ba) (HE.out.below ba) (rsumP_ok HNW.out HL1.out hN2 hlt (by omega)) (entry_ok HNW.out HL1.out i hlk) (rsumP_ok (k := k + 1) HNW.out HL1.out hN2 hlt (by omega))).mono ?_
          rintro e w4 ⟨u, rfl, hu0, hb⟩
          rw [show padd (rsumP N X i k) (nthp (rowM N X i) k) 1 = rsumP N X i (k + 1) from rfl] at hu0 ⊢
          have hbA := Below.chain ba hb
          have hu := hu0.low (B' := Wo.heap.size + 2) (Nat.le_trans hz ba.size)
          obtain ⟨j1, j2, j3, rfl, -⟩ := hu.isSl.cases
          have su := hu.isSl
          have q1 := HQ1.out.below hbA; have q2 := HQ2.out.below hbA
          have o2 := HO2.out.below hbA
          obtain ⟨W5, hW5⟩ : ∃ W5, W5 = (w4.setCell ⟨Wo.heap.size, 0, none⟩ (.int .i64 (rsumP N X i (k + 1)).low)).setCell ⟨Wo.heap.size, 1, none⟩ (.slice j1 j2 j3) := ⟨_, rfl⟩
          have p1 : Pair W5 Wo.heap.size 27 (.int .i64 (rsumP N X i (k + 1)).low) (.slice j1 j2 j3) := by rw [hW5]; exact q1.set _ _
          have p2 : Pair W5 (Wo.heap.size + 1) 27 (.int .i64 (csumP N X i k).low) (.slice h1 h2 h3) := by rw [hW5]; exact (q2.other (by omega) _ _).other (by omega) _ _
          have y1 : OwnI W5 (Wo.heap.size + 2) (.slice j1 j2 j3) (rsumP N X i (k + 1)).c := by rw [hW5]; exact (hu.setOther (fun b hb hc => by have h1 := (hu.lt b hb).1; simp at hc; omega) _).setOther (fun b hb hc => by have h1 := (hu.lt b hb).1; simp at hc; omega) _
          have y2 : OwnI W5 (Wo.heap.size + 2) (.slice h1 h2 h3) (csumP N X i k).c := by rw [hW5]; exact (o2.setOther (fun b hb hc => by have h1 := (o2.lt b hb).1; simp at hc; omega) _).setOther (fun b hb hc => by have h1 := (o2.lt b hb).1; simp at hc; omega) _
          have yb : Below Wo.heap.size Wo W5 := by rw [hW5]; exact ((HBI.out.trans (hbA.mono (by omega))).setCell (by simp) _).setCell (by simp) _
          have yz : Wo.heap.size + 2 ≤ W5.heap.size := by rw [hW5]; have := hbA.size; simp; omega
          have x0 := q1.cell0; have x1 := q1.cell1; have x2 := q1.free0; have x3 := q1.free1
          have HW5 := Lib.hid hW5.symm; have P1 := Lib.hid p1; have P2 := Lib.hid p2; have Y1 := Lib.hid y1; have Y2 := Lib.hid y2; have YB := Lib.hid yb
          clear ba hb hbA hu0 hu q1 q2 o2 hW5 p1 p2 y1 y2 yb c0 c1 c2 c3 d0 d1 d2 d3 e0 e1 l1 l2
          go_wp2_with fail
          rw [HW5.out]
          have KU := unit_ok k (by omega)
          have KE := entry_ok HNW.out HL1.out k hlt
          have KC := csumP_ok HNW.out HL1.out hN2 hlt (k := k) (by omega)
          have KC1 := csumP_ok HNW.out HL1.out hN2 hlt (k := k + 1) (by omega)
          have KT := cterm_ok HNW.out HL1.out hlt k (by omega)
          have hbd : Below W5.heap.size W5 W5.drew := (Below.refl _ _).drew
          have hmr := (HMR.out.below YB.out).below hbd
          have kN : k < (burauM N X).length := by rw [HE4.out]; exact hlk
          have cm := hmr.cell kN
          obtain ⟨us2, hr2⟩ := hmr.row k kN
          rw [HE5.out k hlk] at hr2
          have srk := hr2.isSl
          have lrk := hr2.vlen
          rw [rowM_length] at lrk
          have hir : i < (rowM N X k).length := by rw [rowM_length]; exact hlt
          have e0 := hr2.low hir; have e1 := hr2.c hir
          have he := hr2.each i hir
          have se2 := he.isSl
          have cm0 : W5.cell? (vat m k) = some (nthv vs k) := cm
          have e00 : W5.cell? (vat (nthv vs k) (i * 2)) = some (.int .i64 (nthp (rowM N X k) i).low) := e0
          have e10 : W5.cell? (vat (nthv vs k) (i * 2 + 1)) = some (nthv us2 i) := e1
          have cm' : ∀ o, (W5.alloc o).cell? (vat m k) = some (nthv vs k) := fun o => (Below.cell ((Below.refl W5.heap.size W5).alloc (Nat.le_refl _) o) (World.block_lt_of_cell? W5 _ cm)).trans cm
          have e0' : ∀ o, (W5.alloc o).cell? (vat (nthv vs k) (i * 2)) = some (.int .i64 (nthp (rowM N X k) i).low) := fun o => (Below.cell ((Below.refl W5.heap.size W5).alloc (Nat.le_refl _) o) (World.block_lt_of_cell? W5 _ e0)).trans e0
          have e1' : ∀ o, (W5.alloc o).cell? (vat (nthv vs k) (i * 2 + 1)) = some (nthv us2 i) := fun o => (Below.cell ((Below.refl W5.heap.size W5).alloc (Nat.le_refl _) o) (World.block_lt_of_cell? W5 _ e1)).trans e1
          have q2 := P2.out.below hbd
          have o1 := (Y1.out.below hbd)
          have o2 := (Y2.out.below hbd)
          have p1 := (P1.out.below hbd)
          have yb := YB.out.drew
          have yz : Wo.heap.size + 2 ≤ W5.drew.heap.size := yz
          have c0 := P2.out.cell0; have c1 := P2.out.cell1; have c2 := P2.out.free0; have c3 := P2.out.free1; have l2 := P2.out.lt
          clear hmr hr2 hbd hir kN
          go_region_with (first
            | (go_at_call 18; refine (mulK_calls (unitP k) (nthp (rowM N X k) i) _ _ _ (ints_lit [1] rfl rfl rfl (by decide)) (he.alloc _) KU KE KT).mono ?_; rintro e w' ⟨mv, rfl, hm0, hb⟩; have hbb := Below.chain ((Below.refl _ _).alloc (Nat.le_refl _) _) hb; replace q2 := q2.below hbb; replace o1 := o1.below hbb; replace o2 := o2.below hbb; replace p1 := p1.below hbb; replace yb := yb.trans (hbb.mono (by omega)); replace yz := Nat.le_trans yz hbb.size; clear hb hbb; have hm := hm0.ints; have smv := hm0.isSl; clear hm0 c0 c1 c2 c3 l2 cm e0 e1 cm' e0' e1' cm0 e00 e10; have c0 := q2.cell0; have c1 := q2.cell1; have c2 := q2.free0; have c3 := q2.free1)
            | (go_at_call 24; refine (addK_calls (csumP N X i k) (pmul (unitP k) (nthp (rowM N X k) i)) (.slice h1 h2 h3) mv _ o2.ints hm KC KT KC1).mono ?_; rintro e w' ⟨av, rfl, ha0, hb⟩; have hav := ha0.low yz; replace q2 := q2.below hb; replace o1 := o1.below hb; replace p1 := p1.below hb; replace yb := yb.trans (hb.mono (by omega)); replace yz := Nat.le_trans yz hb.size; clear hb; have sa0 := hav.isSl; obtain ⟨b1, b2, b3, rfl, -⟩ := hav.isSl.cases; have sav := hav.isSl; clear ha0 sa0 c0 c1 c2 c3 o2; have c0 := q2.cell0; have c1 := q2.cell1; have c2 := q2.free0; have c3 := q2.free1)
            | fail "arm")
          all_goals
            obtain ⟨W7, hW7⟩ : ∃ W7, W7 = (w'.setCell ⟨Wo.heap.size + 1, 0, none⟩ (.int .i64 (csumP N X i (k + 1)).low)).setCell ⟨Wo.heap.size + 1, 1, none⟩ (.slice b1 b2 b3) := ⟨_, rfl⟩
            have y1 : Pair W7 Wo.heap.size 27 (.int .i64 (rsumP N X i (k + 1)).low) (.slice j1 j2 j3) := by rw [hW7]; exact (p1.other (by omega) _ _).other (by omega) _ _
            have y2 : OwnI W7 (Wo.heap.size + 2) (.slice j1 j2 j3) (rsumP N X i (k + 1)).c := by rw [hW7]; exact (o1.setOther (fun b hb hc => by have h1 := (o1.lt b hb).1; simp at hc; omega) _).setOther (fun b hb hc => by have h1 := (o1.lt b hb).1; simp at hc; omega) _
            have y3 : Pair W7 (Wo.heap.size + 1) 27 (.int .i64 (csumP N X i (k + 1)).low) (.slice b1 b2 b3) := by rw [hW7]; exact q2.set _ _
            have y4 : OwnI W7 (Wo.heap.size + 2) (.slice b1 b2 b3) (csumP N X i (k + 1)).c := by rw [hW7]; exact (hav.setOther (fun b hb hc => by have h1 := (hav.lt b hb).1; simp at hc; omega) _).setOther (fun b hb hc => by have h1 := (hav.lt b hb).1; simp at hc; omega) _
            have y5 : Below Wo.heap.size Wo W7 := by rw [hW7]; exact (yb.setCell (by simp) _).setCell (by simp) _
            have y6 : Wo.heap.size + 2 ≤ W7.heap.size := by rw [hW7]; simpa using yz
            rw [show (w'.setCell ⟨Wo.heap.size + 1, 0, none⟩ (.int .i64 (padd (csumP N X i k) (pmul (unitP k) (nthp (rowM N X k) i)) 1).low)).setCell ⟨Wo.heap.size + 1, 1, none⟩ (.slice b1 b2 b3) = W7 from hW7.symm]
            have R1 := Lib.hid y1; have R2 := Lib.hid y2; have R3 := Lib.hid y3; have R4 := Lib.hid y4; have R5 := Lib.hid y5
            clear hW7 y1 y2 y3 y4 y5 hav q2 o1 p1 yb c0 c1 c2 c3 KU KE KC KC1 KT hm he
            go_wp2_with fail
            go_roundw
            case rel => exact ⟨k + 1, _, _, by omega, by go_num, R1.out, R2.out, R3.out, R4.out, R5.out, y6⟩
            case measure => simp [intOf]; omega
        · obtain rfl : k = N := by omega
          have hA := rsumP_all HNW.out hlt
          have hC := csumP_all HNW.out hlt
          rw [hA] at q1 o1
          rw [hC] at q2 o2
          have c0 := q1.cell0; have c1 := q1.cell1; have d0 := q2.cell0; have d1 := q2.cell1; have l1 := q1.lt; have l2 := q2.lt
          have HQ1 := Lib.hid q1; have HQ2 := Lib.hid q2; have HO1 := Lib.hid o1; have HO2 := Lib.hid o2; have HBI := Lib.hid hb
          clear q1 q2 o1 o2 hb hA hC
          go_wp2_with fail
          have ba : Below wr.heap.size wr (wr.alloc (.cells #[.int .i64 1] 3)) := (Below.refl _ _).alloc (Nat.le_refl _) _
          refine (same_yes (unitP 0) (unitP 0) _ _ _ (HO1.out.ints.below ba) (ints_lit [1] rfl rfl rfl (by decide)) rfl).mono ?_
          rintro e w4 ⟨rfl, hb⟩
          have hbA := Below.chain ba hb
          have q2 := HQ2.out.below hbA
          have HO2' := Lib.hid (HO2.out.below hbA)
          have HB4 := Lib.hid (HBI.out.trans (hbA.mono (by have := HBI.out.size; omega)))
          clear ba hb hbA c0 c1 d0 d1 l1 l2
          have d0 := q2.cell0; have d1 := q2.cell1; have l2 := q2.lt
          clear q2
          go_wp2_with fail
          have ba : Below w4.heap.size w4 (w4.alloc (.cells #[.int .i64 1] 3)) := (Below.refl _ _).alloc (Nat.le_refl _) _
          refine (same_yes (unitP i) (unitP i) _ _ _ (HO2'.out.ints.below ba) (ints_lit [1] rfl rfl rfl (by decide)) rfl).mono ?_
          rintro e w5 ⟨rfl, hb⟩
          have HB5 := Lib.hid (HB4.out.trans ((Below.chain ba hb).mono (by have := HB4.out.size; omega)))
          clear ba hb d0 d1 l2
          go_wp2_with fail
          go_roundw
          case rel => exact ⟨i + 1, by omega, by go_num, Below.chain HB.out HB5.out⟩
          case measure => simp [intOf]; omega
    · obtain rfl : i = N := by omega
      have HBI := Lib.hid hb; clear hb
      go_wp2_with fail
      go_ret
      exact ⟨rfl, Below.chain HB3.out HBI.out⟩

end Go.Proofs.Ytdmogoeafjpphaa
