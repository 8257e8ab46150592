/- dehornoy.reduce walked. -/
import Derived.Test.YtnmklkjlcpgjmaaQDehornoyRelations0
import Derived.Test.YtnmklkjlcpgjmaaQDehornoyRelations1
import Derived.Test.YtnmklkjlcpgjmaaQDehornoyRelations2
import Derived.Test.YtnmklkjlcpgjmaaQDehornoyRelations3
import Derived.Test.YtnmklkjlcpgjmaaQDehornoyRelations4
import Derived.Test.YtnmklkjlcpgjmaaQDehornoyRelations5
import Derived.Test.YtnmklkjlcpgjmaaQDehornoyRelations7
import Derived.Test.YtnmklkjlcpgjmaaQDehornoyRelations8
import Derived.Test.YtnmklkjlcpgjmaaQDehornoyRelations9
import Derived.Test.YtnmklkjlcpgjmaaQDehornoyRelations10
import Derived.Test.YtnmklkjlcpgjmaaQDehornoyRelations11
import Derived.Test.YtnmklkjlcpgjmaaQDehornoyRelations12
import Derived.Test.YtnmklkjlcpgjmaaQDehornoyRelations13
import Derived.Test.YtnmklkjlcpgjmaaQDehornoyRelations14
import Derived.Test.YtnmklkjlcpgjmaaQDehornoyRelations15
import Derived.Test.YtnmklkjlcpgjmaaQDehornoyRelations16
import Derived.Test.YtnmklkjlcpgjmaaQDehornoyRelations17
import Derived.Test.YtnmklkjlcpgjmaaQDehornoyRelations19
import Derived.Test.YtnmklkjlcpgjmaaQDehornoyRelations20
import Derived.Test.YtnmklkjlcpgjmaaQDehornoyRelations21
import Derived.OrdersHeld
import Derived.Deep.RegionHeld
import Derived.Deep.RegionLaw
namespace Go.Proofs.Ytnmklkjlcpgjmaa
open Go.RowKit Go.Sl

theorem rows_three {w : World} {u v x : Value} {xs ys zs : List Int} (h : Ints w u xs) (k : Ints w v ys) (l : Ints w x zs) : RowsV (w.alloc (.cells #[u, v, x] 22)) (.slice (some ⟨w.heap.size, 0, none⟩) 3 3) [u, v, x] [xs, ys, zs] := by
  refine ⟨⟨isSl_mk _ _ _ _ (Nat.le_refl _) (by unfold maxLen; omega), by simp, fun j u hu => ?_⟩, rfl, fun i hi => ?_⟩
  · have hj : j < 3 := (List.getElem?_eq_some_iff.1 hu).1
    rw [vat_mk, Nat.zero_add]
    obtain rfl | rfl | rfl : j = 0 ∨ j = 1 ∨ j = 2 := by omega
    all_goals (simp at hu; subst hu; simp only [World.cell?]; rw [heap_alloc_new]; simp)
  · simp only [List.length_cons, List.length_nil] at hi
    rcases (show i = 0 ∨ i = 1 ∨ i = 2 by omega) with rfl | rfl | rfl
    · exact h.alloc _
    · exact k.alloc _
    · exact l.alloc _
theorem midW_takeS (x : Int) (M : List Int) {c : Nat} (h : c < M.length) : midW x (M.take (c + 1)) = midW x (M.take c) ++ midB x (nth M c) := by
  rw [List.take_succ_eq_append_getElem h, midW_append, nth_lt h]
  simp [midW]
theorem midW_take_len (x : Int) (M : List Int) (c : Nat) : (midW x (M.take c)).length ≤ (midW x M).length := by
  have : midW x M = midW x (M.take c) ++ midW x (M.drop c) := by rw [← midW_append, List.take_append_drop]
  rw [this, List.length_append]; omega

set_option maxHeartbeats 16000000 in
set_option maxRecDepth 100000 in
theorem dreduce_calls (v : Value) (xs : List Int) (w : World) (hv : Ints w v xs) {N Lm : Nat} {Wy : List Int → Nat → Prop} (hW : Way N Lm Wy) (hLm : Lm ≤ 16000000000000) (hst : ∃ m, Wy (redL xs) m) (hl : xs.length ≤ 16000000000000) {n : Nat} (hn : LtW n xs) (hn6 : n ≤ 6) :
    Calls Try.prog 36 #[v] w fun e w' => ∃ u ys, e = .returned u ∧ OwnI w' w.heap.size u ys ∧ Clean ys ∧ LtW n ys ∧ BE n ys xs ∧ Below w.heap.size w w' := by
  obtain ⟨m0, hm0⟩ := hst
  have sv := hv.isSl
  have KX := Lib.hid hW; have HL0 := Lib.hid hl
  have HV := Lib.hid hv; have HM0 := Lib.hid hm0; have HN := Lib.hid hn
  clear hv hm0 hn hW hl
  go_enter Try.func36, Try.ntmps36
  go_wp2_with fail
  go_loopw [0] (fun s wr => ∃ (zs : List Int) (m : Nat), Ints wr s zs ∧ (Wy (redL zs) m ∧ zs.length ≤ 16000000000000) ∧ LtW n zs ∧ BE n zs xs ∧ Below w.heap.size w wr) (fun s wr => wayM Wy s wr)
  case atStart => exact ⟨xs, m0, HV.out, ⟨HM0.out, HL0.out⟩, HN.out, .refl _, Below.refl _ _⟩
  case round =>
    obtain ⟨zs, m, hz, ⟨hw, hzl⟩, hn, he, hb⟩ := hrel
    have sz := hz.isSl
    have hrow := rows_one _ zs _ hz
    have hb5 := hn
    have hbd : ∀ ws ∈ [zs], ∀ x ∈ ws, -1000 ≤ x ∧ x ≤ 1000 := fun ws hws x hx => by
      rw [List.mem_singleton.1 hws] at hx
      have := (hb5 x hx).2
      omega
    have HZ := Lib.hid hz; have HW := Lib.hid hw; have HNZ := Lib.hid hn; have HE := Lib.hid he; have HB := Lib.hid hb; have HRW := Lib.hid hrow; have HBD := Lib.hid hbd
    clear hz hw hn he hb hrow hbd hb5
    go_wp2_with fail
    refine (reducedB_calls _ _ [zs] _ HRW.out HBD.out (by simpa using hzl)).mono ?_
    have hfl : [zs].flatten = zs := by simp
    rw [hfl]
    rintro e w1 ⟨uv, rfl, hu, hb1⟩
    obtain ⟨ys, hys⟩ : ∃ ys, redL zs = ys := ⟨_, rfl⟩
    rw [hys] at hu
    have su := hu.isSl
    have lu := hu.len
    have hcu := hu.ints.cap
    have hway : ∀ m, Wy (redL zs) m → Wy ys m := fun m h => by rw [← hys]; exact h
    have hyb := redL_BE HNZ.out
    rw [hys] at hyb
    have hb2 := Below.chain HB.out (Below.chain ((Below.refl _ _).alloc (Nat.le_refl _) _) hb1)
    have hz1 := hb1.size
    have hwy := (hway m HW.out)
    have hy5 := hyb.2
    have hbd1 : ∀ x ∈ ys, x ≠ 0 ∧ -1000 ≤ x ∧ x ≤ 1000 := fun x hx => by
      have := hy5 x hx
      exact ⟨this.1, by have := this.2; omega, by have := this.2; omega⟩
    obtain ⟨Y, hY⟩ : ∃ Y, ys.length = Y := ⟨_, rfl⟩
    rw [hY] at lu hcu
    have hYb : Y ≤ 16000000000000 := by
      have h1 := KX.out.len hwy
      omega
    have HU := Lib.hid hu; have HWAY := Lib.hid hway; have HYB := Lib.hid hyb; have HB2 := Lib.hid hb2; have HY5 := Lib.hid hy5; have HBD1 := Lib.hid hbd1; have HY := Lib.hid hY; have HWY := Lib.hid hwy
    clear hu hway hyb hb2 hb1 hy5 hbd1 hys hY HRW HBD hwy
    go_wp2_with fail
    refine (handle_calls uv ys _ HU.out.ints HBD1.out).mono ?_
    rintro e w2 ⟨rfl, h | ⟨P, x, M, s, hdec, hcl, hM, rfl⟩⟩
    · obtain ⟨hcl, rfl⟩ := h
      have HCL := Lib.hid hcl
      clear hcl
      go_wp2_with fail
      go_ret
      exact ⟨_, ys, rfl, HU.out.low (by have := HB.out.size; simp; omega), HCL.out, HYB.out.2, HYB.out.1.trans HE.out, HB2.out⟩
    · obtain ⟨p, hp⟩ : ∃ p, P.length = p := ⟨_, rfl⟩
      obtain ⟨q, hq⟩ : ∃ q, M.length = q := ⟨_, rfl⟩
      rw [hp, hq]
      have hlY : p + 1 + q + 1 ≤ Y := by
        have := HY.out
        rw [hdec] at this
        simp at this
        omega
      have hxm : x ∈ ys := by rw [hdec]; simp
      obtain ⟨hx0, hx1, hx2⟩ := HBD1.out x hxm
      have hx5 := (HY5.out x hxm).2
      have hnx : nth ys p = x := by rw [hdec, ← hp]; simp [nth]
      have cx := HU.out.ints.cell (k := p) (by rw [HY.out]; omega)
      rw [hnx] at cx
      have hcutM := HU.out.ints.cut (l := p + 1) (r := p + 1 + q) (m := vcap uv) (by omega) (by rw [HY.out]; omega) (by omega) (Nat.le_refl _)
      have hMe : (ys.drop (p + 1)).take (p + 1 + q - (p + 1)) = M := by
        rw [hdec, ← hp, show P ++ x :: M ++ -x :: s = (P ++ [x]) ++ (M ++ -x :: s) by simp, List.drop_left' (by simp), Nat.add_sub_cancel_left, List.take_left' hq]
      rw [hMe] at hcutM
      have scM := hcutM.isSl
      have lcM := hcutM.len
      rw [hq] at lcM
      have hMb : ∀ y ∈ M, y ≠ 0 ∧ -1000 ≤ y ∧ y ≤ 1000 := fun y hy => HBD1.out y (by rw [hdec]; simp [hy])
      have hround := fun m h => KX.out.handle (m := m) (by rw [← hdec]; exact HWAY.out m h) hcl hM
      have hrb := round_BE (n := n) (by rw [← hdec]; exact HYB.out.2) hM
      rw [← hdec] at hrb
      obtain ⟨G, hG⟩ : ∃ G, midW x M = G := ⟨_, rfl⟩
      rw [hG] at hround hrb
      have hGl : (P ++ (G ++ s)).length ≤ 16000000000000 := by
        have h1 := KX.out.len (hround m HW.out).2
        omega
      have q1 : IntKind.i64.wrap ((x.natAbs : Int) + 1) = ((x.natAbs + 1 : Nat) : Int) := by rw [show (x.natAbs : Int) + 1 = ((x.natAbs + 1 : Nat) : Int) by omega]; exact IntWalk.i64_in _ ⟨by omega, by omega⟩
      have HDEC := Lib.hid hdec; have HCM := Lib.hid hcutM; have HMB := Lib.hid hMb; have HMM := Lib.hid hM; have HRND := Lib.hid hround; have HRB := Lib.hid hrb; have HG := Lib.hid hG; have HGL := Lib.hid hGl; have HP := Lib.hid hp; have HQ := Lib.hid hq
      clear hdec hcl hM hxm hnx hcutM hMe hMb hround hrb hG hGl hp hq
      go_wp2_with fail
      refine (bindex_calls x _ hx1 hx2).mono ?_
      rintro e w' ⟨rfl, rfl⟩
      go_wp2_with fail
      go_loopw [8, 36] (fun o s wr => ∃ c : Nat, s = .int .i64 c ∧ c ≤ q ∧ OwnI wr w1.heap.size o (midW x (M.take c)) ∧ Below w1.heap.size w1 wr) (fun _ s _ => q - (intOf s).toNat)
      case atStart => exact ⟨0, rfl, Nat.zero_le _, by simpa [midW] using ownI_nil w1 w1.heap.size, Below.refl _ _⟩
      case round =>
        obtain ⟨c, rfl, hcq, ho, hbb⟩ := hrel
        have so := ho.isSl
        have hbs := hbb.size
        have hml := midW_take_len x M c
        rw [HG.out] at hml
        have hgl := HGL.out
        simp only [List.length_append] at hgl
        have hml2 : (midW x (M.take c)).length ≤ 16000000000000 := by omega
        have HO := Lib.hid ho; have HBB := Lib.hid hbb
        clear hml hgl ho hbb
        by_cases hlt : c < q
        · have hcM : c < M.length := by rw [HQ.out]; exact hlt
          have cy := (HCM.out.below HBB.out).cell hcM
          have hym := nth_mem hcM
          have hst := midW_takeS x M hcM
          have hym2 := HMM.out _ hym
          obtain ⟨hy0, hy1, hy2⟩ := HMB.out _ hym
          obtain ⟨y, hy⟩ : ∃ y, nth M c = y := ⟨_, rfl⟩
          rw [hy] at cy hst hy0 hy1 hy2 hym2
          have HST := Lib.hid hst
          clear hst hym hy
          go_wp2_with fail
          refine (bindex_calls y _ hy1 hy2).mono ?_
          rintro e w' ⟨rfl, rfl⟩
          by_cases hk : y.natAbs = x.natAbs + 1
          · have hmb := midB_near hk
            have hsx := sign_bounds hx0
            have hsy := sign_bounds hy0
            have heqk : ((y.natAbs : Int) == (x.natAbs : Int) + 1) = true := by rw [beq_iff_eq]; omega
            obtain ⟨S, hS⟩ : ∃ S, x.sign = S := ⟨_, rfl⟩
            obtain ⟨T, hT⟩ : ∃ T, y.sign = T := ⟨_, rfl⟩
            rw [hS] at hsx hmb
            rw [hT] at hsy hmb
            rw [show ((x.natAbs + 1 : Nat) : Int) = (x.natAbs : Int) + 1 by omega] at hmb
            obtain ⟨a, ha⟩ : ∃ a, -(S * ((x.natAbs : Int) + 1)) = a := ⟨_, rfl⟩
            obtain ⟨b, hb⟩ : ∃ b, T * (x.natAbs : Int) = b := ⟨_, rfl⟩
            obtain ⟨d, hd⟩ : ∃ d, S * ((x.natAbs : Int) + 1) = d := ⟨_, rfl⟩
            rw [ha, hb, hd] at hmb
            have w1' : IntKind.i64.wrap (-S) = -S := IntWalk.i64_in _ (by rcases hsx with h | h <;> rw [h] <;> exact ⟨by omega, by omega⟩)
            have w2' : IntKind.i64.wrap (-S * ((x.natAbs : Int) + 1)) = a := by
              rw [← ha, Int.neg_mul]
              exact IntWalk.i64_in _ (by rcases hsx with h | h <;> rw [h] <;> exact ⟨by omega, by omega⟩)
            have w3' : (x.natAbs : Int) + 1 - 1 = (x.natAbs : Int) := by omega
            have w4' : IntKind.i64.wrap (T * (x.natAbs : Int)) = b := by
              rw [← hb]
              exact IntWalk.i64_in _ (by rcases hsy with h | h <;> rw [h] <;> exact ⟨by omega, by omega⟩)
            have w5' : IntKind.i64.wrap (S * ((x.natAbs : Int) + 1)) = d := by
              rw [← hd]
              exact IntWalk.i64_in _ (by rcases hsx with h | h <;> rw [h] <;> exact ⟨by omega, by omega⟩)
            have HMBX := Lib.hid hmb; have HSS := Lib.hid hS; have HTT := Lib.hid hT
            clear hmb hS hT ha hb hd hsx hsy
            go_wp2_with fail
            refine (dsign_calls x _ hx0 hx1 hx2).mono ?_
            rw [HSS.out]
            rintro e w' ⟨rfl, rfl⟩
            go_wp2_with fail
            refine (dsign_calls y _ hy0 hy1 hy2).mono ?_
            rw [HTT.out]
            rintro e w' ⟨rfl, rfl⟩
            go_wp2_with fail
            refine (dsign_calls x _ hx0 hx1 hx2).mono ?_
            rw [HSS.out]
            rintro e w' ⟨rfl, rfl⟩
            go_wp2_with (at_builtin; refine wpList_concatB (v := u8) rfl _ _ rfl rfl rfl (HO.out.alloc _) (ints_lit [a, b, d] (by simp) rfl rfl (by simp)) (by simp; omega) (by simp; omega) ?_; intro v' w' ho hg hr; have s2 := ho.isSl)
            have hb5 := Below_of_grown (HBB.out.alloc hbs _) hg (by simp; omega) (fun b hb => (HO.out.lt b hb).1)
            go_roundw
            case rel => exact ⟨c + 1, by go_num, hlt, by rw [HST.out, HMBX.out]; exact ho, hb5⟩
            case measure => (simp [intOf]; try omega)
          · have hmb := midB_far hk
            have heqk : ((y.natAbs : Int) == (x.natAbs : Int) + 1) = false := by rw [beq_eq_false_iff_ne]; omega
            have HMBX := Lib.hid hmb
            clear hmb
            go_wp2_with (at_builtin; refine wpList_pushB (v := u8) rfl _ _ rfl rfl rfl HO.out hbs (by omega) ?_; intro v' w' ho hg hr; have s2 := ho.isSl)
            have hb5 := Below_of_grown HBB.out hg hbs (fun b hb => (HO.out.lt b hb).1)
            go_roundw
            case rel => exact ⟨c + 1, by go_num, hlt, by rw [HST.out, HMBX.out]; exact ho, hb5⟩
            case measure => (simp [intOf]; try omega)
        · obtain rfl : c = q := by omega
          have hfull := HO.out
          rw [List.take_of_length_le (by rw [HQ.out]; omega), HG.out] at hfull
          have HO2 := Lib.hid hfull
          clear hfull
          have hcP := (HU.out.ints.cut (l := 0) (r := p) (m := vcap uv) (Nat.zero_le _) (by rw [HY.out]; omega) (by omega) (Nat.le_refl _))
          have hcS := (HU.out.ints.cut (l := p + 1 + c + 1) (r := Y) (m := vcap uv) (by omega) (by rw [HY.out]; exact Nat.le_refl _) (by omega) (Nat.le_refl _))
          have eP : (ys.drop 0).take (p - 0) = P := by rw [HDEC.out, ← HP.out]; simp
          have eS : (ys.drop (p + 1 + c + 1)).take (Y - (p + 1 + c + 1)) = s := by
            have h1 : ys.drop (p + 1 + c + 1) = s := by
              rw [HDEC.out, ← HP.out, ← HQ.out, show P ++ x :: M ++ -x :: s = (P ++ x :: M ++ [-x]) ++ s by simp, List.drop_left' (by simp; omega)]
            rw [h1, List.take_of_length_le]
            have := congrArg List.length h1
            rw [List.length_drop, HY.out] at this
            omega
          rw [eP] at hcP
          rw [eS] at hcS
          have scP := hcP.isSl
          have scS := hcS.isSl
          have r1 : p ≤ vcap uv := by omega
          have r2 : Y ≤ vcap uv := by omega
          have r3 : p + 1 + c + 1 ≤ Y := by omega
          have HCP := Lib.hid hcP; have HCS := Lib.hid hcS
          clear hcP hcS eP eS
          go_wp2_with fail
          have LP := HCP.out.below HBB.out
          have LS := HCS.out.below HBB.out
          have LO := HO2.out
          obtain ⟨x1, x2, x3, hx1, -⟩ := scP.cases
          obtain ⟨b1, b2, b3, hyy, -⟩ := scS.cases
          obtain ⟨o1, o2, o3, rfl, -⟩ := so.cases
          rw [hx1] at LP
          rw [hyy] at LS
          have q2 : IntKind.i64.wrap ((p : Int) + 1 + (c : Int) + 1) = (p : Int) + 1 + (c : Int) + 1 := IntWalk.i64_in _ ⟨by omega, by omega⟩
          have q4 : 0 ≤ (p : Int) + 1 + (c : Int) + 1 := by omega
          have q5 : ((p : Int) + 1 + (c : Int) + 1).toNat = p + 1 + c + 1 := by omega
          have q6 : (p : Int) + 1 + (c : Int) + 1 ≤ (Y : Int) := by omega
          have q9 : (p : Int) ≤ ((vcap uv : Nat) : Int) := by omega
          have q10 : (0 : Int) ≤ (p : Int) := by omega
          have q12 : (Y : Int) ≤ ((vcap uv : Nat) : Int) := by omega
          have q7 : p + 1 + c + 1 ≤ vcap uv := by omega
          have q8 : (p : Int) ≤ (Y : Int) := by omega
          have q11 : (Y : Int).toNat = Y := by omega
          refine wp_region_held_drew (S := fun _ => True) (by kernel_rfl) (trivial) (fun hHeld => ?_)
          have BEL : Below (World.heap wr).size wr (World.drew wr) := (Below.refl _ _).drew
          have LP := LP.below BEL
          have LS := LS.below BEL
          have LO := LO.below BEL
          obtain ⟨y0, hy0⟩ : ∃ y0, y0 = World.drew wr := ⟨_, rfl⟩
          rw [← hy0] at BEL LP LS LO ⊢
          (try rw [← hy0] at hHeld)
          clear hy0
          refine' wpAnyH_take (i := 0) (oi := ?oiz1) (v := ?vz1) ?haz1 (by kernel_rfl) ?hfz1 ?hrz1 ?hQz1 (Or.inl ⟨?hwz1, ?hyz1⟩) (by assumption) ?restz1
          case haz1 => (simp only [List.getElem?_toArray, List.getElem?_cons_zero]; exact rfl)
          case hQz1 => exact fun _ _ _ h => h
          case hfz1 => kernel_rfl
          case hrz1 => kernel_rfl
          case hwz1 => rfl
          case hyz1 => (intro w hSw; (try dsimp only at hSw); skip; go_simp; (try with_reducible rfl))
          try simp only [Act.put, List.setIfInBounds_toArray, List.set_cons_zero, List.set_cons_succ]
          refine' wpAnyH_take (i := 1) (oi := ?oiz2) (v := ?vz2) ?haz2 (by kernel_rfl) ?hfz2 ?hrz2 ?hQz2 (Or.inl ⟨?hwz2, ?hyz2⟩) (by assumption) ?restz2
          case haz2 => (simp only [List.getElem?_toArray, List.getElem?_cons_succ, List.getElem?_cons_zero]; exact rfl)
          case hQz2 => exact fun _ _ _ h => h
          case hfz2 => kernel_rfl
          case hrz2 => kernel_rfl
          case hwz2 => rfl
          case hyz2 => (intro w hSw; (try dsimp only at hSw); skip; go_simp; (try with_reducible rfl))
          try simp only [Act.put, List.setIfInBounds_toArray, List.set_cons_zero, List.set_cons_succ]
          refine' wpAnyH_take (i := 2) (oi := ?oiz3) (v := ?vz3) ?haz3 (by kernel_rfl) ?hfz3 ?hrz3 ?hQz3 (Or.inl ⟨?hwz3, ?hyz3⟩) (by assumption) ?restz3
          case haz3 => (simp only [List.getElem?_toArray, List.getElem?_cons_succ, List.getElem?_cons_zero]; exact rfl)
          case hQz3 => exact fun _ _ _ h => h
          case hfz3 => kernel_rfl
          case hrz3 => kernel_rfl
          case hwz3 => rfl
          case hyz3 => (intro w hSw; (try dsimp only at hSw); skip; go_simp; (try with_reducible rfl))
          try simp only [Act.put, List.setIfInBounds_toArray, List.set_cons_zero, List.set_cons_succ]
          refine' wpAnyH_take (i := 3) (oi := ?oiz4) (v := ?vz4) ?haz4 (by kernel_rfl) ?hfz4 ?hrz4 ?hQz4 (Or.inl ⟨?hwz4, ?hyz4⟩) (by assumption) ?restz4
          case haz4 => (simp only [List.getElem?_toArray, List.getElem?_cons_succ, List.getElem?_cons_zero]; exact rfl)
          case hQz4 => exact fun _ _ _ h => h
          case hfz4 => kernel_rfl
          case hrz4 => kernel_rfl
          case hwz4 => rfl
          case hyz4 => (intro w hSw; (try dsimp only at hSw); skip; go_simp; (try with_reducible rfl))
          try simp only [Act.put, List.setIfInBounds_toArray, List.set_cons_zero, List.set_cons_succ]
          refine' wpAnyH_take (i := 4) (oi := ?oiz5) (v := ?vz5) ?haz5 (by kernel_rfl) ?hfz5 ?hrz5 ?hQz5 (Or.inl ⟨?hwz5, ?hyz5⟩) (by assumption) ?restz5
          case haz5 => (simp only [List.getElem?_toArray, List.getElem?_cons_succ, List.getElem?_cons_zero]; exact rfl)
          case hQz5 => exact fun _ _ _ h => h
          case hfz5 => kernel_rfl
          case hrz5 => kernel_rfl
          case hwz5 => rfl
          case hyz5 => (intro w hSw; (try dsimp only at hSw); skip; go_simp; (try with_reducible rfl))
          try simp only [Act.put, List.setIfInBounds_toArray, List.set_cons_zero, List.set_cons_succ]
          refine' wpAnyH_take (i := 5) (oi := ?oiz6) (v := ?vz6) ?haz6 (by kernel_rfl) ?hfz6 ?hrz6 ?hQz6 (Or.inl ⟨?hwz6, ?hyz6⟩) (by assumption) ?restz6
          case haz6 => (simp only [List.getElem?_toArray, List.getElem?_cons_succ, List.getElem?_cons_zero]; exact rfl)
          case hQz6 => exact fun _ _ _ h => h
          case hfz6 => kernel_rfl
          case hrz6 => kernel_rfl
          case hwz6 => rfl
          case hyz6 => (intro w hSw; (try dsimp only at hSw); skip; go_simp; (try with_reducible rfl))
          try simp only [Act.put, List.setIfInBounds_toArray, List.set_cons_zero, List.set_cons_succ]
          refine' wpAnyH_take (i := 6) (oi := ?oiz7) (v := ?vz7) ?haz7 (by kernel_rfl) ?hfz7 ?hrz7 ?hQz7 (Or.inl ⟨?hwz7, ?hyz7⟩) (by assumption) ?restz7
          case haz7 => (simp only [List.getElem?_toArray, List.getElem?_cons_succ, List.getElem?_cons_zero]; exact rfl)
          case hQz7 => exact fun _ _ _ h => h
          case hfz7 => kernel_rfl
          case hrz7 => kernel_rfl
          case hwz7 => rfl
          case hyz7 => (intro w hSw; (try dsimp only at hSw); skip; go_simp; (try with_reducible rfl))
          try simp only [Act.put, List.setIfInBounds_toArray, List.set_cons_zero, List.set_cons_succ]
          refine' wpAnyH_take (i := 7) (oi := ?oiz8) (v := ?vz8) ?haz8 (by kernel_rfl) ?hfz8 ?hrz8 ?hQz8 (Or.inl ⟨?hwz8, ?hyz8⟩) (by assumption) ?restz8
          case haz8 => (simp only [List.getElem?_toArray, List.getElem?_cons_succ, List.getElem?_cons_zero]; exact rfl)
          case hQz8 => exact fun _ _ _ h => h
          case hfz8 => kernel_rfl
          case hrz8 => kernel_rfl
          case hwz8 => rfl
          case hyz8 => (intro w hSw; (try dsimp only at hSw); skip; go_simp; (try with_reducible rfl))
          try simp only [Act.put, List.setIfInBounds_toArray, List.set_cons_zero, List.set_cons_succ]
          refine wpAnyH_ready (rs := [8]) (by kernel_rfl) (by simp) ?_
          refine' AllReadyH.cons (o := ?oiz11) ?haz11 (fun K hK => ?stepz11) AllReadyH.nil
          case haz11 => (simp only [List.getElem?_toArray, List.getElem?_cons_succ, List.getElem?_cons_zero]; exact rfl)
          go_simp
          obtain ⟨y1, hy1⟩ : ∃ y1, y1 = World.alloc y0 (.cells #[.slice x1 x2 x3, .slice o1 o2 o3, .slice b1 b2 b3] 22) := ⟨_, rfl⟩
          rw [← hy1]
          have sb : Below (World.heap y0).size y0 y1 := by rw [hy1]; exact (Below.refl _ _).alloc (Nat.le_refl _) _
          have ZR : RowsV y1 (.slice (some ⟨(World.heap y0).size, 0, none⟩) 3 3) [.slice x1 x2 x3, .slice o1 o2 o3, .slice b1 b2 b3] [P, G, s] := by rw [hy1]; exact rows_three LP LO.ints LS

          clear hy1
          clear LP LS LO
          replace BEL := Below.chain BEL sb
          clear sb
          refine hK.out _ _ (trivial) (fun hHeld => ?_)
          clear hK K
          try simp only [Act.put, List.setIfInBounds_toArray, List.set_cons_zero, List.set_cons_succ]
          refine wpAnyH_ready (rs := [9]) (by kernel_rfl) (by simp) ?_
          refine' AllReadyH.cons (o := ?oiz10) ?haz10 (fun K hK => ?stepz10) AllReadyH.nil
          case haz10 => (simp only [List.getElem?_toArray, List.getElem?_cons_succ, List.getElem?_cons_zero]; exact rfl)
          go_simp
          refine (concatB_calls _ _ [P, G, s] y1 ZR (by have := HGL.out; simpa using this)).mono ?_
          rintro e y2 ⟨ov, rfl, hov, sb⟩
          have sov := hov.isSl
          clear ZR
          replace BEL := Below.chain BEL sb
          clear sb
          refine hK.out _ _ (trivial) (fun hHeld => ?_)
          clear hK K
          try simp only [Act.put, List.setIfInBounds_toArray, List.set_cons_zero, List.set_cons_succ]
          refine' wpAnyH_take (i := 10) (oi := ?oiz9) (v := ?vz9) ?haz9 (by kernel_rfl) ?hfz9 ?hrz9 ?hQz9 (Or.inl ⟨?hwz9, ?hyz9⟩) (by assumption) ?restz9
          case haz9 => (simp only [List.getElem?_toArray, List.getElem?_cons_succ, List.getElem?_cons_zero]; exact rfl)
          case hQz9 => exact fun _ _ _ h => h
          case hfz9 => kernel_rfl
          case hrz9 => kernel_rfl
          case hwz9 => rfl
          case hyz9 => (intro w hSw; (try dsimp only at hSw); skip; go_simp; (try with_reducible rfl))
          try simp only [Act.put, List.setIfInBounds_toArray, List.set_cons_zero]
          refine wpAnyH_done (by kernel_rfl) ?_ _
          have hflat : [P, G, s].flatten = P ++ (G ++ s) := by simp
          rw [hflat] at hov
          have HOV := Lib.hid hov
          have HBE := Lib.hid (Below.chain HB2.out (Below.chain HBB.out BEL))
          clear hov BEL
          have hnew := HRND.out m HW.out
          have HNEW := Lib.hid hnew
          clear hnew
          go_wp2_with fail
          go_roundw
          case rel => exact ⟨P ++ (G ++ s), m - 1, HOV.out.ints, ⟨KX.out.red HNEW.out.2, HGL.out⟩, HRB.out.2, HRB.out.1.trans (HYB.out.1.trans HE.out), HBE.out⟩
          case measure => exact wayM_lt HZ.out HOV.out.ints HW.out fun m h => ⟨(HRND.out m h).1, KX.out.red (HRND.out m h).2⟩
end Go.Proofs.Ytnmklkjlcpgjmaa

