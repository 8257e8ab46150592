/- topTorus: for every input the statement returns true, and nothing that was there has changed. -/
import Derived.Test.YtckopilciekfbaaQTopTorus0
import Derived.Test.YtckopilciekfbaaQTopTorus1
import Derived.Test.YtckopilciekfbaaQTopTorus2
import Derived.Test.YtckopilciekfbaaQTopTorus3
import Derived.Test.YtckopilciekfbaaQTopTorus4
import Derived.Test.YtckopilciekfbaaQTopTorus5
import Derived.Test.YtckopilciekfbaaQTopTorus6
import Derived.Test.YtckopilciekfbaaQTopTorus7
import Derived.Test.YtckopilciekfbaaQTopTorus8
import Derived.Test.YtckopilciekfbaaQTopTorus9
import Derived.Test.YtckopilciekfbaaQTopTorus10
import Derived.Test.YtckopilciekfbaaQTopTorus11
import Derived.Test.YtckopilciekfbaaQTopTorus12
import Derived.Test.YtckopilciekfbaaQTopTorus13
import Derived.Test.YtckopilciekfbaaQTopTorus14
import Derived.Test.YtckopilciekfbaaQTopTorus15
import Derived.Test.YtckopilciekfbaaQTopTorus16
import Derived.Test.YtckopilciekfbaaQTopTorus17
import Derived.Test.YtckopilciekfbaaQTopTorus18
import Derived.Test.YtckopilciekfbaaQTopTorus19
import Derived.Test.YtckopilciekfbaaQTopTorus20
import Derived.Test.YtckopilciekfbaaQTopTorus21
import Derived.Test.YtckopilciekfbaaQTopTorus22
import Derived.Test.YtckopilciekfbaaQTopTorus23
import Derived.Test.YtckopilciekfbaaQTopTorus24
import Derived.Test.YtckopilciekfbaaQTopTorus25
import Derived.Test.YtckopilciekfbaaQTopTorus26
import Derived.Test.YtckopilciekfbaaQTopTorus27
import Derived.Test.YtckopilciekfbaaQTopTorus28
import Derived.Test.YtckopilciekfbaaQTopTorus29
import Derived.Test.YtckopilciekfbaaQTopTorus30
import Derived.Test.YtckopilciekfbaaQTopTorus31
import Derived.Test.YtckopilciekfbaaQTopTorus32
import Derived.Test.YtckopilciekfbaaQTopTorus33
import Derived.Test.YtckopilciekfbaaQTopTorus34
import Derived.Test.YtckopilciekfbaaQTopTorus35
import Derived.Test.YtckopilciekfbaaQTopTorus36
import Derived.Test.YtckopilciekfbaaQTopTorus37
import Derived.Test.YtckopilciekfbaaQTopTorus38
import Derived.Test.YtckopilciekfbaaQTopTorus39
import Derived.Test.YtckopilciekfbaaQTopTorus40
import Derived.Test.YtckopilciekfbaaQTopTorus41
import Derived.Test.YtckopilciekfbaaQTopTorus42
import Derived.Test.YtckopilciekfbaaQTopTorus43
import Derived.Test.YtckopilciekfbaaQTopTorus44
import Derived.Test.YtckopilciekfbaaQTopTorus45
import Derived.Test.YtckopilciekfbaaQTopTorus46
import Derived.Test.YtckopilciekfbaaQTopTorus47
import Derived.Test.YtckopilciekfbaaQTopTorus48
import Derived.Test.YtckopilciekfbaaQTopTorus49
import Derived.Test.YtckopilciekfbaaQTopTorus50
import Derived.Test.YtckopilciekfbaaQTopTorus51
import Derived.Shelf.Strings.Builder1
import Derived.RangeFuncNested
import Derived.RangeFuncBound
import Derived.RangeFuncCalls
import Derived.RangeFuncLeaves
import Derived.RangeFuncBox
import Derived.Shelf.Abstract
import Derived.Shelf.RegionOpen
import Derived.OwnWalkIn
import Derived.TacticsInMore
import Derived.LoopNIn
import Derived.LoopIn
import Derived.Maps.AppendAt
import Derived.OrdersIn
import Derived.OrdersHeld
import Derived.Deep.RegionHeld
import Derived.Lib.SliceRun
namespace Go.Proofs.Ytckopilciekfbaa
open Go.RowKit Go.Sl Go.Mp Go.TL

theorem tor_and : ∀ q : Fin 32, bits .and .i64 (q.val : Int) 1 = ((q.val % 2 : Nat) : Int) := by decide +kernel
def altT (K i : Nat) : List Int := (altL K).take i
theorem tor_flat (K : Nat) : (List.replicate K [(1 : Int)]).flatten = torW K := by
  induction K with
  | zero => rfl
  | succ k ih => rw [List.replicate_succ, List.flatten_cons, ih]; rfl
theorem tor_bw (K : Nat) : BWord ((2 : Nat) : Int) (torW K) := fun x hx => by
  obtain ⟨_, rfl⟩ := List.mem_replicate.1 hx
  decide
theorem Pair.set1 {w : World} {B : Nat} {t : TypeId} {x y : Value} (h : Pair w B t x y) (v : Value) : Pair (w.setCell ⟨B, 1, none⟩ v) B t x v := by
  unfold Pair at *
  simp [World.setCell, Array.getElem?_modify, h]
theorem altT_succ {K i : Nat} (h : i < K) : altT K (i + 1) = altT K i ++ [1 - 2 * (((K - 1 - i) % 2 : Nat) : Int)] := by
  unfold altT
  have hl : i < (altL K).length := by simp [altL]; exact h
  rw [List.take_succ_eq_append_getElem hl]
  simp [altL]

set_option maxHeartbeats 8000000 in
set_option maxRecDepth 100000 in
theorem topTorus_true (k0 : Int) (hk0 : I64 k0) (m0 : Int) (hm0 : I64 m0) (w : World) :
    Calls Try.prog 5 #[.int .i64 k0, .int .i64 m0] w fun e w' => e = .returned (.bool true) ∧ Below w.heap.size w w' := by
  obtain ⟨K, hK⟩ : ∃ K : Nat, 1 + k0 % 20 = (K : Int) := ⟨(1 + k0 % 20).toNat, by omega⟩
  obtain ⟨M, hM⟩ : ∃ M : Nat, 1 + m0 % 13 = (M : Int) := ⟨(1 + m0 % 13).toNat, by omega⟩
  have hK1 : 1 ≤ K := by omega
  have hK2 : K ≤ 20 := by omega
  have hM1 : 1 ≤ M := by omega
  have hM2 : M ≤ 13 := by omega
  have hwK : IntKind.i64.wrap (1 + k0 % 20) = (K : Int) := by rw [hK]; exact IntWalk.i64_in _ ⟨by omega, by omega⟩
  have hwM : IntKind.i64.wrap (1 + m0 % 13) = (M : Int) := by rw [hM]; exact IntWalk.i64_in _ ⟨by omega, by omega⟩
  have TO := torOK hK1 hK2
  have bw := tor_bw K
  have lw : (torW K).length = K := by simp [torW]
  have HP := Lib.hid (fun W v hv => alex_calls 2 v (torW K) W hv (by decide) (by decide) bw (by omega) TO.pf TO.fit TO.ok)
  have HD := Lib.hid (fun W v hv => adet_calls 2 v (torW K) W hv (by decide) (by decide) bw (by omega) TO.pf TO.fit TO.ok TO.ok2 (by rw [TO.eq]; rw [TO.at2]; omega))
  have HC := Lib.hid (fun W v hv => ccount_calls 2 M v (torW K) W hv (by decide) (by decide) (by omega) hM2 bw (by omega))
  have HL := Lib.hid (fun W v hv => linknum_calls 2 v (torW K) W hv (by decide) (by decide) bw (by omega))
  have hcnt := torC_all ⟨K, by omega⟩ ⟨M, by omega⟩ hK1 hM1
  simp only at hcnt
  obtain ⟨G, hG⟩ : ∃ G, Nat.gcd K M = G := ⟨_, rfl⟩
  rw [hG] at hcnt
  have hG20 : G ≤ 20 := by rw [← hG]; exact Nat.le_trans (Nat.gcd_le_left M (by omega)) hK2
  have hMG : IntKind.i64.wrap ((M : Int) * (G : Int)) = (M : Int) * (G : Int) := by
    have h := Nat.mul_le_mul hM2 hG20
    have h2 : (M : Int) * (G : Int) = ((M * G : Nat) : Int) := by simp
    rw [h2]
    exact IntWalk.i64_in _ ⟨by omega, by omega⟩
  have HMG := Lib.hid hMG; have HGG := Lib.hid hG
  clear hMG hG
  rw [TO.eq] at HP HD
  have h2 := TO.at2
  simp only at HD
  rw [h2] at HD
  rw [hcnt] at HC
  have HK := Lib.hid hK; have HM := Lib.hid hM; have HWK := Lib.hid hwK; have HWM := Lib.hid hwM
  clear TO bw lw hcnt h2 hK hM hwK hwM
  go_enter Try.func5, Try.ntmps5
  go_wp2_with fail
  refine (below_calls k0 20 _ (by decide) (by decide) hk0).mono ?_
  rintro e w' ⟨rfl, rfl⟩
  have hwK := HWK.out
  go_wp2_with fail
  refine (below_calls m0 13 _ (by decide) (by decide) hm0).mono ?_
  rintro e w' ⟨rfl, rfl⟩
  have hwM := HWM.out
  go_wp2_with fail
  clear hwK hwM
  refine (repeat_calls _ [1] K _ (ints_lit [1] rfl rfl rfl (by decide)) hK1 (by omega) (by decide) (by simp; omega)).mono ?_
  rw [tor_flat]
  rintro e w1 ⟨v, rfl, hv, hb⟩
  have sv := hv.isSl
  have IV := Lib.hid hv.ints; have HB := Lib.hid (Below.chain ((Below.refl _ _).alloc (Nat.le_refl _) _) hb)
  clear hv hb
  go_wp2_with fail
  refine (HP.out _ _ IV.out).mono ?_
  rintro e w2 ⟨u, rfl, hu, hb⟩
  have su := hu.isSl
  replace IV := Lib.hid (IV.out.below hb); replace HB := Lib.hid (Below.chain HB.out hb)
  obtain ⟨W3, hW3⟩ : ∃ W3, W3 = w2.alloc (.cells #[.int .i64 0, u] 35) := ⟨_, rfl⟩
  have p3 : Pair W3 w2.heap.size 35 (.int .i64 0) u := by rw [hW3]; exact pair_new _ _ _ _
  have b3 : Below w2.heap.size w2 W3 := by rw [hW3]; exact (Below.refl _ _).alloc (Nat.le_refl _) _
  have hW3' := hW3.symm
  have KP := Lib.hid p3; have SP := Lib.hid (hu.ints.below b3)
  replace IV := Lib.hid (IV.out.below b3); replace HB := Lib.hid (Below.chain HB.out b3)
  clear hu hb hW3 p3 b3
  go_wp2_with fail
  clear hW3'
  refine (HD.out _ _ IV.out).mono ?_
  rintro e w4 ⟨rfl, hb⟩
  replace IV := Lib.hid (IV.out.below hb); replace HB := Lib.hid (Below.chain HB.out hb); replace KP := Lib.hid (KP.out.below hb); replace SP := Lib.hid (SP.out.below hb)
  clear hb
  go_wp2_with fail
  refine (HC.out _ _ IV.out).mono ?_
  rintro e w5 ⟨rfl, hb⟩
  replace IV := Lib.hid (IV.out.below hb); replace HB := Lib.hid (Below.chain HB.out hb); replace KP := Lib.hid (KP.out.below hb); replace SP := Lib.hid (SP.out.below hb)
  clear hb
  go_wp2_with fail
  refine (HL.out _ _ IV.out).mono ?_
  rintro e w6 ⟨l, C, lab, rfl, hcy, hlab, hr, hb⟩
  have sl := hr.isSl
  have ll := hr.len
  rw [matI_length] at ll
  obtain ⟨t1, t2⟩ := tor_link hcy hlab
  have HR := Lib.hid hr; have T1 := Lib.hid t1; have T2 := Lib.hid t2
  replace HB := Lib.hid (Below.chain HB.out hb); replace KP := Lib.hid (KP.out.below hb); replace SP := Lib.hid (SP.out.below hb)
  clear hcy hlab hr hb IV t1 t2
  go_wp2_with fail
  go_loopw [51] (fun ix wr => ∃ (i : Nat) (v : Value), i ≤ K ∧ ix = .int .i64 i ∧ Pair wr w6.heap.size 35 (.int .i64 0) v ∧ OwnI wr w6.heap.size v (altT K i) ∧ Below w6.heap.size w6 wr) (fun ix _ => K - (intOf ix).toNat)
  case atStart => exact ⟨0, _, Nat.zero_le _, rfl, pair_new _ _ _ _, ownI_nil _ _, (Below.refl _ _).alloc (Nat.le_refl _) _⟩
  case round =>
    obtain ⟨i, v, hi, rfl, hq, ho, hbr⟩ := hrel
    have so := ho.isSl
    obtain ⟨g1, g2, g3, rfl, -⟩ := so.cases
    have hll : (altT K i).length ≤ 1000 := by simp [altT]; omega
    by_cases hlt : i < K
    · obtain ⟨z, hz⟩ : ∃ z, K - 1 - i = z := ⟨_, rfl⟩
      obtain ⟨r, hr⟩ : ∃ r, z % 2 = r := ⟨_, rfl⟩
      have hzi : (K : Int) - 1 - (i : Int) = (z : Int) := by omega
      have hz32 : z < 32 := by omega
      have hr1 : r ≤ 1 := by omega
      have hbits : bits .and .i64 (z : Int) 1 = (r : Int) := by have := tor_and ⟨z, hz32⟩; rw [← hr]; exact this
      have hsu := altT_succ hlt
      rw [hz, hr] at hsu
      have hne : ∀ b, Go.Sl.row (.slice g1 g2 g3) = some b → w6.heap.size ≠ b := Own.ne_of_type (by decide) ho hq
      have e0 := hq.cell0; have e1 := hq.cell1; have hql := hq.lt
      have HSU := Lib.hid hsu; have HQ := Lib.hid hq; have HNE := Lib.hid hne; have HBR := Lib.hid hbr
      have hbs := hbr.size
      clear hz hr hsu hq hne hbr
      go_wp2_with (at_builtin; refine wpList_push (v := .slice g1 g2 g3) rfl _ _ rfl rfl rfl ho hbs (by omega) ?_; intro out2 wx ho2 hg2 hr2; have so2 := ho2.isSl; have q2 : Pair wx w6.heap.size 35 (.int .i64 0) (.slice g1 g2 g3) := ((hg2.block _ HQ.out.lt (fun e => HNE.out _ e.symm rfl)).trans HQ.out); have d1 := q2.cell1; have f1 := q2.free1)
      rw [← HSU.out] at ho2
      have hne2 : ∀ b, Go.Sl.row out2 = some b → w6.heap.size ≠ b := Own.ne_of_type (by decide) ho2 q2
      have bx : Below w6.heap.size w6 wx := Below_of_grown HBR.out hg2 hbs (fun b hb => (ho.lt b hb).1)
      go_roundw
      case rel => exact ⟨i + 1, out2, by omega, by go_num, q2.set1 _, ho2.setOther (fun b hb => hne2 b hb) _, bx.setCell (p := ⟨w6.heap.size, 1, none⟩) (Nat.le_refl _) _⟩
      case measure => simp [intOf]; omega
    · obtain rfl : i = K := by omega
      have hall : altT i i = altL i := List.take_of_length_le (by simp [altL])
      rw [hall] at ho
      have HQ := Lib.hid hq; have IO := Lib.hid ho.ints
      replace HR := Lib.hid (HR.out.below hbr); replace HB := Lib.hid (Below.chain HB.out hbr); replace KP := Lib.hid (KP.out.below hbr); replace SP := Lib.hid (SP.out.below hbr)
      clear hq ho hbr hll hall
      go_wp2_with fail
      go_loopw [16, 17] (fun c x wy => ∃ a b : Nat, c = .int .i64 a ∧ x = .int .i64 b ∧ a ≤ 20 ∧ b ≤ 20 ∧ Nat.gcd a b = G ∧ Below wr.heap.size wr wy) (fun _ x _ => (intOf x).toNat)
      case atStart => exact ⟨i, M, rfl, rfl, hK2, by omega, HGG.out, Below.refl _ _⟩
      case round =>
        rename World => Wz
        obtain ⟨a, b, rfl, rfl, ha, hb, hg, hbz⟩ := hrel
        by_cases hb0 : 0 < b
        · have hgt : (b : Int) > 0 := by omega
          have hgc : Nat.gcd b (a % b) = G := by rw [← hg, Nat.gcd_comm a b, Nat.gcd_rec b a, Nat.gcd_comm]
          have hlt : a % b < b := Nat.mod_lt _ hb0
          have hn0 : ((b : Int) == 0) = false := by rw [beq_eq_false_iff_ne]; omega
          have hn1 : (b : Int) ≠ 0 := by omega
          have hbn : ¬ b = 0 := by omega
          obtain ⟨r, hr⟩ : ∃ r, a % b = r := ⟨_, rfl⟩
          have hm1 : (a : Int) % (b : Int) = (r : Int) := by rw [← hr]; simp
          have hm2 : (a : Int).tmod (b : Int) = (r : Int) := by rw [← hr]; rfl
          have hm3 : IntKind.i64.wrap (r : Int) = (r : Int) := IntWalk.i64_in _ ⟨by omega, by omega⟩
          rw [hr] at hgc hlt
          clear hr hg
          go_wp2_with fail
          refine wp_region_held_drew (S := fun _ => True) (by kernel_rfl) (trivial) (fun hHeld => ?_)
          have BEL : Below (World.heap Wz).size Wz (World.drew Wz) := (Below.refl _ _).drew
          obtain ⟨y0, hy0⟩ : ∃ y0, y0 = World.drew Wz := ⟨_, rfl⟩
          rw [← hy0] at BEL  ⊢
          (try rw [← hy0] at hHeld)
          clear hy0
          refine' wpAnyH_take (i := 0) (oi := ?oiz1) (v := ?vz1) ?haz1 (by kernel_rfl) ?hfz1 ?hrz1 ?hQz1 (Or.inl ⟨?hwz1, ?hyz1⟩) (by assumption) ?restz1
          case haz1 => (simp only [List.getElem?_toArray, List.getElem?_cons_zero]; exact rfl)
          case hQz1 => exact fun _ _ _ h => h
          case hfz1 => kernel_rfl
          case hrz1 => kernel_rfl
          case hwz1 => rfl
          case hyz1 => (intro w hSw; (try dsimp only at hSw); skip; go_simp; (try with_reducible rfl))
          try simp only [Act.put, List.setIfInBounds_toArray, List.set_cons_zero, List.set_cons_succ]
          refine' wpAnyH_take (i := 1) (oi := ?oiz2) (v := ?vz2) ?haz2 (by kernel_rfl) ?hfz2 ?hrz2 ?hQz2 (Or.inl ⟨?hwz2, ?hyz2⟩) (by assumption) ?restz2
          case haz2 => (simp only [List.getElem?_toArray, List.getElem?_cons_succ, List.getElem?_cons_zero]; exact rfl)
          case hQz2 => exact fun _ _ _ h => h
          case hfz2 => kernel_rfl
          case hrz2 => kernel_rfl
          case hwz2 => rfl
          case hyz2 => (intro w hSw; (try dsimp only at hSw); skip; go_simp; (try with_reducible rfl))
          try simp only [Act.put, List.setIfInBounds_toArray, List.set_cons_zero, List.set_cons_succ]
          refine' wpAnyH_take (i := 2) (oi := ?oiz3) (v := ?vz3) ?haz3 (by kernel_rfl) ?hfz3 ?hrz3 ?hQz3 (Or.inl ⟨?hwz3, ?hyz3⟩) (by assumption) ?restz3
          case haz3 => (simp only [List.getElem?_toArray, List.getElem?_cons_succ, List.getElem?_cons_zero]; exact rfl)
          case hQz3 => exact fun _ _ _ h => h
          case hfz3 => kernel_rfl
          case hrz3 => kernel_rfl
          case hwz3 => rfl
          case hyz3 => (intro w hSw; (try dsimp only at hSw); skip; go_simp; (try with_reducible rfl))
          try simp only [Act.put, List.setIfInBounds_toArray, List.set_cons_zero, List.set_cons_succ]
          refine' wpAnyH_take (i := 3) (oi := ?oiz4) (v := ?vz4) ?haz4 (by kernel_rfl) ?hfz4 ?hrz4 ?hQz4 (Or.inl ⟨?hwz4, ?hyz4⟩) (by assumption) ?restz4
          case haz4 => (simp only [List.getElem?_toArray, List.getElem?_cons_succ, List.getElem?_cons_zero]; exact rfl)
          case hQz4 => exact fun _ _ _ h => h
          case hfz4 => kernel_rfl
          case hrz4 => kernel_rfl
          case hwz4 => rfl
          case hyz4 => (intro w hSw; (try dsimp only at hSw); skip; go_simp; (try with_reducible rfl))
          try simp only [Act.put, List.setIfInBounds_toArray, List.set_cons_zero, List.set_cons_succ]
          refine' wpAnyH_take (i := 4) (oi := ?oiz5) (v := ?vz5) ?haz5 (by kernel_rfl) ?hfz5 ?hrz5 ?hQz5 (Or.inl ⟨?hwz5, ?hyz5⟩) (by assumption) ?restz5
          case haz5 => (simp only [List.getElem?_toArray, List.getElem?_cons_succ, List.getElem?_cons_zero]; exact rfl)
          case hQz5 => exact fun _ _ _ h => h
          case hfz5 => kernel_rfl
          case hrz5 => kernel_rfl
          case hwz5 => rfl
          case hyz5 => (intro w hSw; (try dsimp only at hSw); skip; go_simp; (try with_reducible rfl))
          try simp only [Act.put, List.setIfInBounds_toArray, List.set_cons_zero, List.set_cons_succ]
          refine' wpAnyH_take (i := 5) (oi := ?oiz6) (v := ?vz6) ?haz6 (by kernel_rfl) ?hfz6 ?hrz6 ?hQz6 (Or.inl ⟨?hwz6, ?hyz6⟩) (by assumption) ?restz6
          case haz6 => (simp only [List.getElem?_toArray, List.getElem?_cons_succ, List.getElem?_cons_zero]; exact rfl)
          case hQz6 => exact fun _ _ _ h => h
          case hfz6 => kernel_rfl
          case hrz6 => kernel_rfl
          case hwz6 => rfl
          case hyz6 => (intro w hSw; (try dsimp only at hSw); skip; go_simp; (try with_reducible rfl))
          try simp only [Act.put, List.setIfInBounds_toArray, List.set_cons_zero, List.set_cons_succ]
          refine wpAnyH_done (by kernel_rfl) ?_ _
          go_wp2_with fail
          go_roundw
          case rel => exact ⟨b, r, rfl, rfl, by omega, by omega, hgc, Below.chain hbz BEL⟩
          case measure => simp [intOf]; omega
        · have hb1 : b = 0 := by omega
          subst hb1
          rw [Nat.gcd_zero_right] at hg
          subst hg
          have hR := HR.out.below hbz
          obtain ⟨vs, hrv⟩ := hR
          replace HB := Lib.hid (Below.chain HB.out hbz); replace KP := Lib.hid (KP.out.below hbz); replace SP := Lib.hid (SP.out.below hbz); replace HQ := Lib.hid (HQ.out.below hbz); replace IO := Lib.hid (IO.out.below hbz)
          have hMG := HMG.out
          clear hbz HR
          rcases Nat.mod_two_eq_zero_or_one i with hpar | hpar
          · obtain ⟨n2, n3⟩ := T2.out hpar
            rw [n2] at hrv ll
            have c0 := hrv.cell (i := 0) (by rw [matI_length]; decide)
            have r0 := hrv.row (i := 0) (by rw [matI_length]; decide)
            obtain ⟨q0, hq0⟩ : ∃ q, nthv vs 0 = q := ⟨_, rfl⟩
            rw [hq0] at c0 r0
            rw [nthr_matI (by decide)] at r0
            have sq := r0.isSl
            have lq := r0.len
            have lq : vlen q0 = 2 := lq
            have d1 := r0.cell (k := 1) (by simp)
            rw [nth_row (by decide), n3] at d1
            have hp1 : (i : Int) % 2 = 0 := by omega
            have hp2 : (i : Int).tmod 2 = 0 := by rw [Int.tmod_eq_emod]; split <;> omega
            obtain ⟨hf, hhf⟩ : ∃ hf : Int, (i : Int).tdiv 2 = hf := ⟨_, rfl⟩
            have hd1 : (i : Int) / 2 = hf := by rw [← hhf, Int.tdiv_eq_ediv_of_nonneg (by omega)]
            have hd2 : IntKind.i64.wrap hf = hf := IntWalk.i64_in _ ⟨by omega, by omega⟩
            rw [hhf] at d1
            clear n2 n3 hq0 hrv r0 T1 T2
            go_wp2_with fail
            refine (trefoil_calls _).mono ?_
            rintro e w8 ⟨rfl, hb⟩
            replace HB := Lib.hid (Below.chain HB.out hb); replace KP := Lib.hid (KP.out.below hb); replace SP := Lib.hid (SP.out.below hb); replace HQ := Lib.hid (HQ.out.below hb); replace IO := Lib.hid (IO.out.below hb)
            have x0 := KP.out.cell0; have x1 := KP.out.cell1; have y0 := HQ.out.cell0; have y1 := HQ.out.cell1
            clear hb
            go_wp2_with fail
            refine (topsame_yes ⟨0, altL i⟩ ⟨0, altL i⟩ _ _ _ SP.out IO.out rfl).mono ?_
            rintro e w9 ⟨rfl, hb⟩
            replace HB := Lib.hid (Below.chain HB.out hb)
            clear hb x0 x1 y0 y1
            go_wp2_with fail
            go_ret
            exact ⟨rfl, HB.out⟩
          · obtain ⟨n2, n3⟩ := T1.out hpar
            rw [n2] at hrv ll
            have c0 := hrv.cell (i := 0) (by rw [matI_length]; decide)
            have r0 := hrv.row (i := 0) (by rw [matI_length]; decide)
            obtain ⟨q0, hq0⟩ : ∃ q, nthv vs 0 = q := ⟨_, rfl⟩
            rw [hq0] at c0 r0
            rw [nthr_matI (by decide)] at r0
            have sq := r0.isSl
            have lq := r0.len
            have lq : vlen q0 = 1 := lq
            have d0 := r0.cell (k := 0) (by simp)
            rw [nth_row (by decide), n3] at d0
            have hp1 : (i : Int) % 2 = 1 := by omega
            have hp2 : (i : Int).tmod 2 = 1 := by rw [Int.tmod_eq_emod]; split <;> omega
            clear n2 n3 hq0 hrv r0 T1 T2
            go_wp2_with fail
            refine (trefoil_calls _).mono ?_
            rintro e w8 ⟨rfl, hb⟩
            replace HB := Lib.hid (Below.chain HB.out hb); replace KP := Lib.hid (KP.out.below hb); replace SP := Lib.hid (SP.out.below hb); replace HQ := Lib.hid (HQ.out.below hb); replace IO := Lib.hid (IO.out.below hb)
            have x0 := KP.out.cell0; have x1 := KP.out.cell1; have y0 := HQ.out.cell0; have y1 := HQ.out.cell1
            clear hb
            go_wp2_with fail
            refine (topsame_yes ⟨0, altL i⟩ ⟨0, altL i⟩ _ _ _ SP.out IO.out rfl).mono ?_
            rintro e w9 ⟨rfl, hb⟩
            replace HB := Lib.hid (Below.chain HB.out hb)
            clear hb x0 x1 y0 y1
            go_wp2_with fail
            go_ret
            exact ⟨rfl, HB.out⟩
end Go.Proofs.Ytckopilciekfbaa

