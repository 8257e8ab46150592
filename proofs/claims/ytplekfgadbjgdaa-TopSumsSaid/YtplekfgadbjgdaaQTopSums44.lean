/- jones.bracket walked: the sum over all states, in whatever order the maps are ranged over. -/
import Derived.Test.YtplekfgadbjgdaaQTopSums0
import Derived.Test.YtplekfgadbjgdaaQTopSums1
import Derived.Test.YtplekfgadbjgdaaQTopSums2
import Derived.Test.YtplekfgadbjgdaaQTopSums3
import Derived.Test.YtplekfgadbjgdaaQTopSums4
import Derived.Test.YtplekfgadbjgdaaQTopSums5
import Derived.Test.YtplekfgadbjgdaaQTopSums6
import Derived.Test.YtplekfgadbjgdaaQTopSums7
import Derived.Test.YtplekfgadbjgdaaQTopSums8
import Derived.Test.YtplekfgadbjgdaaQTopSums9
import Derived.Test.YtplekfgadbjgdaaQTopSums10
import Derived.Test.YtplekfgadbjgdaaQTopSums11
import Derived.Test.YtplekfgadbjgdaaQTopSums12
import Derived.Test.YtplekfgadbjgdaaQTopSums13
import Derived.Test.YtplekfgadbjgdaaQTopSums14
import Derived.Test.YtplekfgadbjgdaaQTopSums15
import Derived.Test.YtplekfgadbjgdaaQTopSums16
import Derived.Test.YtplekfgadbjgdaaQTopSums17
import Derived.Test.YtplekfgadbjgdaaQTopSums19
import Derived.Test.YtplekfgadbjgdaaQTopSums20
import Derived.Test.YtplekfgadbjgdaaQTopSums21
import Derived.Test.YtplekfgadbjgdaaQTopSums22
import Derived.Test.YtplekfgadbjgdaaQTopSums23
import Derived.Test.YtplekfgadbjgdaaQTopSums24
import Derived.Test.YtplekfgadbjgdaaQTopSums26
import Derived.Test.YtplekfgadbjgdaaQTopSums27
import Derived.Test.YtplekfgadbjgdaaQTopSums28
import Derived.Test.YtplekfgadbjgdaaQTopSums29
import Derived.Test.YtplekfgadbjgdaaQTopSums30
import Derived.Test.YtplekfgadbjgdaaQTopSums31
import Derived.Test.YtplekfgadbjgdaaQTopSums32
import Derived.Test.YtplekfgadbjgdaaQTopSums33
import Derived.Test.YtplekfgadbjgdaaQTopSums37
import Derived.Test.YtplekfgadbjgdaaQTopSums38
import Derived.Test.YtplekfgadbjgdaaQTopSums42
import Derived.Test.YtplekfgadbjgdaaQTopSums43
import Derived.RangeFuncNested
import Derived.RangeFuncBound
import Derived.RangeFuncCalls
import Derived.RangeFuncLeaves
import Derived.RangeFuncBox
import Derived.Shelf.Abstract
import Derived.Shelf.RegionOpen
import Derived.OwnWalkIn
import Derived.TacticsInMore
import Derived.LoopNIn
import Derived.LoopIn
import Derived.Maps.AppendAt
import Derived.Deep.RegionLaw
namespace Go.Proofs.Ytplekfgadbjgdaa
open Go.RowKit Go.Sl Go.Mp Go.TL

theorem pow3_le {k : Nat} (h : k ≤ 12) : 3 ^ k ≤ 531441 := by
  calc 3 ^ k ≤ 3 ^ 12 := Nat.pow_le_pow_right (by decide) h
    _ = 531441 := rfl
theorem ev_p10 {t : Rat} (ht : t ≠ 0) : ev (pterm 1 0) t = 1 := by rw [ev_pterm _ _ ht]; simp
theorem padd_zero_p10 : padd pzero (pterm 1 0) 1 = pterm 1 0 := ev_ext (padd_trimmed _ _ _) (pterm_trimmed _ _) fun t ht => by
  rw [ev_padd _ _ _ ht, ev_pzero, ev_p10 ht, Rat.zero_add, Rat.mul_one]; rfl
/-- What the walk hands back. -/
def BrRes (N Tr : Nat) (P : List Nat) (xs : List Int) (w w' : World) (e : Ending) : Prop :=
  ∃ p s, e = .returned (.agg #[.int .i64 p.low, s]) ∧ OwnI w' w.heap.size s p.c ∧ Trimmed p ∧ Within p (-(3 * (xs.length : Int) + 10)) (3 * (xs.length : Int) + 11) ∧ n1 p.c ≤ 3 ^ xs.length * 32 ∧ (∀ t : Rat, t ≠ 0 → ev p t = bracketJ P N Tr t xs) ∧ Below w.heap.size w w'

set_option maxRecDepth 100000 in
set_option maxHeartbeats 16000000 in
theorem bracket_calls {n N : Nat} {S : List (List Nat)} {P : List Nat} {Tr : Nat} (H : MJ n N S P Tr) (h1 : 1 ≤ n) (h6 : n ≤ 6) (wv : Value) (xs : List Int) (w : World) (hw : Ints w wv xs) (hx : NWord n xs) (hl : xs.length ≤ 12) :
    Calls Try.prog 108 #[.int .i64 n, wv] w fun e w' => BrRes N Tr P xs w w' e := by
  have KO := H.keys h6
  have hlen : ∀ i, i < N → (S.getD i []).length = 2 * n ∧ ∀ k, k < 2 * n → (S.getD i []).getD k 0 < 2 * n := fun i hi => ⟨(TOk.of (H.right i hi).2.2).len, (TOk.of (H.right i hi).2.2).lt⟩
  have h0N : 0 < N := by have := H.gN; omega
  have sw := hw.isSl
  have lw := hw.len
  obtain ⟨L, hL⟩ : ∃ L, xs.length = L := ⟨_, rfl⟩
  rw [hL] at lw hl
  obtain ⟨N2, hN2⟩ : ∃ N2, 2 * n = N2 := ⟨_, rfl⟩
  have hi2 : (2 : Int) * (n : Int) = (N2 : Int) := by omega
  have hN12 : N2 ≤ 12 := by omega
  have hN2b : 2 ≤ N2 := by omega
  have hmm := @run_makeMap Try.prog
  have hone := H.one
  obtain ⟨W1, hW1⟩ : ∃ W1, W1 = w.alloc (.cells #[.int .i64 0, .slice none 0 0] 40) := ⟨_, rfl⟩
  have b1 : Below w.heap.size w W1 := by rw [hW1]; exact (Below.refl _ _).alloc (Nat.le_refl _) _
  have p1 : Pair W1 w.heap.size 40 (.int .i64 0) (.slice none 0 0) := by rw [hW1]; exact pair_new _ _ _ _
  have z1 : w.heap.size < W1.heap.size := by rw [hW1]; simp
  have hBM : W1.heap.size = w.heap.size + 1 := by rw [hW1]; simp
  have HBM := Lib.hid hBM
  clear hBM
  have HW1 := Lib.hid hW1.symm; have B1 := Lib.hid b1; have P1 := Lib.hid p1
  have HK := Lib.hid KO; have HLEN := Lib.hid hlen; have HLE := Lib.hid hL; have HH := Lib.hid H; have HX := Lib.hid hx; have HN2 := Lib.hid hN2; have HWD := Lib.hid hw; have HI2 := Lib.hid hi2; have HONE := Lib.hid hone
  clear hW1 b1 p1 KO hlen hL H hx hw hi2 hone hN2
  go_enter Try.func108, Try.ntmps108
  go_wp2_with fail
  rw [HW1.out]
  have M1 := Lib.hid (mapP_made (S := S) (N := N) W1)
  have BA : Below W1.heap.size W1 (W1.alloc (.map #[] 0)) := (Below.refl _ _).alloc (Nat.le_refl _) _
  have P1 := Lib.hid (P1.out.below BA); have HWD := Lib.hid (HWD.out.below (Below.chain B1.out BA)); have B1 := Lib.hid (Below.chain B1.out BA)
  clear BA
  rw [HBM.out] at M1
  refine (one_calls n _ h1 h6).mono ?_
  rintro e u1 ⟨o1, rfl, ho, hb⟩
  have so1 := ho.isSl
  have I1 := Lib.hid ho.ints
  have M1 := Lib.hid (M1.out.below hb); have P1 := Lib.hid (P1.out.below hb); have HWD := Lib.hid (HWD.out.below hb); have B1 := Lib.hid (Below.chain B1.out hb)
  clear ho hb
  go_wp2_with fail
  refine (keyOf_calls (oneL n) _ _ I1.out (by rw [← HONE.out, (HLEN.out 0 h0N).1]; omega)).mono ?_
  obtain ⟨kv, hkv⟩ : ∃ kv, keyV (S.getD 0 []) = kv := ⟨_, rfl⟩
  rw [← HONE.out, hkv]
  have HKV := Lib.hid hkv
  clear hkv
  rintro e u2 ⟨rfl, hb⟩
  have M1 := Lib.hid (M1.out.below hb); have P1 := Lib.hid (P1.out.below hb); have HWD := Lib.hid (HWD.out.below hb); have B1 := Lib.hid (Below.chain B1.out hb)
  clear hb
  go_wp2_with fail
  refine (term_calls 1 0 _ (by omega) (by omega)).mono ?_
  rintro e u3 ⟨t1, rfl, ht, hb⟩
  have st1 := ht.isSl
  have PT1 := Lib.hid (show PolyV u3 (.agg #[.int .i64 (pterm 1 0).low, t1]) (pterm 1 0) from ⟨_, rfl, ht.ints⟩)
  have M1 := Lib.hid (M1.out.below hb); have P1 := Lib.hid (P1.out.below hb); have HWD := Lib.hid (HWD.out.below hb); have B1 := Lib.hid (Below.chain B1.out hb)
  clear ht hb
  go_wp2_with (refine wpList_insertP rfl _ _ _ rfl HK.out rfl M1.out h0N HKV.out.symm rfl PT1.out ?_; intro u4 M4 g4 z4)
  have P1 := Lib.hid (Pair.grown_map P1.out g4 M1.out.isMap); have HWD := Lib.hid (Ints.grown_map HWD.out g4 M1.out.isMap); have B1 := Lib.hid (B1.out.grown g4 B1.out.size (fun k hk => by cases hk; omega))
  have JA0 : JA N (3 * 0) (3 ^ 0) (updP (fun _ => pzero) 0 (pterm 1 0)) (fun t => wordJ P N t (xs.take 0) unitJ) := by
    have h := (ja_zero N 0).add (j := 0) (p := pterm 1 0) (k := 1) (g := fun _ => 1) h0N ((within_pterm 1 0).mono (by omega) (by omega)) (by simpa using n1_pterm 1 0) (fun t ht => ev_p10 ht)
    rw [padd_zero_p10] at h
    refine h.congr (Nat.le_refl _) fun t _ i _ => ?_
    show 0 + _ = unitJ i
    exact Rat.zero_add _
  have HJ0 := Lib.hid JA0; have M4 := Lib.hid M4
  have HMM := Lib.hid hmm
  clear M1 I1 PT1 JA0 g4 HKV hmm
  go_wp2_with fail
  go_loopw [5, 28] (fun nw i wr => ∃ (k b : Nat) (q : Nat → LP), k ≤ L ∧ i = .int .i64 k ∧ nw = .map (some b) ∧ MapP S N wr b q ∧ JA N (3 * k) (3 ^ k) q (fun t => wordJ P N t (xs.take k) unitJ) ∧ Pair wr w.heap.size 40 (.int .i64 0) (.slice none 0 0) ∧ Ints wr wv xs ∧ Below w.heap.size w wr ∧ w.heap.size < wr.heap.size) (fun _ i _ => L - (intOf i).toNat)
  case atStart => exact ⟨0, w.heap.size + 1, _, Nat.zero_le _, rfl, rfl, M4.out, HJ0.out, P1.out, HWD.out, B1.out, P1.out.lt⟩
  case round =>
    rename World => Wo
    obtain ⟨k, b, q, hk, rfl, rfl, hM, hJ, hP, hW, hB, hsz⟩ := hrel
    clear HWD P1 B1 M4 HJ0
    have HM := Lib.hid hM; have HJ := Lib.hid hJ; have HP := Lib.hid hP; have HWD := Lib.hid hW; have HB := Lib.hid hB
    clear hJ hP hB
    by_cases hlt : k < L
    · have ck := hW.cell (k := k) (by rw [HLE.out]; exact hlt)
      have hxk := HX.out (nth xs k) (nth_mem (by rw [HLE.out]; exact hlt))
      obtain ⟨x, hxe⟩ : ∃ x, nth xs k = x := ⟨_, rfl⟩
      rw [hxe] at ck hxk
      have htk : xs.take (k + 1) = xs.take k ++ [x] := by
        have h : k < xs.length := by rw [HLE.out]; exact hlt
        rw [List.take_succ_eq_append_getElem h, ← hxe, nth_lt h]
      have HXE := Lib.hid hxe; have HTK := Lib.hid htk
      obtain ⟨x0, xn⟩ := hxk
      have bM := hM.lt
      have hk12 : k ≤ 12 := by omega
      obtain ⟨g, hg⟩ : ∃ g, x.natAbs = g := ⟨_, rfl⟩
      rw [hg] at xn
      have g1 : 1 ≤ g := by omega
      have xb1 : -1000 ≤ x := by omega
      have xb2 : x ≤ 1000 := by omega
      have HG := Lib.hid hg
      clear hxe htk hM hW hg
      obtain ⟨W2, hW2⟩ : ∃ W2, W2 = Wo.alloc (.map #[] 0) := ⟨_, rfl⟩
      have hb2 : Below Wo.heap.size Wo W2 := by rw [hW2]; exact (Below.refl _ _).alloc (Nat.le_refl _) _
      have m2 : MapP S N W2 Wo.heap.size (fun _ => pzero) := by rw [hW2]; exact mapP_made _
      obtain ⟨C, hC⟩ : ∃ C, Wo.heap.size = C := ⟨_, rfl⟩
      have hm2 : (Instr.makeMap 159 none).run Try.prog Wo = .ok (.map (some C)) W2 := by rw [HMM.out, ← hW2, hC]
      rw [hC] at m2
      have z2 := m2.lt
      have HB2 := Lib.hid hb2; have M2 := Lib.hid m2; have N2' := Lib.hid (HM.out.below hb2); have HC := Lib.hid hC
      have bC : b ≠ C := by omega
      have hwC : w.heap.size ≤ C := by rw [← hC]; exact HB.out.size
      clear hW2 hb2 m2 hC
      go_wp2_with (refine wpList_rangeP rfl _ rfl rfl N2'.out ?_; intro W3 cnt0 hr3 hb3 hz3)
      have HR3 := Lib.hid hr3; have M3 := Lib.hid (M2.out.below hb3); have HB3 := Lib.hid (Below.chain HB2.out hb3)
      clear hr3 hb3
      simp only [Act.put, List.setIfInBounds_toArray, List.set_cons_zero, List.set_cons_succ]
      go_loopw [35] (fun _ wr => ∃ (d : Nat → Bool) (q' : Nat → LP) (cnt : Nat), RangeP S N wr b W2.heap.size q d cnt ∧ MapP S N wr C q' ∧ JA N (3 * k + 3) (3 * massJ N q d) q' (fun t => partJ P N t x (wordJ P N t (xs.take k) unitJ) d) ∧ Pair wr w.heap.size 40 (.int .i64 0) (.slice none 0 0) ∧ Ints wr wv xs ∧ Below w.heap.size w wr ∧ C < wr.heap.size) (fun _ wr => wr.rangeLeft b W2.heap.size)
      case atStart => exact ⟨_, _, cnt0, HR3.out, M3.out, (ja_zero N (3 * k + 3)).congr (Nat.zero_le _) (fun t _ j _ => (partJ_none P).symm), HP.out.below HB3.out, HWD.out.below HB3.out, HB.out.trans (HB3.out.mono HB.out.size), by have := HB3.out.size; have := M3.out.lt; omega⟩
      case round =>
        rename World => Wz
        obtain ⟨d, q', cnt, hr, hM', hJ', hP, hW, hB, hz⟩ := hrel
        have rge : w.heap.size ≤ W2.heap.size := Nat.le_trans HB.out.size HB2.out.size
        have hri := hr.iter
        have HLQ := Lib.hid hr.left_eq
        have HM' := Lib.hid hM'; have HJ' := Lib.hid hJ'; have HP' := Lib.hid hP; have HW' := Lib.hid hW; have HB' := Lib.hid hB; have HRI := Lib.hid hri; have HR := Lib.hid hr
        clear hM' hJ' hP hW hB hri hr
        go_wp2_with (first
          | (refine wpList_nextP rfl (.tmp 34) rfl rfl HK.out HR.out ?_ ?_; intro hdone; have HD := Lib.hid hdone; clear hdone; rotate_left 1; intro i s w5 cnt' hi hdi hs hr5 hcnt hg5 hz5 hen; obtain ⟨D, hD⟩ : ∃ D, S.getD i [] = D := ⟨_, rfl⟩; rw [hD] at hen ⊢; have HDD := Lib.hid hD; have hDl : D.length ≤ 12 := (by rw [← hD, (HLEN.out i hi).1, HN2.out]; exact hN12); have ss := hs.isSl; have ki := keyC_info D hDl; have ks := keyC_size D hDl; have k1 := keyC_one D; have HKI := Lib.hid ki; have HKS := Lib.hid (show (12 : Nat) = (keyC D).size from ks.symm); have HK1 := Lib.hid k1; have HHS := Lib.hid hs; have HR5 := Lib.hid hr5; have HG5 := Lib.hid hg5; have HZ5 := Lib.hid hz5; clear hz5 ki ks k1 hD hs hr5 hg5; rotate_left 1)
          | (refine wpList_store_row rfl _ _ _ rfl w5.heap.size (keyC D) rfl rfl _ _ (heap_alloc2_old _ _ _) HKI.out HKS.out HK1.out ?_)
          | (refine wpList_store_row rfl _ _ _ rfl (w5.heap.size + 1) #[.int .i64 (q i).low, s] rfl rfl _ _ ((setRow_other _ _ _ _ (by omega)).trans (heap_alloc2_new _ _ _)) (by kernel_rfl) rfl (by simp [oneCell'_sl, ss]; rfl) ?_))
        · exact ⟨⟨k + 1, C, q', by omega, by go_num, rfl, HM'.out, ja_next HJ.out HJ'.out HD.out HTK.out, HP'.out, HW'.out, HB'.out, HP'.out.lt⟩, by simp [intOf]; omega⟩
        · generalize hW5 : World.setRow (World.setRow _ _ _) _ _ = W5
          obtain ⟨f1, f2, f3, f4⟩ := boxes2 w5 _ _ ⟨_, rfl⟩ ⟨_, rfl⟩ hW5.symm
          have e1 : HBlk W5 w5.heap.size (.cells (keyC D) 157 (0, 0)) := f1
          have KEY := Lib.hid e1; have PP := Lib.hid f2
          have RNG := Lib.hid (HR5.out.below f3)
          have BOX := Lib.hid ((HP'.out.grown_iter HG5.out HRI.out).below f3)
          have PS := Lib.hid (HHS.out.below f3)
          have WD := Lib.hid ((Ints.grown_iter HW'.out HG5.out HRI.out).below f3)
          have MP := Lib.hid ((HM'.out.grown_iter HG5.out HRI.out).below f3)
          have BEL := Lib.hid ((HB'.out.grown HG5.out HB'.out.size (fun b hb => by cases hb; exact rge)).trans (f3.mono (by rw [HZ5.out]; exact HB'.out.size)))
          obtain ⟨K9, hK9⟩ : ∃ K, w5.heap.size = K := ⟨_, rfl⟩
          have HK9 := Lib.hid hK9
          rw [hK9] at KEY PP
          have hzz : w5.heap.size + 1 < W5.heap.size := by omega
          rw [hK9] at hzz
          rw [hK9]
          clear hW5 f1 f2 f3 f4 e1 hK9 HKI HKS HK1 HHS HR5 HG5 HM' HP' HW' HB' HR HRI hen
          refine (one_calls n _ h1 h6).mono ?_
          rintro e u1 ⟨v1, rfl, ho, hb⟩
          have sv1 := ho.isSl
          have ONE0 := ho.ints
          clear ho
          have ONE := Lib.hid (ONE0)
          replace KEY := Lib.hid (KEY.out.below hb)
          replace PP := Lib.hid (PP.out.below hb)
          replace RNG := Lib.hid (RNG.out.below hb)
          replace BOX := Lib.hid (BOX.out.below hb)
          replace PS := Lib.hid (PS.out.below hb)
          replace WD := Lib.hid (WD.out.below hb)
          replace MP := Lib.hid (MP.out.below hb)
          replace BEL := Lib.hid (Below.chain BEL.out hb)
          clear hb
          go_wp2_with fail
          refine (bindex_calls x _ xb1 xb2).mono ?_
          rintro e w' ⟨rfl, rfl⟩
          rw [HG.out]
          go_wp2_with fail
          refine (cup_calls n g _ h1 h6 g1 xn).mono ?_
          rintro e u2 ⟨v2, rfl, ho, hb⟩
          have sv2 := ho.isSl
          have CUP0 := ho.ints
          clear ho
          have CUP := Lib.hid (CUP0)
          replace KEY := Lib.hid (KEY.out.below hb)
          replace PP := Lib.hid (PP.out.below hb)
          replace RNG := Lib.hid (RNG.out.below hb)
          replace BOX := Lib.hid (BOX.out.below hb)
          replace PS := Lib.hid (PS.out.below hb)
          replace WD := Lib.hid (WD.out.below hb)
          replace MP := Lib.hid (MP.out.below hb)
          replace ONE := Lib.hid (ONE.out.below hb)
          replace BEL := Lib.hid (Below.chain BEL.out hb)
          clear hb
          have hz2 : C < u2.heap.size := MP.out.lt
          have hzK := PP.out.lt
          go_wp2_with (refine wpList_rows2 rfl (.tmp 41) (.tmp 45) rfl rfl rfl sv1 sv2 ?_)
          obtain ⟨KR, hKR⟩ : ∃ K, u2.heap.size = K := ⟨_, rfl⟩
          obtain ⟨W6, hW6⟩ : ∃ W, W = u2.alloc (.cells #[v1, v2] 22) := ⟨_, rfl⟩
          rw [← hW6]
          have f6 : Below u2.heap.size u2 W6 := by rw [hW6]; exact (Below.refl _ _).alloc (Nat.le_refl _) _
          have r6 : W6.heap[u2.heap.size]? = some (.cells #[v1, v2] 22 (0, 0)) := by rw [hW6]; exact heap_alloc_new _ _
          have z6 : u2.heap.size < W6.heap.size := by rw [hW6]; simp
          rw [hKR] at r6 z6 ⊢
          have BJ6 : BJ S N W6 b W2.heap.size q (markJ d i) cnt' w.heap.size K9 (K9 + 1) KR (keyC D) (q i).low s v1 v2 wv (q i).c (iz (oneL n)) (iz (cupL n g)) xs :=
            ⟨RNG.out.below f6, BOX.out.below f6, blk_below KEY.out f6, PP.out.below f6, PS.out.below f6, r6, ONE.out.below f6, CUP.out.below f6, WD.out.below f6⟩
          have HBJ := Lib.hid BJ6; have MP := Lib.hid (MP.out.below f6); have BEL := Lib.hid (Below.chain BEL.out f6)
          obtain ⟨a, ha⟩ : ∃ a, a = n1 (q i).c := ⟨_, rfl⟩
          obtain ⟨T0, hT0⟩ : ∃ T, T = 3 * massJ N q d := ⟨_, rfl⟩
          have HA := Lib.hid ha; have HT0 := Lib.hid hT0
          have hbz : C < W6.heap.size := MP.out.lt
          clear hW6 f6 r6 BJ6 ha hT0 KEY PP RNG BOX PS WD ONE CUP hKR hz2
          rw [← HT0.out] at HJ'
          have e48 : IntKind.i64.wrap ((2 : Int)) = 2 := rfl
          go_loopw [48] (fun z wr => ∃ (c : Nat) (p' : Nat → LP), c ≤ 2 ∧ z = .int .i64 c ∧ BJ S N wr b W2.heap.size q (markJ d i) cnt' w.heap.size K9 (K9 + 1) KR (keyC D) (q i).low s v1 v2 wv (q i).c (iz (oneL n)) (iz (cupL n g)) xs ∧ MapP S N wr C p' ∧ JA N (3 * k + 3) (T0 + choM a c) p' (fun t j => partJ P N t x (wordJ P N t (xs.take k) unitJ) d j + choJ P t x (wordJ P N t (xs.take k) unitJ i) i c j) ∧ Below w.heap.size w wr ∧ KR < wr.heap.size) (fun z _ => 2 - (intOf z).toNat)
          case atStart => exact ⟨0, q', by omega, rfl, HBJ.out, MP.out, ja_first HJ'.out, BEL.out, z6⟩
          case round =>
            rename World => Wy
            obtain ⟨c, p', hc2, rfl, hBJ, hMP, hJA, hBE, hKz⟩ := hrel
            clear HBJ MP BEL HJ' e48
            have HBJ := Lib.hid hBJ; have MP := Lib.hid hMP; have HJA := Lib.hid hJA; have BEL := Lib.hid hBE
            by_cases hc : c < 2
            · have crow : Wy.cell? ⟨KR, c, none⟩ = some (if c = 0 then v1 else v2) := by
                rw [cell_of_row Wy KR c _ _ _ hBJ.rows]
                rcases (by omega : c = 0 ∨ c = 1) with rfl | rfl <;> rfl
              obtain ⟨vd, hvd⟩ : ∃ vd, (if c = 0 then v1 else v2) = vd := ⟨_, rfl⟩
              rw [hvd] at crow
              have svd : IsSl vd := by rw [← hvd]; split; exact sv1; exact sv2
              obtain ⟨gc, hgc⟩ : ∃ gc, gc = (if c = 0 then 0 else x.natAbs) := ⟨_, rfl⟩
              have hgn : gc < n := by rw [hgc]; split; omega; rw [HG.out]; exact xn
              have hvI : Ints Wy vd (iz (S.getD gc [])) := by
                rw [← hvd, hgc]
                rcases (by omega : c = 0 ∨ c = 1) with rfl | rfl
                · rw [if_pos rfl, if_pos rfl, HONE.out]; exact hBJ.one
                · rw [if_neg (by decide), if_neg (by decide), HG.out, HH.out.cup g g1 xn]; exact hBJ.cup
              have HVI := Lib.hid hvI; have HGC := Lib.hid hgc
              obtain ⟨hpt, hro⟩ := HH.out.put i gc hi hgn
              have hjN := HH.out.lt i gc hi hgn
              have hl1 := HH.out.gl i gc hi hgn
              obtain ⟨ex, hex⟩ : ∃ ex, exJ x c = ex := ⟨_, rfl⟩
              have hex1 := exJ_or x c
              rw [hex] at hex1
              obtain ⟨J, hJ⟩ : ∃ J, (PT P i gc).1 = J := ⟨_, rfl⟩
              obtain ⟨l, hl⟩ : ∃ l, (PT P i gc).2 = l := ⟨_, rfl⟩
              rw [hJ] at hpt hjN
              rw [hl] at hpt hl1
              have HPT := Lib.hid hpt; have HRO := Lib.hid hro; have HEX := Lib.hid hex; have HJJ := Lib.hid hJ; have HLL := Lib.hid hl; have HCR := Lib.hid crow
              have hct : ((c : Int) == 0) = decide (c = 0) := by
                rcases (by omega : c = 0 ∨ c = 1) with rfl | rfl <;> rfl
              have hb1 : (!(decide (c = 0) == decide (0 < x))) = decide (ex = -1) := by
                show (decide (c = 0) != decide (0 < x)) = _
                rw [← hex]; unfold exJ; split
                · rename_i h; rw [h]; rfl
                · rename_i h; simp only [Bool.not_eq_true] at h; rw [h]; rfl
              have HCT := Lib.hid hct; have HB1 := Lib.hid hb1
              clear hvd hgc hvI hpt hro hex hJ hl hBJ hMP hJA hBE
              have hgN : gc < N := Nat.lt_of_lt_of_le hgn HH.out.gN
              have HPUT := Lib.hid (fun (W : World) va vb (h1' : Ints W va (iz (S.getD i []))) (h2' : Ints W vb (iz (S.getD gc []))) => put_calls n _ _ va vb W h1' h2' h1 h6 (HLEN.out i hi).1 (HLEN.out gc hgN).1 (HLEN.out i hi).2 (HLEN.out gc hgN).2 _ _ HPT.out HRO.out)
              obtain ⟨kJ, hkJ⟩ : ∃ kv, keyV (S.getD J []) = kv := ⟨_, rfl⟩
              have HKO := Lib.hid (fun (W : World) (v : Value) (h : Ints W v (iz (S.getD J []))) => keyOf_calls (S.getD J []) v W h (by rw [(HLEN.out J hjN).1]; omega))
              rw [hkJ] at HKO
              have HKJ := Lib.hid hkJ
              have hDl : D.length = N2 := by rw [← HDD.out, (HLEN.out i hi).1, HN2.out]
              have HDL := Lib.hid hDl
              have hq3 := pow3_le hk12
              have FQ := Lib.hid (show PFit (q i) ∧ n1 (q i).c ≤ 531441 from ⟨pfit_trim (HJ.out.tr i hi) (HJ.out.wi i hi) (by omega) (by omega), Nat.le_trans (HJ.out.n1_le hi) hq3⟩)
              have FE := Lib.hid (show PFit (pterm 1 ex) ∧ n1 (pterm 1 ex).c ≤ 1 from ⟨pfit_trim (pterm_trimmed _ _) (within_pterm 1 ex) (by omega) (by omega), n1_pterm 1 ex⟩)
              have FL := Lib.hid (powP_fit l (by omega))
              have FLE := Lib.hid (show n1 (pterm 1 ex).c * n1 (powP l).c ≤ 4000000000000000000 by have := Nat.mul_le_mul FE.out.2 FL.out.2; omega)
              obtain ⟨wt, hwt⟩ : ∃ wt, pmul (pterm 1 ex) (powP l) = wt := ⟨_, rfl⟩
              have hwt2 : wtP x c l = wt := by unfold wtP; rw [HEX.out]; exact hwt
              have FW := Lib.hid (show PFit wt ∧ n1 wt.c ≤ 2 by
                rw [← hwt2]
                exact ⟨pfit_trim (by unfold wtP; exact pmul_trimmed _ _) (within_wtP x c l hl1) (by omega) (by omega), Nat.le_trans (n1_wtP x c l) (by calc 2 ^ l ≤ 2 ^ 1 := Nat.pow_le_pow_right (by decide) hl1
                                                                                                                                         _ = 2 := rfl)⟩)
              have FQW := Lib.hid (show n1 (q i).c * n1 wt.c ≤ 1062882 by have := Nat.mul_le_mul FQ.out.2 FW.out.2; omega)
              have FX := Lib.hid (show PFit (pmul (q i) wt) ∧ n1 (pmul (q i) wt).c ≤ 1062882 from ⟨pfit_trim (pmul_trimmed _ _) (within_pmul (HJ.out.wi i hi) (by rw [← hwt2]; exact within_wtP x c l hl1)) (by omega) (by omega), Nat.le_trans (n1_pmul _ _) FQW.out⟩)
              have FP := Lib.hid (show PFit (p' J) ∧ n1 (p' J).c ≤ 4000000 from ⟨pfit_trim (HJA.out.tr J hjN) (HJA.out.wi J hjN) (by omega) (by omega), Nat.le_trans (HJA.out.n1_le hjN) (by
                have h1 := massJ_le N q d
                have h2 := HJ.out.sum
                have h3 := HT0.out
                have h4 : a ≤ 531441 := by rw [HA.out]; exact FQ.out.2
                have h5 : choM a c ≤ 3 * a := by unfold choM; split; omega; split <;> omega
                omega)⟩)
              have HWT := Lib.hid hwt; have HWT2 := Lib.hid hwt2
              have ssx : IsSl (.slice (some ⟨K9, 0, none⟩) N2 12) := isSl_mk _ _ _ _ hN12 (by decide)
              have HKE := Lib.hid (fun (W : World) (h : W.heap[K9]? = some (.cells (keyC D) 157 (0, 0))) => ints_key h HDL.out hN12)
              have hKz' := hKz
              clear hkJ hDl hwt hwt2 hq3
              rcases hex1 with rfl | rfl
              · have hct0 := HCT.out; have hb10 := HB1.out; have crow0 := HCR.out; have hi2 := HI2.out; have hn12' : (N2 : Int) ≤ 12 := by omega
                go_wp2_with fail
                refine (HPUT.out _ _ _ (by rw [HDD.out]; exact HKE.out _ HBJ.out.key) HVI.out).mono ?_
                rintro e u3 ⟨ue, rfl, hue, hb⟩
                have sue := hue.isSl
                have EI := Lib.hid hue.ints
                replace HBJ := Lib.hid (HBJ.out.below hb); replace MP := Lib.hid (MP.out.below hb); replace BEL := Lib.hid (Below.chain BEL.out hb)
                have hzz3 := hb.size
                clear hue hb hct0 hb10 crow0 hi2
                go_wp2_with fail
                refine (term_calls 1 _ _ (by omega) (by omega)).mono ?_
                rintro e u4 ⟨t4, rfl, ht4, hb⟩
                have st4 := ht4.isSl
                have TI := Lib.hid ht4.ints
                replace HBJ := Lib.hid (HBJ.out.below hb); replace MP := Lib.hid (MP.out.below hb); replace BEL := Lib.hid (Below.chain BEL.out hb); replace EI := Lib.hid (EI.out.below hb)
                have hzz4 := hb.size
                clear ht4 hb
                go_wp2_with fail
                refine (power_calls l (by omega) _).mono ?_
                rintro e u5 ⟨t5, rfl, ht5, hb⟩
                have st5 := ht5.isSl
                have PI := Lib.hid ht5.ints
                replace HBJ := Lib.hid (HBJ.out.below hb); replace MP := Lib.hid (MP.out.below hb); replace BEL := Lib.hid (Below.chain BEL.out hb); replace EI := Lib.hid (EI.out.below hb); replace TI := Lib.hid (TI.out.below hb)
                have hzz5 := hb.size
                clear ht5 hb
                go_wp2_with fail
                refine (ltimes_calls _ (powP l) t4 t5 _ TI.out PI.out FE.out.1.1 FL.out.1.1 FE.out.1.2 FL.out.1.2 FLE.out).mono ?_
                rw [HWT.out]
                rintro e u6 ⟨t6, rfl, ht6, hb⟩
                have st6 := ht6.isSl
                have WI0 := Lib.hid ht6.ints
                replace HBJ := Lib.hid (HBJ.out.below hb); replace MP := Lib.hid (MP.out.below hb); replace BEL := Lib.hid (Below.chain BEL.out hb); replace EI := Lib.hid (EI.out.below hb)
                have hzz6 := hb.size
                clear ht6 hb TI PI
                go_wp2_with (refine wpList_store_row rfl _ _ _ rfl u6.heap.size #[.int .i64 wt.low, t6] rfl rfl _ _ (heap_alloc_new _ _) (by kernel_rfl) rfl (by simp [oneCell'_sl, st6]; rfl) ?_)
                simp only [Act.put]
                generalize hW7 : World.setRow _ _ _ = W7
                obtain ⟨K16, hK16⟩ : ∃ K, u6.heap.size = K := ⟨_, rfl⟩
                have p7 : Pair W7 u6.heap.size 40 (.int .i64 wt.low) t6 := by rw [← hW7]; exact setRow_heap _ _ _ _ _ _ (heap_alloc_new _ _)
                have b7 : Below u6.heap.size u6 W7 := by rw [← hW7]; exact below_setRow ((Below.refl _ _).alloc (Nat.le_refl _) _) (Nat.le_refl _) _
                have WT := p7; have BF := HBJ.out.below b7; have MQ := MP.out.below b7; have EJ := EI.out.below b7; have WI := WI0.out.below b7; have BEL7 := Lib.hid (Below.chain BEL.out b7)
                have hz7 : KR < W7.heap.size := by have := b7.size; omega
                rw [hK16] at WT
                rw [hK16]
                clear hW7 p7 b7 HBJ MP EI WI0 BEL hK16 hzz3 hzz4 hzz5 hzz6
                refine wp_region_held_drew (S := fun W => W.cell? ⟨K9 + 1, 0, none⟩ = some (.int .i64 (q i).low) ∧ W.cell? ⟨K9 + 1, 1, none⟩ = some s ∧ W.cell? ⟨K16, 0, none⟩ = some (.int .i64 wt.low) ∧ W.cell? ⟨K16, 1, none⟩ = some t6) (by kernel_rfl) (⟨BF.p.cell0, BF.p.cell1, WT.cell0, WT.cell1⟩) (fun hHeld => ?_)
                have BEL : Below (World.heap W7).size W7 (World.drew W7) := (Below.refl _ _).drew
                have BF := BF.below BEL
                have MQ := MQ.below BEL
                have EJ := EJ.below BEL
                have WT := WT.below BEL
                have WI := WI.below BEL
                obtain ⟨y0, hy0⟩ : ∃ y0, y0 = World.drew W7 := ⟨_, rfl⟩
                rw [← hy0] at BEL BF MQ EJ WT WI ⊢
                (try rw [← hy0] at hHeld)
                clear hy0
                refine' wpAnyH_take (i := 0) (oi := ?oiz1) (v := ?vz1) ?haz1 (by kernel_rfl) ?hfz1 ?hrz1 ?hQz1 (Or.inl ⟨?hwz1, ?hyz1⟩) (by assumption) ?restz1
                case haz1 => (simp only [List.getElem?_toArray, List.getElem?_cons_zero]; exact rfl)
                case hQz1 => exact fun _ _ _ h => h
                case hfz1 => kernel_rfl
                case hrz1 => kernel_rfl
                case hwz1 => rfl
                case hyz1 => (intro w hSw; (try dsimp only at hSw); obtain ⟨e1, e2, e3, e4⟩ := hSw; go_simp; (try with_reducible rfl))
                try simp only [Act.put, List.setIfInBounds_toArray, List.set_cons_zero, List.set_cons_succ]
                refine' wpAnyH_take (i := 1) (oi := ?oiz2) (v := ?vz2) ?haz2 (by kernel_rfl) ?hfz2 ?hrz2 ?hQz2 (Or.inl ⟨?hwz2, ?hyz2⟩) (by assumption) ?restz2
                case haz2 => (simp only [List.getElem?_toArray, List.getElem?_cons_succ, List.getElem?_cons_zero]; exact rfl)
                case hQz2 => exact fun _ _ _ h => h
                case hfz2 => kernel_rfl
                case hrz2 => kernel_rfl
                case hwz2 => rfl
                case hyz2 => (intro w hSw; (try dsimp only at hSw); obtain ⟨e1, e2, e3, e4⟩ := hSw; go_simp; (try with_reducible rfl))
                try simp only [Act.put, List.setIfInBounds_toArray, List.set_cons_zero, List.set_cons_succ]
                refine' wpAnyH_take (i := 3) (oi := ?oiz3) (v := ?vz3) ?haz3 (by kernel_rfl) ?hfz3 ?hrz3 ?hQz3 (Or.inl ⟨?hwz3, ?hyz3⟩) (by assumption) ?restz3
                case haz3 => (simp only [List.getElem?_toArray, List.getElem?_cons_succ, List.getElem?_cons_zero]; exact rfl)
                case hQz3 => exact fun _ _ _ h => h
                case hfz3 => kernel_rfl
                case hrz3 => kernel_rfl
                case hwz3 => rfl
                case hyz3 => (intro w hSw; (try dsimp only at hSw); obtain ⟨e1, e2, e3, e4⟩ := hSw; go_simp; (try with_reducible rfl))
                try simp only [Act.put, List.setIfInBounds_toArray, List.set_cons_zero, List.set_cons_succ]
                refine' wpAnyH_take (i := 4) (oi := ?oiz4) (v := ?vz4) ?haz4 (by kernel_rfl) ?hfz4 ?hrz4 ?hQz4 (Or.inl ⟨?hwz4, ?hyz4⟩) (by assumption) ?restz4
                case haz4 => (simp only [List.getElem?_toArray, List.getElem?_cons_succ, List.getElem?_cons_zero]; exact rfl)
                case hQz4 => exact fun _ _ _ h => h
                case hfz4 => kernel_rfl
                case hrz4 => kernel_rfl
                case hwz4 => rfl
                case hyz4 => (intro w hSw; (try dsimp only at hSw); obtain ⟨e1, e2, e3, e4⟩ := hSw; go_simp; (try with_reducible rfl))
                try simp only [Act.put, List.setIfInBounds_toArray, List.set_cons_zero, List.set_cons_succ]
                refine' wpAnyH_take (i := 7) (oi := ?oiz5) (v := ?vz5) ?haz5 (by kernel_rfl) ?hfz5 ?hrz5 ?hQz5 (Or.inl ⟨?hwz5, ?hyz5⟩) (by assumption) ?restz5
                case haz5 => (simp only [List.getElem?_toArray, List.getElem?_cons_succ, List.getElem?_cons_zero]; exact rfl)
                case hQz5 => exact fun _ _ _ h => h
                case hfz5 => kernel_rfl
                case hrz5 => kernel_rfl
                case hwz5 => rfl
                case hyz5 => (intro w hSw; (try dsimp only at hSw); obtain ⟨e1, e2, e3, e4⟩ := hSw; go_simp; (try with_reducible rfl))
                try simp only [Act.put, List.setIfInBounds_toArray, List.set_cons_zero, List.set_cons_succ]
                refine' wpAnyH_take (i := 8) (oi := ?oiz6) (v := ?vz6) ?haz6 (by kernel_rfl) ?hfz6 ?hrz6 ?hQz6 (Or.inl ⟨?hwz6, ?hyz6⟩) (by assumption) ?restz6
                case haz6 => (simp only [List.getElem?_toArray, List.getElem?_cons_succ, List.getElem?_cons_zero]; exact rfl)
                case hQz6 => exact fun _ _ _ h => h
                case hfz6 => kernel_rfl
                case hrz6 => kernel_rfl
                case hwz6 => rfl
                case hyz6 => (intro w hSw; (try dsimp only at hSw); obtain ⟨e1, e2, e3, e4⟩ := hSw; go_simp; (try with_reducible rfl))
                try simp only [Act.put, List.setIfInBounds_toArray, List.set_cons_zero, List.set_cons_succ]
                refine wpAnyH_ready (rs := [2]) (by kernel_rfl) (by simp) ?_
                refine' AllReadyH.cons (o := ?oiz16) ?haz16 (fun K hK => ?stepz16) AllReadyH.nil
                case haz16 => (simp only [List.getElem?_toArray, List.getElem?_cons_succ, List.getElem?_cons_zero]; exact rfl)
                go_simp
                go_at_call 141
                refine (HKO.out y0 ue EJ).mono ?_
                rintro e y1 ⟨rfl, sb⟩
                replace BF := BF.below sb
                replace MQ := MQ.below sb
                replace EJ := EJ.below sb
                replace WT := WT.below sb
                replace WI := WI.below sb
                replace BEL := Below.chain BEL sb
                clear sb
                refine hK.out _ _ (⟨BF.p.cell0, BF.p.cell1, WT.cell0, WT.cell1⟩) (fun hHeld => ?_)
                clear hK K
                try simp only [Act.put, List.setIfInBounds_toArray, List.set_cons_zero, List.set_cons_succ]
                refine wpAnyH_ready (rs := [5]) (by kernel_rfl) (by simp) ?_
                refine' AllReadyH.cons (o := ?oiz15) ?haz15 (fun K hK => ?stepz15) AllReadyH.nil
                case haz15 => (simp only [List.getElem?_toArray, List.getElem?_cons_succ, List.getElem?_cons_zero]; exact rfl)
                go_simp
                go_at_call 141
                refine (HKO.out y1 ue EJ).mono ?_
                rintro e y2 ⟨rfl, sb⟩
                replace BF := BF.below sb
                replace MQ := MQ.below sb
                replace EJ := EJ.below sb
                replace WT := WT.below sb
                replace WI := WI.below sb
                replace BEL := Below.chain BEL sb
                clear sb
                refine hK.out _ _ (⟨BF.p.cell0, BF.p.cell1, WT.cell0, WT.cell1⟩) (fun hHeld => ?_)
                clear hK K
                try simp only [Act.put, List.setIfInBounds_toArray, List.set_cons_zero, List.set_cons_succ]
                refine wpAnyH_ready (rs := [6, 9]) (by kernel_rfl) (by simp) ?_
                refine' AllReadyH.cons (o := ?oiz13) ?haz13 (fun K hK => ?stepz13) (AllReadyH.cons (o := ?oiz14) ?haz14 (fun K hK => ?stepz14) AllReadyH.nil)
                case haz13 => (simp only [List.getElem?_toArray, List.getElem?_cons_succ, List.getElem?_cons_zero]; exact rfl)
                case haz14 => (simp only [List.getElem?_toArray, List.getElem?_cons_succ, List.getElem?_cons_zero]; exact rfl)
                case stepz13 =>
                  obtain ⟨sl, hlk, hsl⟩ := MQ.look HK.out hjN
                  rw [HKJ.out] at hlk
                  have ssl := hsl.isSl
                  go_simp

                  clear hlk
                  refine hK.out _ _ (⟨BF.p.cell0, BF.p.cell1, WT.cell0, WT.cell1⟩) (fun hHeld => ?_)
                  clear hK K
                  try simp only [Act.put, List.setIfInBounds_toArray, List.set_cons_zero, List.set_cons_succ]
                  refine wpAnyH_ready (rs := [9]) (by kernel_rfl) (by simp) ?_
                  refine' AllReadyH.cons (o := ?oiz9) ?haz9 (fun K hK => ?stepz9) AllReadyH.nil
                  case haz9 => (simp only [List.getElem?_toArray, List.getElem?_cons_succ, List.getElem?_cons_zero]; exact rfl)
                  go_simp
                  go_at_call 70
                  refine (ltimes_calls (q i) wt s t6 y2 BF.ps WI FQ.out.1.1 FW.out.1.1 FQ.out.1.2 FW.out.1.2 (Nat.le_trans FQW.out (by omega))).mono ?_
                  rintro e y3 ⟨v9, rfl, h9, sb⟩
                  have s9 := h9.isSl
                  have T9 := h9.ints
                  clear h9
                  replace BF := BF.below sb
                  replace MQ := MQ.below sb
                  replace EJ := EJ.below sb
                  replace WT := WT.below sb
                  replace WI := WI.below sb
                  replace hsl := hsl.below sb
                  replace BEL := Below.chain BEL sb
                  clear sb
                  refine hK.out _ _ (⟨BF.p.cell0, BF.p.cell1, WT.cell0, WT.cell1⟩) (fun hHeld => ?_)
                  clear hK K
                  try simp only [Act.put, List.setIfInBounds_toArray, List.set_cons_zero, List.set_cons_succ]
                  refine wpAnyH_ready (rs := [10]) (by kernel_rfl) (by simp) ?_
                  refine' AllReadyH.cons (o := ?oiz8) ?haz8 (fun K hK => ?stepz8) AllReadyH.nil
                  case haz8 => (simp only [List.getElem?_toArray, List.getElem?_cons_succ, List.getElem?_cons_zero]; exact rfl)
                  go_simp
                  go_at_call 77
                  refine (plus_calls (p' J) (pmul (q i) wt) 1 sl v9 y3 hsl T9 FP.out.1.1 FX.out.1.1 FP.out.1.2 FX.out.1.2 (by omega) (by have := FP.out.2; have := FX.out.2; omega)).mono ?_
                  rintro e y4 ⟨v10, rfl, h10, sb⟩
                  have s10 := h10.isSl
                  have T10 : PolyV y4 (.agg #[.int .i64 (padd (p' J) (pmul (q i) wt) 1).low, v10]) (padd (p' J) (pmul (q i) wt) 1) := ⟨_, rfl, h10.ints⟩
                  clear h10
                  clear hsl T9
                  replace BF := BF.below sb
                  replace MQ := MQ.below sb
                  replace EJ := EJ.below sb
                  replace WT := WT.below sb
                  replace WI := WI.below sb
                  replace BEL := Below.chain BEL sb
                  clear sb
                  refine hK.out _ _ (⟨BF.p.cell0, BF.p.cell1, WT.cell0, WT.cell1⟩) (fun hHeld => ?_)
                  clear hK K
                  try simp only [Act.put, List.setIfInBounds_toArray, List.set_cons_zero, List.set_cons_succ]
                  refine wpAnyH_ready (rs := [11]) (by kernel_rfl) (by simp) ?_
                  refine' AllReadyH.cons (o := ?oiz7) ?haz7 (fun K hK => ?stepz7) AllReadyH.nil
                  case haz7 => (simp only [List.getElem?_toArray, List.getElem?_cons_succ, List.getElem?_cons_zero]; exact rfl)

                  rw [if_pos (by rfl)]
                  refine step_storeE (.tmp 72) (.tmp 74) (.tmp 82) rfl HK.out C rfl MQ J hjN kJ rfl HKJ.out _ rfl _ T10 ?_
                  intro y9 hM9 hg9 hz9
                  have B9 := BF.grown hg9 MQ.isMap bC
                  have WT9 := WT.grown_map hg9 MQ.isMap
                  refine hK.out _ _ (⟨B9.p.cell0, B9.p.cell1, WT9.cell0, WT9.cell1⟩) (fun hHeld => ?_)
                  clear hK K
                  try simp only [Act.put]
                  refine wpAnyH_done (by kernel_rfl) ?_ _
                  go_wp2_with fail
                  have JN := ja_two HH.out HGC.out hc hi (by rw [HG.out]; exact xn) HJ.out HA.out HJA.out
                  rw [HJJ.out, HLL.out, HWT2.out] at JN
                  have BZ9 := (BEL7.out.trans (BEL.mono BEL7.out.size)).grown hg9 (Nat.le_trans BEL7.out.size BEL.size) (fun b hb => by cases hb; omega)
                  go_roundw
                  case rel => exact ⟨c + 1, _, by omega, by go_num, B9, hM9, JN, BZ9, by have := BEL.size; omega⟩
                  case measure => simp [intOf]; omega
                case stepz14 =>
                  go_simp
                  go_at_call 70
                  refine (ltimes_calls (q i) wt s t6 y2 BF.ps WI FQ.out.1.1 FW.out.1.1 FQ.out.1.2 FW.out.1.2 (Nat.le_trans FQW.out (by omega))).mono ?_
                  rintro e y6 ⟨v9, rfl, h9, sb⟩
                  have s9 := h9.isSl
                  have T9 := h9.ints
                  clear h9
                  replace BF := BF.below sb
                  replace MQ := MQ.below sb
                  replace EJ := EJ.below sb
                  replace WT := WT.below sb
                  replace WI := WI.below sb
                  replace BEL := Below.chain BEL sb
                  clear sb
                  refine hK.out _ _ (⟨BF.p.cell0, BF.p.cell1, WT.cell0, WT.cell1⟩) (fun hHeld => ?_)
                  clear hK K
                  try simp only [Act.put, List.setIfInBounds_toArray, List.set_cons_zero, List.set_cons_succ]
                  refine wpAnyH_ready (rs := [6]) (by kernel_rfl) (by simp) ?_
                  refine' AllReadyH.cons (o := ?oiz12) ?haz12 (fun K hK => ?stepz12) AllReadyH.nil
                  case haz12 => (simp only [List.getElem?_toArray, List.getElem?_cons_succ, List.getElem?_cons_zero]; exact rfl)
                  obtain ⟨sl, hlk, hsl⟩ := MQ.look HK.out hjN
                  rw [HKJ.out] at hlk
                  have ssl := hsl.isSl
                  go_simp

                  clear hlk
                  refine hK.out _ _ (⟨BF.p.cell0, BF.p.cell1, WT.cell0, WT.cell1⟩) (fun hHeld => ?_)
                  clear hK K
                  try simp only [Act.put, List.setIfInBounds_toArray, List.set_cons_zero, List.set_cons_succ]
                  refine wpAnyH_ready (rs := [10]) (by kernel_rfl) (by simp) ?_
                  refine' AllReadyH.cons (o := ?oiz11) ?haz11 (fun K hK => ?stepz11) AllReadyH.nil
                  case haz11 => (simp only [List.getElem?_toArray, List.getElem?_cons_succ, List.getElem?_cons_zero]; exact rfl)
                  go_simp
                  go_at_call 77
                  refine (plus_calls (p' J) (pmul (q i) wt) 1 sl v9 y6 hsl T9 FP.out.1.1 FX.out.1.1 FP.out.1.2 FX.out.1.2 (by omega) (by have := FP.out.2; have := FX.out.2; omega)).mono ?_
                  rintro e y7 ⟨v10, rfl, h10, sb⟩
                  have s10 := h10.isSl
                  have T10 : PolyV y7 (.agg #[.int .i64 (padd (p' J) (pmul (q i) wt) 1).low, v10]) (padd (p' J) (pmul (q i) wt) 1) := ⟨_, rfl, h10.ints⟩
                  clear h10
                  clear T9 hsl
                  replace BF := BF.below sb
                  replace MQ := MQ.below sb
                  replace EJ := EJ.below sb
                  replace WT := WT.below sb
                  replace WI := WI.below sb
                  replace BEL := Below.chain BEL sb
                  clear sb
                  refine hK.out _ _ (⟨BF.p.cell0, BF.p.cell1, WT.cell0, WT.cell1⟩) (fun hHeld => ?_)
                  clear hK K
                  try simp only [Act.put, List.setIfInBounds_toArray, List.set_cons_zero, List.set_cons_succ]
                  refine wpAnyH_ready (rs := [11]) (by kernel_rfl) (by simp) ?_
                  refine' AllReadyH.cons (o := ?oiz10) ?haz10 (fun K hK => ?stepz10) AllReadyH.nil
                  case haz10 => (simp only [List.getElem?_toArray, List.getElem?_cons_succ, List.getElem?_cons_zero]; exact rfl)

                  rw [if_pos (by rfl)]
                  refine step_storeE (.tmp 72) (.tmp 74) (.tmp 82) rfl HK.out C rfl MQ J hjN kJ rfl HKJ.out _ rfl _ T10 ?_
                  intro y9 hM9 hg9 hz9
                  have B9 := BF.grown hg9 MQ.isMap bC
                  have WT9 := WT.grown_map hg9 MQ.isMap
                  refine hK.out _ _ (⟨B9.p.cell0, B9.p.cell1, WT9.cell0, WT9.cell1⟩) (fun hHeld => ?_)
                  clear hK K
                  try simp only [Act.put]
                  refine wpAnyH_done (by kernel_rfl) ?_ _
                  go_wp2_with fail
                  have JN := ja_two HH.out HGC.out hc hi (by rw [HG.out]; exact xn) HJ.out HA.out HJA.out
                  rw [HJJ.out, HLL.out, HWT2.out] at JN
                  have BZ9 := (BEL7.out.trans (BEL.mono BEL7.out.size)).grown hg9 (Nat.le_trans BEL7.out.size BEL.size) (fun b hb => by cases hb; omega)
                  go_roundw
                  case rel => exact ⟨c + 1, _, by omega, by go_num, B9, hM9, JN, BZ9, by have := BEL.size; omega⟩
                  case measure => simp [intOf]; omega
              · have hct0 := HCT.out; have hb10 := HB1.out; have crow0 := HCR.out; have hi2 := HI2.out; have hn12' : (N2 : Int) ≤ 12 := by omega
                go_wp2_with fail
                refine (HPUT.out _ _ _ (by rw [HDD.out]; exact HKE.out _ HBJ.out.key) HVI.out).mono ?_
                rintro e u3 ⟨ue, rfl, hue, hb⟩
                have sue := hue.isSl
                have EI := Lib.hid hue.ints
                replace HBJ := Lib.hid (HBJ.out.below hb); replace MP := Lib.hid (MP.out.below hb); replace BEL := Lib.hid (Below.chain BEL.out hb)
                have hzz3 := hb.size
                clear hue hb hct0 hb10 crow0 hi2
                go_wp2_with fail
                refine (term_calls 1 _ _ (by omega) (by omega)).mono ?_
                rintro e u4 ⟨t4, rfl, ht4, hb⟩
                have st4 := ht4.isSl
                have TI := Lib.hid ht4.ints
                replace HBJ := Lib.hid (HBJ.out.below hb); replace MP := Lib.hid (MP.out.below hb); replace BEL := Lib.hid (Below.chain BEL.out hb); replace EI := Lib.hid (EI.out.below hb)
                have hzz4 := hb.size
                clear ht4 hb
                go_wp2_with fail
                refine (power_calls l (by omega) _).mono ?_
                rintro e u5 ⟨t5, rfl, ht5, hb⟩
                have st5 := ht5.isSl
                have PI := Lib.hid ht5.ints
                replace HBJ := Lib.hid (HBJ.out.below hb); replace MP := Lib.hid (MP.out.below hb); replace BEL := Lib.hid (Below.chain BEL.out hb); replace EI := Lib.hid (EI.out.below hb); replace TI := Lib.hid (TI.out.below hb)
                have hzz5 := hb.size
                clear ht5 hb
                go_wp2_with fail
                refine (ltimes_calls _ (powP l) t4 t5 _ TI.out PI.out FE.out.1.1 FL.out.1.1 FE.out.1.2 FL.out.1.2 FLE.out).mono ?_
                rw [HWT.out]
                rintro e u6 ⟨t6, rfl, ht6, hb⟩
                have st6 := ht6.isSl
                have WI0 := Lib.hid ht6.ints
                replace HBJ := Lib.hid (HBJ.out.below hb); replace MP := Lib.hid (MP.out.below hb); replace BEL := Lib.hid (Below.chain BEL.out hb); replace EI := Lib.hid (EI.out.below hb)
                have hzz6 := hb.size
                clear ht6 hb TI PI
                go_wp2_with (refine wpList_store_row rfl _ _ _ rfl u6.heap.size #[.int .i64 wt.low, t6] rfl rfl _ _ (heap_alloc_new _ _) (by kernel_rfl) rfl (by simp [oneCell'_sl, st6]; rfl) ?_)
                simp only [Act.put]
                generalize hW7 : World.setRow _ _ _ = W7
                obtain ⟨K16, hK16⟩ : ∃ K, u6.heap.size = K := ⟨_, rfl⟩
                have p7 : Pair W7 u6.heap.size 40 (.int .i64 wt.low) t6 := by rw [← hW7]; exact setRow_heap _ _ _ _ _ _ (heap_alloc_new _ _)
                have b7 : Below u6.heap.size u6 W7 := by rw [← hW7]; exact below_setRow ((Below.refl _ _).alloc (Nat.le_refl _) _) (Nat.le_refl _) _
                have WT := p7; have BF := HBJ.out.below b7; have MQ := MP.out.below b7; have EJ := EI.out.below b7; have WI := WI0.out.below b7; have BEL7 := Lib.hid (Below.chain BEL.out b7)
                have hz7 : KR < W7.heap.size := by have := b7.size; omega
                rw [hK16] at WT
                rw [hK16]
                clear hW7 p7 b7 HBJ MP EI WI0 BEL hK16 hzz3 hzz4 hzz5 hzz6
                refine wp_region_held_drew (S := fun W => W.cell? ⟨K9 + 1, 0, none⟩ = some (.int .i64 (q i).low) ∧ W.cell? ⟨K9 + 1, 1, none⟩ = some s ∧ W.cell? ⟨K16, 0, none⟩ = some (.int .i64 wt.low) ∧ W.cell? ⟨K16, 1, none⟩ = some t6) (by kernel_rfl) (⟨BF.p.cell0, BF.p.cell1, WT.cell0, WT.cell1⟩) (fun hHeld => ?_)
                have BEL : Below (World.heap W7).size W7 (World.drew W7) := (Below.refl _ _).drew
                have BF := BF.below BEL
                have MQ := MQ.below BEL
                have EJ := EJ.below BEL
                have WT := WT.below BEL
                have WI := WI.below BEL
                obtain ⟨y0, hy0⟩ : ∃ y0, y0 = World.drew W7 := ⟨_, rfl⟩
                rw [← hy0] at BEL BF MQ EJ WT WI ⊢
                (try rw [← hy0] at hHeld)
                clear hy0
                refine' wpAnyH_take (i := 0) (oi := ?oiz17) (v := ?vz17) ?haz17 (by kernel_rfl) ?hfz17 ?hrz17 ?hQz17 (Or.inl ⟨?hwz17, ?hyz17⟩) (by assumption) ?restz17
                case haz17 => (simp only [List.getElem?_toArray, List.getElem?_cons_zero]; exact rfl)
                case hQz17 => exact fun _ _ _ h => h
                case hfz17 => kernel_rfl
                case hrz17 => kernel_rfl
                case hwz17 => rfl
                case hyz17 => (intro w hSw; (try dsimp only at hSw); obtain ⟨e1, e2, e3, e4⟩ := hSw; go_simp; (try with_reducible rfl))
                try simp only [Act.put, List.setIfInBounds_toArray, List.set_cons_zero, List.set_cons_succ]
                refine' wpAnyH_take (i := 1) (oi := ?oiz18) (v := ?vz18) ?haz18 (by kernel_rfl) ?hfz18 ?hrz18 ?hQz18 (Or.inl ⟨?hwz18, ?hyz18⟩) (by assumption) ?restz18
                case haz18 => (simp only [List.getElem?_toArray, List.getElem?_cons_succ, List.getElem?_cons_zero]; exact rfl)
                case hQz18 => exact fun _ _ _ h => h
                case hfz18 => kernel_rfl
                case hrz18 => kernel_rfl
                case hwz18 => rfl
                case hyz18 => (intro w hSw; (try dsimp only at hSw); obtain ⟨e1, e2, e3, e4⟩ := hSw; go_simp; (try with_reducible rfl))
                try simp only [Act.put, List.setIfInBounds_toArray, List.set_cons_zero, List.set_cons_succ]
                refine' wpAnyH_take (i := 3) (oi := ?oiz19) (v := ?vz19) ?haz19 (by kernel_rfl) ?hfz19 ?hrz19 ?hQz19 (Or.inl ⟨?hwz19, ?hyz19⟩) (by assumption) ?restz19
                case haz19 => (simp only [List.getElem?_toArray, List.getElem?_cons_succ, List.getElem?_cons_zero]; exact rfl)
                case hQz19 => exact fun _ _ _ h => h
                case hfz19 => kernel_rfl
                case hrz19 => kernel_rfl
                case hwz19 => rfl
                case hyz19 => (intro w hSw; (try dsimp only at hSw); obtain ⟨e1, e2, e3, e4⟩ := hSw; go_simp; (try with_reducible rfl))
                try simp only [Act.put, List.setIfInBounds_toArray, List.set_cons_zero, List.set_cons_succ]
                refine' wpAnyH_take (i := 4) (oi := ?oiz20) (v := ?vz20) ?haz20 (by kernel_rfl) ?hfz20 ?hrz20 ?hQz20 (Or.inl ⟨?hwz20, ?hyz20⟩) (by assumption) ?restz20
                case haz20 => (simp only [List.getElem?_toArray, List.getElem?_cons_succ, List.getElem?_cons_zero]; exact rfl)
                case hQz20 => exact fun _ _ _ h => h
                case hfz20 => kernel_rfl
                case hrz20 => kernel_rfl
                case hwz20 => rfl
                case hyz20 => (intro w hSw; (try dsimp only at hSw); obtain ⟨e1, e2, e3, e4⟩ := hSw; go_simp; (try with_reducible rfl))
                try simp only [Act.put, List.setIfInBounds_toArray, List.set_cons_zero, List.set_cons_succ]
                refine' wpAnyH_take (i := 7) (oi := ?oiz21) (v := ?vz21) ?haz21 (by kernel_rfl) ?hfz21 ?hrz21 ?hQz21 (Or.inl ⟨?hwz21, ?hyz21⟩) (by assumption) ?restz21
                case haz21 => (simp only [List.getElem?_toArray, List.getElem?_cons_succ, List.getElem?_cons_zero]; exact rfl)
                case hQz21 => exact fun _ _ _ h => h
                case hfz21 => kernel_rfl
                case hrz21 => kernel_rfl
                case hwz21 => rfl
                case hyz21 => (intro w hSw; (try dsimp only at hSw); obtain ⟨e1, e2, e3, e4⟩ := hSw; go_simp; (try with_reducible rfl))
                try simp only [Act.put, List.setIfInBounds_toArray, List.set_cons_zero, List.set_cons_succ]
                refine' wpAnyH_take (i := 8) (oi := ?oiz22) (v := ?vz22) ?haz22 (by kernel_rfl) ?hfz22 ?hrz22 ?hQz22 (Or.inl ⟨?hwz22, ?hyz22⟩) (by assumption) ?restz22
                case haz22 => (simp only [List.getElem?_toArray, List.getElem?_cons_succ, List.getElem?_cons_zero]; exact rfl)
                case hQz22 => exact fun _ _ _ h => h
                case hfz22 => kernel_rfl
                case hrz22 => kernel_rfl
                case hwz22 => rfl
                case hyz22 => (intro w hSw; (try dsimp only at hSw); obtain ⟨e1, e2, e3, e4⟩ := hSw; go_simp; (try with_reducible rfl))
                try simp only [Act.put, List.setIfInBounds_toArray, List.set_cons_zero, List.set_cons_succ]
                refine wpAnyH_ready (rs := [2]) (by kernel_rfl) (by simp) ?_
                refine' AllReadyH.cons (o := ?oiz32) ?haz32 (fun K hK => ?stepz32) AllReadyH.nil
                case haz32 => (simp only [List.getElem?_toArray, List.getElem?_cons_succ, List.getElem?_cons_zero]; exact rfl)
                go_simp
                go_at_call 141
                refine (HKO.out y0 ue EJ).mono ?_
                rintro e y9 ⟨rfl, sb⟩
                replace BF := BF.below sb
                replace MQ := MQ.below sb
                replace EJ := EJ.below sb
                replace WT := WT.below sb
                replace WI := WI.below sb
                replace BEL := Below.chain BEL sb
                clear sb
                refine hK.out _ _ (⟨BF.p.cell0, BF.p.cell1, WT.cell0, WT.cell1⟩) (fun hHeld => ?_)
                clear hK K
                try simp only [Act.put, List.setIfInBounds_toArray, List.set_cons_zero, List.set_cons_succ]
                refine wpAnyH_ready (rs := [5]) (by kernel_rfl) (by simp) ?_
                refine' AllReadyH.cons (o := ?oiz31) ?haz31 (fun K hK => ?stepz31) AllReadyH.nil
                case haz31 => (simp only [List.getElem?_toArray, List.getElem?_cons_succ, List.getElem?_cons_zero]; exact rfl)
                go_simp
                go_at_call 141
                refine (HKO.out y9 ue EJ).mono ?_
                rintro e y10 ⟨rfl, sb⟩
                replace BF := BF.below sb
                replace MQ := MQ.below sb
                replace EJ := EJ.below sb
                replace WT := WT.below sb
                replace WI := WI.below sb
                replace BEL := Below.chain BEL sb
                clear sb
                refine hK.out _ _ (⟨BF.p.cell0, BF.p.cell1, WT.cell0, WT.cell1⟩) (fun hHeld => ?_)
                clear hK K
                try simp only [Act.put, List.setIfInBounds_toArray, List.set_cons_zero, List.set_cons_succ]
                refine wpAnyH_ready (rs := [6, 9]) (by kernel_rfl) (by simp) ?_
                refine' AllReadyH.cons (o := ?oiz29) ?haz29 (fun K hK => ?stepz29) (AllReadyH.cons (o := ?oiz30) ?haz30 (fun K hK => ?stepz30) AllReadyH.nil)
                case haz29 => (simp only [List.getElem?_toArray, List.getElem?_cons_succ, List.getElem?_cons_zero]; exact rfl)
                case haz30 => (simp only [List.getElem?_toArray, List.getElem?_cons_succ, List.getElem?_cons_zero]; exact rfl)
                case stepz29 =>
                  obtain ⟨sl, hlk, hsl⟩ := MQ.look HK.out hjN
                  rw [HKJ.out] at hlk
                  have ssl := hsl.isSl
                  go_simp

                  clear hlk
                  refine hK.out _ _ (⟨BF.p.cell0, BF.p.cell1, WT.cell0, WT.cell1⟩) (fun hHeld => ?_)
                  clear hK K
                  try simp only [Act.put, List.setIfInBounds_toArray, List.set_cons_zero, List.set_cons_succ]
                  refine wpAnyH_ready (rs := [9]) (by kernel_rfl) (by simp) ?_
                  refine' AllReadyH.cons (o := ?oiz25) ?haz25 (fun K hK => ?stepz25) AllReadyH.nil
                  case haz25 => (simp only [List.getElem?_toArray, List.getElem?_cons_succ, List.getElem?_cons_zero]; exact rfl)
                  go_simp
                  go_at_call 70
                  refine (ltimes_calls (q i) wt s t6 y10 BF.ps WI FQ.out.1.1 FW.out.1.1 FQ.out.1.2 FW.out.1.2 (Nat.le_trans FQW.out (by omega))).mono ?_
                  rintro e y11 ⟨v9, rfl, h9, sb⟩
                  have s9 := h9.isSl
                  have T9 := h9.ints
                  clear h9
                  replace BF := BF.below sb
                  replace MQ := MQ.below sb
                  replace EJ := EJ.below sb
                  replace WT := WT.below sb
                  replace WI := WI.below sb
                  replace hsl := hsl.below sb
                  replace BEL := Below.chain BEL sb
                  clear sb
                  refine hK.out _ _ (⟨BF.p.cell0, BF.p.cell1, WT.cell0, WT.cell1⟩) (fun hHeld => ?_)
                  clear hK K
                  try simp only [Act.put, List.setIfInBounds_toArray, List.set_cons_zero, List.set_cons_succ]
                  refine wpAnyH_ready (rs := [10]) (by kernel_rfl) (by simp) ?_
                  refine' AllReadyH.cons (o := ?oiz24) ?haz24 (fun K hK => ?stepz24) AllReadyH.nil
                  case haz24 => (simp only [List.getElem?_toArray, List.getElem?_cons_succ, List.getElem?_cons_zero]; exact rfl)
                  go_simp
                  go_at_call 77
                  refine (plus_calls (p' J) (pmul (q i) wt) 1 sl v9 y11 hsl T9 FP.out.1.1 FX.out.1.1 FP.out.1.2 FX.out.1.2 (by omega) (by have := FP.out.2; have := FX.out.2; omega)).mono ?_
                  rintro e y12 ⟨v10, rfl, h10, sb⟩
                  have s10 := h10.isSl
                  have T10 : PolyV y12 (.agg #[.int .i64 (padd (p' J) (pmul (q i) wt) 1).low, v10]) (padd (p' J) (pmul (q i) wt) 1) := ⟨_, rfl, h10.ints⟩
                  clear h10
                  clear hsl T9
                  replace BF := BF.below sb
                  replace MQ := MQ.below sb
                  replace EJ := EJ.below sb
                  replace WT := WT.below sb
                  replace WI := WI.below sb
                  replace BEL := Below.chain BEL sb
                  clear sb
                  refine hK.out _ _ (⟨BF.p.cell0, BF.p.cell1, WT.cell0, WT.cell1⟩) (fun hHeld => ?_)
                  clear hK K
                  try simp only [Act.put, List.setIfInBounds_toArray, List.set_cons_zero, List.set_cons_succ]
                  refine wpAnyH_ready (rs := [11]) (by kernel_rfl) (by simp) ?_
                  refine' AllReadyH.cons (o := ?oiz23) ?haz23 (fun K hK => ?stepz23) AllReadyH.nil
                  case haz23 => (simp only [List.getElem?_toArray, List.getElem?_cons_succ, List.getElem?_cons_zero]; exact rfl)

                  rw [if_pos (by rfl)]
                  refine step_storeE (.tmp 72) (.tmp 74) (.tmp 82) rfl HK.out C rfl MQ J hjN kJ rfl HKJ.out _ rfl _ T10 ?_
                  intro y9 hM9 hg9 hz9
                  have B9 := BF.grown hg9 MQ.isMap bC
                  have WT9 := WT.grown_map hg9 MQ.isMap
                  refine hK.out _ _ (⟨B9.p.cell0, B9.p.cell1, WT9.cell0, WT9.cell1⟩) (fun hHeld => ?_)
                  clear hK K
                  try simp only [Act.put]
                  refine wpAnyH_done (by kernel_rfl) ?_ _
                  go_wp2_with fail
                  have JN := ja_two HH.out HGC.out hc hi (by rw [HG.out]; exact xn) HJ.out HA.out HJA.out
                  rw [HJJ.out, HLL.out, HWT2.out] at JN
                  have BZ9 := (BEL7.out.trans (BEL.mono BEL7.out.size)).grown hg9 (Nat.le_trans BEL7.out.size BEL.size) (fun b hb => by cases hb; omega)
                  go_roundw
                  case rel => exact ⟨c + 1, _, by omega, by go_num, B9, hM9, JN, BZ9, by have := BEL.size; omega⟩
                  case measure => simp [intOf]; omega
                case stepz30 =>
                  go_simp
                  go_at_call 70
                  refine (ltimes_calls (q i) wt s t6 y10 BF.ps WI FQ.out.1.1 FW.out.1.1 FQ.out.1.2 FW.out.1.2 (Nat.le_trans FQW.out (by omega))).mono ?_
                  rintro e y14 ⟨v9, rfl, h9, sb⟩
                  have s9 := h9.isSl
                  have T9 := h9.ints
                  clear h9
                  replace BF := BF.below sb
                  replace MQ := MQ.below sb
                  replace EJ := EJ.below sb
                  replace WT := WT.below sb
                  replace WI := WI.below sb
                  replace BEL := Below.chain BEL sb
                  clear sb
                  refine hK.out _ _ (⟨BF.p.cell0, BF.p.cell1, WT.cell0, WT.cell1⟩) (fun hHeld => ?_)
                  clear hK K
                  try simp only [Act.put, List.setIfInBounds_toArray, List.set_cons_zero, List.set_cons_succ]
                  refine wpAnyH_ready (rs := [6]) (by kernel_rfl) (by simp) ?_
                  refine' AllReadyH.cons (o := ?oiz28) ?haz28 (fun K hK => ?stepz28) AllReadyH.nil
                  case haz28 => (simp only [List.getElem?_toArray, List.getElem?_cons_succ, List.getElem?_cons_zero]; exact rfl)
                  obtain ⟨sl, hlk, hsl⟩ := MQ.look HK.out hjN
                  rw [HKJ.out] at hlk
                  have ssl := hsl.isSl
                  go_simp

                  clear hlk
                  refine hK.out _ _ (⟨BF.p.cell0, BF.p.cell1, WT.cell0, WT.cell1⟩) (fun hHeld => ?_)
                  clear hK K
                  try simp only [Act.put, List.setIfInBounds_toArray, List.set_cons_zero, List.set_cons_succ]
                  refine wpAnyH_ready (rs := [10]) (by kernel_rfl) (by simp) ?_
                  refine' AllReadyH.cons (o := ?oiz27) ?haz27 (fun K hK => ?stepz27) AllReadyH.nil
                  case haz27 => (simp only [List.getElem?_toArray, List.getElem?_cons_succ, List.getElem?_cons_zero]; exact rfl)
                  go_simp
                  go_at_call 77
                  refine (plus_calls (p' J) (pmul (q i) wt) 1 sl v9 y14 hsl T9 FP.out.1.1 FX.out.1.1 FP.out.1.2 FX.out.1.2 (by omega) (by have := FP.out.2; have := FX.out.2; omega)).mono ?_
                  rintro e y15 ⟨v10, rfl, h10, sb⟩
                  have s10 := h10.isSl
                  have T10 : PolyV y15 (.agg #[.int .i64 (padd (p' J) (pmul (q i) wt) 1).low, v10]) (padd (p' J) (pmul (q i) wt) 1) := ⟨_, rfl, h10.ints⟩
                  clear h10
                  clear T9 hsl
                  replace BF := BF.below sb
                  replace MQ := MQ.below sb
                  replace EJ := EJ.below sb
                  replace WT := WT.below sb
                  replace WI := WI.below sb
                  replace BEL := Below.chain BEL sb
                  clear sb
                  refine hK.out _ _ (⟨BF.p.cell0, BF.p.cell1, WT.cell0, WT.cell1⟩) (fun hHeld => ?_)
                  clear hK K
                  try simp only [Act.put, List.setIfInBounds_toArray, List.set_cons_zero, List.set_cons_succ]
                  refine wpAnyH_ready (rs := [11]) (by kernel_rfl) (by simp) ?_
                  refine' AllReadyH.cons (o := ?oiz26) ?haz26 (fun K hK => ?stepz26) AllReadyH.nil
                  case haz26 => (simp only [List.getElem?_toArray, List.getElem?_cons_succ, List.getElem?_cons_zero]; exact rfl)

                  rw [if_pos (by rfl)]
                  refine step_storeE (.tmp 72) (.tmp 74) (.tmp 82) rfl HK.out C rfl MQ J hjN kJ rfl HKJ.out _ rfl _ T10 ?_
                  intro y9 hM9 hg9 hz9
                  have B9 := BF.grown hg9 MQ.isMap bC
                  have WT9 := WT.grown_map hg9 MQ.isMap
                  refine hK.out _ _ (⟨B9.p.cell0, B9.p.cell1, WT9.cell0, WT9.cell1⟩) (fun hHeld => ?_)
                  clear hK K
                  try simp only [Act.put]
                  refine wpAnyH_done (by kernel_rfl) ?_ _
                  go_wp2_with fail
                  have JN := ja_two HH.out HGC.out hc hi (by rw [HG.out]; exact xn) HJ.out HA.out HJA.out
                  rw [HJJ.out, HLL.out, HWT2.out] at JN
                  have BZ9 := (BEL7.out.trans (BEL.mono BEL7.out.size)).grown hg9 (Nat.le_trans BEL7.out.size BEL.size) (fun b hb => by cases hb; omega)
                  go_roundw
                  case rel => exact ⟨c + 1, _, by omega, by go_num, B9, hM9, JN, BZ9, by have := BEL.size; omega⟩
                  case measure => simp [intOf]; omega
            · obtain rfl : c = 2 := by omega
              have JM := ja_mark (k := k) (P := P) (x := x) (f := fun t => wordJ P N t (xs.take k) unitJ) hi hdi HA.out (by rw [← HT0.out]; exact HJA.out)
              have HJM := Lib.hid JM
              clear hBJ hMP hJA hBE JM
              go_wp2_with fail
              go_roundw
              case rel => exact ⟨markJ d i, p', cnt', HBJ.out.rng, MP.out, HJM.out, HBJ.out.box, HBJ.out.word, BEL.out, MP.out.lt⟩
              case measure => rw [HBJ.out.rng.left_eq, HLQ.out]; exact hcnt
    · obtain rfl : k = L := by omega
      have htk : xs.take k = xs := List.take_of_length_le (by rw [HLE.out]; exact Nat.le_refl _)
      have HJ := Lib.hid (show JA N (3 * k) (3 ^ k) q (fun t => wordJ P N t xs unitJ) by have := HJ.out; rwa [htk] at this)
      have hMl := hM.lt
      clear htk hW hM
      obtain ⟨W2, hW2⟩ : ∃ W2, W2 = Wo.alloc (.cells #[.int .i64 0, .slice none 0 0] 40) := ⟨_, rfl⟩
      have hb2 : Below Wo.heap.size Wo W2 := by rw [hW2]; exact (Below.refl _ _).alloc (Nat.le_refl _) _
      have p2 : Pair W2 Wo.heap.size 40 (.int .i64 0) (.slice none 0 0) := by rw [hW2]; exact pair_new _ _ _ _
      obtain ⟨C, hC⟩ : ∃ C, Wo.heap.size = C := ⟨_, rfl⟩
      have hal : Wo.alloc (.cells #[.int .i64 0, .slice none 0 0] 40) = W2 := hW2.symm
      have m2 := HM.out.below hb2
      have m2' : MapQ S N Wo (Wo.alloc (.cells #[.int .i64 0, .slice none 0 0] 40)) b q := by rw [hal]; exact HM.out.toQ hb2
      have hwC : w.heap.size ≤ C := by rw [← hC]; exact HB.out.size
      have hwC1 : w.heap.size < C := by rw [← hC]; exact HP.out.lt
      rw [hC] at p2
      have HAL := Lib.hid hal; have HB2 := Lib.hid hb2; have P2 := Lib.hid p2; have M2 := Lib.hid m2; have M2' := Lib.hid m2'; have HC := Lib.hid hC
      clear hW2 hb2 p2 m2 m2' hC hal
      go_wp2_with (refine wpList_rangeQ rfl _ rfl rfl M2'.out ?_; rw [HAL.out]; intro W3 cnt0 hr3 hb3 hz3)
      rw [HC.out]
      have HR3 := Lib.hid hr3; have HB3 := Lib.hid (Below.chain HB2.out hb3); have P3 := Lib.hid (P2.out.below hb3)
      clear hr3 hb3
      simp only [Act.put, List.setIfInBounds_toArray, List.set_cons_zero, List.set_cons_succ]
      go_loopw [88] (fun _ wr => ∃ (d : Nat → Bool) (cnt : Nat) (out : LP) (v : Value), RangeQ S N Wo wr b W2.heap.size q d cnt ∧ Pair wr C 40 (.int .i64 out.low) v ∧ OwnI wr w.heap.size v out.c ∧ OutOK N Tr k q d (fun t => wordJ P N t xs unitJ) out ∧ Pair wr w.heap.size 40 (.int .i64 0) (.slice none 0 0) ∧ Below w.heap.size w wr ∧ Below Wo.heap.size Wo wr) (fun _ wr => wr.rangeLeft b W2.heap.size)
      case atStart => exact ⟨_, cnt0, pzero, .slice none 0 0, HR3.out, P3.out, ownI_nil _ _, outOK_zero, HP.out.below HB3.out, HB.out.trans (HB3.out.mono HB.out.size), HB3.out⟩
      case round =>
        rename World => Wz
        obtain ⟨d, cnt, out, v, hr, hO, hV, hK, hP, hB, hBo⟩ := hrel
        have HBO := Lib.hid hBo
        clear hBo
        have rge : w.heap.size ≤ W2.heap.size := Nat.le_trans HB.out.size HB2.out.size
        have hri := hr.iter
        have HLQ := Lib.hid hr.left_eq
        have sv0 := hV.isSl
        obtain ⟨g1, g2, g3, rfl, -⟩ := sv0.cases
        have HO := Lib.hid hO; have HV := Lib.hid hV; have HKO := Lib.hid hK; have HP' := Lib.hid hP; have HB' := Lib.hid hB; have HRI := Lib.hid hri; have HR := Lib.hid hr
        have ho0 := hO.cell0; have ho1 := hO.cell1
        have hl0 := hP.cell0; have hl1 := hP.cell1; have hf0 := hP.free0; have hf1 := hP.free1; have hlt0 := hP.lt
        clear hO hV hK hP hB hri hr
        go_wp2_with (first
          | (refine wpList_nextQ rfl (.tmp 87) rfl rfl HK.out HR.out ?_ ?_; intro hdone; have HD := Lib.hid hdone; clear hdone; rotate_left 1; intro i s w5 cnt' hi hdi hs hr5 hcnt hg5 hz5 hen; clear ho0 ho1 hl0 hl1 hf0 hf1; obtain ⟨D, hD⟩ : ∃ D, S.getD i [] = D := ⟨_, rfl⟩; rw [hD] at hen ⊢; have HDD := Lib.hid hD; have hDl : D.length ≤ 12 := (by rw [← hD, (HLEN.out i hi).1, HN2.out]; exact hN12); have ss := hs.isSl; have ki := keyC_info D hDl; have ks := keyC_size D hDl; have k1 := keyC_one D; have HKI := Lib.hid ki; have HKS := Lib.hid (show (12 : Nat) = (keyC D).size from ks.symm); have HK1 := Lib.hid k1; have HHS := Lib.hid hs; have HR5 := Lib.hid hr5; have HG5 := Lib.hid hg5; have HZ5 := Lib.hid hz5; clear hz5 ki ks k1 hD hs hr5 hg5; rotate_left 1)
          | (refine wpList_store_row rfl _ _ _ rfl w5.heap.size (keyC D) rfl rfl _ _ (heap_alloc2_old _ _ _) HKI.out HKS.out HK1.out ?_)
          | (refine wpList_store_row rfl _ _ _ rfl (w5.heap.size + 1) #[.int .i64 (q i).low, s] rfl rfl _ _ ((setRow_other _ _ _ _ (by omega)).trans (heap_alloc2_new _ _ _)) (by kernel_rfl) rfl (by simp [oneCell'_sl, ss]; rfl) ?_))
        · obtain ⟨fn1, fn2⟩ := HKO.out.all HJ.out HD.out
          have hne7 : ∀ b, Go.Sl.row (.slice g1 g2 g3) = some b → w.heap.size ≠ b := Own.ne_of_type (by decide) HV.out HP'.out
          refine bodyPost_ret (v := .agg #[.int .i64 out.low, .slice g1 g2 g3]) (by simp [results, Try.results108, go_sem, hl0, hl1]) rfl ⟨out, _, rfl, ?_, HKO.out.tr, ?_, ?_, fn2, ?_⟩
          · exact (HV.out.setOther (fun b hb => hne7 b hb) _).setOther (fun b hb => hne7 b hb) _
          · rw [HLE.out]; exact HKO.out.wi
          · rw [HLE.out]; exact fn1
          · exact (HB'.out.setCell (p := ⟨w.heap.size, 0, none⟩) (by simp) _).setCell (p := ⟨w.heap.size, 1, none⟩) (by simp) _
        · generalize hW5 : World.setRow (World.setRow _ _ _) _ _ = W5
          obtain ⟨f1, f2, f3, f4⟩ := boxes2 w5 _ _ ⟨_, rfl⟩ ⟨_, rfl⟩ hW5.symm
          have rge2 : Wo.heap.size ≤ W2.heap.size := HB2.out.size
          have KY : HBlk W5 w5.heap.size (.cells (keyC D) 157 (0, 0)) := f1
          have PP := f2
          have RN := HR5.out.below f3
          have QO := (HO.out.grown_iter HG5.out HRI.out).below f3
          have OV := (HV.out.grown_iter HG5.out HRI.out).below f3
          have BX := (HP'.out.grown_iter HG5.out HRI.out).below f3
          have BW := (HB'.out.grown HG5.out HB'.out.size (fun b hb => by cases hb; exact rge)).trans (f3.mono (by rw [HZ5.out]; exact HB'.out.size))
          have BO := (HBO.out.grown HG5.out HBO.out.size (fun b hb => by cases hb; exact rge2)).trans (f3.mono (by rw [HZ5.out]; exact HBO.out.size))
          have PS := HHS.out.below BO
          obtain ⟨K9, hK9⟩ : ∃ K, w5.heap.size = K := ⟨_, rfl⟩
          have HBW := Lib.hid BW; have HBO5 := Lib.hid BO
          rw [hK9] at KY PP
          rw [hK9]
          have hKC : K9 + 1 ≠ C := by have := HO.out.lt; have := HZ5.out; omega
          clear hW5 f1 f2 f3 f4 hK9 HKI HKS HK1 HHS HR5 HG5 HO HV HP' HB' HR HRI hen BW BO HBO
          obtain ⟨hcl1, hcl2⟩ := HH.out.cl i hi
          obtain ⟨cl, hcl⟩ : ∃ cl, dg Tr i = cl := ⟨_, rfl⟩
          have HCLO := Lib.hid (fun (W : World) (dv : Value) (h : Ints W dv (iz (S.getD i []))) => close_calls n _ dv W h (HLEN.out i hi).1 (HLEN.out i hi).2 h1 h6 _ (HH.out.right i hi).1 (close_of (HH.out.right i hi).2.1))
          rw [hcl] at HCLO hcl1 hcl2
          have HCL := Lib.hid hcl
          obtain ⟨c1, hc1⟩ : ∃ c1, cl - 1 = c1 := ⟨_, rfl⟩
          have hsub2 : (cl : Int) - 1 = (c1 : Int) := by omega
          have hsub : IntKind.i64.wrap ((cl : Int) - 1) = (c1 : Int) := by rw [hsub2]; exact IntWalk.i64_in _ ⟨by omega, by omega⟩
          have hi2 := HI2.out
          have hw2 : IntKind.i64.wrap ((2 : Int) * (n : Int)) = (N2 : Int) := by rw [hi2]; exact IntWalk.i64_in _ ⟨by omega, by omega⟩
          have hw3 : IntKind.i64.wrap (N2 : Int) = (N2 : Int) := IntWalk.i64_in _ ⟨by omega, by omega⟩
          have hw4 : IntKind.i64.wrap (c1 : Int) = (c1 : Int) := IntWalk.i64_in _ ⟨by omega, by omega⟩
          have hn12' : (N2 : Int) ≤ 12 := by omega
          have hDl : D.length = N2 := by rw [← HDD.out, (HLEN.out i hi).1, HN2.out]
          have HKE := Lib.hid (show ∀ (W : World), W.heap[K9]? = some (.cells (keyC D) 157 (0, 0)) → Ints W (.slice (some ⟨K9, 0, none⟩) N2 12) (iz (S.getD i [])) from fun W h => by rw [HDD.out]; exact ints_key h hDl hN12)
          have hq3 := pow3_le hl
          have FQ := Lib.hid (show PFit (q i) ∧ n1 (q i).c ≤ 531441 from ⟨pfit_trim (HJ.out.tr i hi) (HJ.out.wi i hi) (by omega) (by omega), Nat.le_trans (HJ.out.n1_le hi) hq3⟩)
          have FL := Lib.hid (powP_fit c1 (by omega))
          have FQL := Lib.hid (show n1 (q i).c * n1 (powP c1).c ≤ 34012224 by have := Nat.mul_le_mul FQ.out.2 FL.out.2; omega)
          have FX := Lib.hid (show PFit (pmul (q i) (powP c1)) ∧ n1 (pmul (q i) (powP c1)).c ≤ 34012224 from ⟨pfit_trim (pmul_trimmed _ _) (within_pmul (HJ.out.wi i hi) (within_powP c1)) (by omega) (by omega), Nat.le_trans (n1_pmul _ _) FQL.out⟩)
          have FO := Lib.hid (show PFit out ∧ n1 out.c ≤ 17006112 from ⟨pfit_trim HKO.out.tr HKO.out.wi (by omega) (by omega), by
            have h1 := massJ_le N q d
            have h2 := HJ.out.sum
            have h3 := HKO.out.mass
            omega⟩)
          have NX := Lib.hid (HKO.out.add HJ.out hi hdi (by rw [HCL.out]; exact hc1.symm) (show c1 ≤ 5 by omega))
          obtain ⟨nx, hnx⟩ : ∃ nx, padd out (pmul (q i) (powP c1)) 1 = nx := ⟨_, rfl⟩
          rw [hnx] at NX
          have HNX := Lib.hid hnx
          have svv := OV.isSl
          have hKl : w.heap.size < W5.heap.size := BX.lt
          have hCl : C < W5.heap.size := QO.lt
          simp only [Act.put]
          clear hDl hq3 hcl hc1 hnx
          refine wp_region_held_drew (S := fun W => W.cell? ⟨K9 + 1, 0, none⟩ = some (.int .i64 (q i).low) ∧ W.cell? ⟨K9 + 1, 1, none⟩ = some s) (by kernel_rfl) (⟨PP.cell0, PP.cell1⟩) (fun hHeld => ?_)
          have BEL : Below (World.heap W5).size W5 (World.drew W5) := (Below.refl _ _).drew
          have KY := KY.below BEL
          have PP := PP.below BEL
          have RN := RN.below BEL
          have QO := QO.below BEL
          have OV := OV.below BEL
          have BX := BX.below BEL
          have PS := PS.below BEL
          obtain ⟨y0, hy0⟩ : ∃ y0, y0 = World.drew W5 := ⟨_, rfl⟩
          rw [← hy0] at BEL KY PP RN QO OV BX PS ⊢
          (try rw [← hy0] at hHeld)
          clear hy0
          refine' wpAnyH_take (i := 1) (oi := ?oiz33) (v := ?vz33) ?haz33 (by kernel_rfl) ?hfz33 ?hrz33 ?hQz33 (Or.inl ⟨?hwz33, ?hyz33⟩) (by assumption) ?restz33
          case haz33 => (simp only [List.getElem?_toArray, List.getElem?_cons_succ, List.getElem?_cons_zero]; exact rfl)
          case hQz33 => exact fun _ _ _ h => h
          case hfz33 => kernel_rfl
          case hrz33 => kernel_rfl
          case hwz33 => rfl
          case hyz33 => (intro w hSw; (try dsimp only at hSw); obtain ⟨e1, e2⟩ := hSw; go_simp; (try with_reducible rfl))
          try simp only [Act.put, List.setIfInBounds_toArray, List.set_cons_zero, List.set_cons_succ]
          refine' wpAnyH_take (i := 2) (oi := ?oiz34) (v := ?vz34) ?haz34 (by kernel_rfl) ?hfz34 ?hrz34 ?hQz34 (Or.inl ⟨?hwz34, ?hyz34⟩) (by assumption) ?restz34
          case haz34 => (simp only [List.getElem?_toArray, List.getElem?_cons_succ, List.getElem?_cons_zero]; exact rfl)
          case hQz34 => exact fun _ _ _ h => h
          case hfz34 => kernel_rfl
          case hrz34 => kernel_rfl
          case hwz34 => rfl
          case hyz34 => (intro w hSw; (try dsimp only at hSw); obtain ⟨e1, e2⟩ := hSw; go_simp; (try with_reducible rfl))
          try simp only [Act.put, List.setIfInBounds_toArray, List.set_cons_zero, List.set_cons_succ]
          refine' wpAnyH_take (i := 3) (oi := ?oiz35) (v := ?vz35) ?haz35 (by kernel_rfl) ?hfz35 ?hrz35 ?hQz35 (Or.inl ⟨?hwz35, ?hyz35⟩) (by assumption) ?restz35
          case haz35 => (simp only [List.getElem?_toArray, List.getElem?_cons_succ, List.getElem?_cons_zero]; exact rfl)
          case hQz35 => exact fun _ _ _ h => h
          case hfz35 => kernel_rfl
          case hrz35 => kernel_rfl
          case hwz35 => rfl
          case hyz35 => (intro w hSw; (try dsimp only at hSw); obtain ⟨e1, e2⟩ := hSw; go_simp; (try with_reducible rfl))
          try simp only [Act.put, List.setIfInBounds_toArray, List.set_cons_zero, List.set_cons_succ]
          refine' wpAnyH_take (i := 4) (oi := ?oiz36) (v := ?vz36) ?haz36 (by kernel_rfl) ?hfz36 ?hrz36 ?hQz36 (Or.inl ⟨?hwz36, ?hyz36⟩) (by assumption) ?restz36
          case haz36 => (simp only [List.getElem?_toArray, List.getElem?_cons_succ, List.getElem?_cons_zero]; exact rfl)
          case hQz36 => exact fun _ _ _ h => h
          case hfz36 => kernel_rfl
          case hrz36 => kernel_rfl
          case hwz36 => rfl
          case hyz36 => (intro w hSw; (try dsimp only at hSw); obtain ⟨e1, e2⟩ := hSw; go_simp; (try with_reducible rfl))
          try simp only [Act.put, List.setIfInBounds_toArray, List.set_cons_zero, List.set_cons_succ]
          refine' wpAnyH_take (i := 5) (oi := ?oiz37) (v := ?vz37) ?haz37 (by kernel_rfl) ?hfz37 ?hrz37 ?hQz37 (Or.inl ⟨?hwz37, ?hyz37⟩) (by assumption) ?restz37
          case haz37 => (simp only [List.getElem?_toArray, List.getElem?_cons_succ, List.getElem?_cons_zero]; exact rfl)
          case hQz37 => exact fun _ _ _ h => h
          case hfz37 => kernel_rfl
          case hrz37 => kernel_rfl
          case hwz37 => rfl
          case hyz37 => (intro w hSw; (try dsimp only at hSw); obtain ⟨e1, e2⟩ := hSw; go_simp; (try with_reducible rfl))
          try simp only [Act.put, List.setIfInBounds_toArray, List.set_cons_zero, List.set_cons_succ]
          refine wpAnyH_ready (rs := [0, 6]) (by kernel_rfl) (by simp) ?_
          refine' AllReadyH.cons (o := ?oiz59) ?haz59 (fun K hK => ?stepz59) (AllReadyH.cons (o := ?oiz60) ?haz60 (fun K hK => ?stepz60) AllReadyH.nil)
          case haz59 => (simp only [List.getElem?_toArray, List.getElem?_cons_zero]; exact rfl)
          case haz60 => (simp only [List.getElem?_toArray, List.getElem?_cons_succ, List.getElem?_cons_zero]; exact rfl)
          case stepz59 =>
            have aa0 := QO.cell0; have aa1 := QO.cell1
            go_simp

            clear aa0 aa1
            refine hK.out _ _ (⟨PP.cell0, PP.cell1⟩) (fun hHeld => ?_)
            clear hK K
            try simp only [Act.put, List.setIfInBounds_toArray, List.set_cons_zero, List.set_cons_succ]
            refine wpAnyH_ready (rs := [6]) (by kernel_rfl) (by simp) ?_
            refine' AllReadyH.cons (o := ?oiz43) ?haz43 (fun K hK => ?stepz43) AllReadyH.nil
            case haz43 => (simp only [List.getElem?_toArray, List.getElem?_cons_succ, List.getElem?_cons_zero]; exact rfl)
            go_simp
            go_at_call 104
            refine (HCLO.out y0 _ (HKE.out y0 KY)).mono ?_
            rintro e y1 ⟨rfl, sb⟩
            replace KY := KY.below sb
            replace PP := PP.below sb
            replace RN := RN.below sb
            replace QO := QO.below sb
            replace OV := OV.below sb
            replace BX := BX.below sb
            replace PS := PS.below sb
            replace BEL := Below.chain BEL sb
            clear sb
            refine hK.out _ _ (⟨PP.cell0, PP.cell1⟩) (fun hHeld => ?_)
            clear hK K
            try simp only [Act.put, List.setIfInBounds_toArray, List.set_cons_zero, List.set_cons_succ]
            refine' wpAnyH_take (i := 7) (oi := ?oiz38) (v := ?vz38) ?haz38 (by kernel_rfl) ?hfz38 ?hrz38 ?hQz38 (Or.inl ⟨?hwz38, ?hyz38⟩) (by assumption) ?restz38
            case haz38 => (simp only [List.getElem?_toArray, List.getElem?_cons_succ, List.getElem?_cons_zero]; exact rfl)
            case hQz38 => exact fun _ _ _ h => h
            case hfz38 => kernel_rfl
            case hrz38 => kernel_rfl
            case hwz38 => rfl
            case hyz38 => (intro w hSw; (try dsimp only at hSw); obtain ⟨e1, e2⟩ := hSw; go_simp; (try with_reducible rfl))
            try simp only [Act.put, List.setIfInBounds_toArray, List.set_cons_zero, List.set_cons_succ]
            refine wpAnyH_ready (rs := [8]) (by kernel_rfl) (by simp) ?_
            refine' AllReadyH.cons (o := ?oiz42) ?haz42 (fun K hK => ?stepz42) AllReadyH.nil
            case haz42 => (simp only [List.getElem?_toArray, List.getElem?_cons_succ, List.getElem?_cons_zero]; exact rfl)
            go_simp
            go_at_call 142
            refine (power_calls c1 (by omega) y1).mono ?_
            rintro e y2 ⟨t5, rfl, h5, sb⟩
            have s5 := h5.isSl
            have P5 := h5.ints
            clear h5
            replace KY := KY.below sb
            replace PP := PP.below sb
            replace RN := RN.below sb
            replace QO := QO.below sb
            replace OV := OV.below sb
            replace BX := BX.below sb
            replace PS := PS.below sb
            replace BEL := Below.chain BEL sb
            clear sb
            refine hK.out _ _ (⟨PP.cell0, PP.cell1⟩) (fun hHeld => ?_)
            clear hK K
            try simp only [Act.put, List.setIfInBounds_toArray, List.set_cons_zero, List.set_cons_succ]
            refine wpAnyH_ready (rs := [9]) (by kernel_rfl) (by simp) ?_
            refine' AllReadyH.cons (o := ?oiz41) ?haz41 (fun K hK => ?stepz41) AllReadyH.nil
            case haz41 => (simp only [List.getElem?_toArray, List.getElem?_cons_succ, List.getElem?_cons_zero]; exact rfl)
            go_simp
            go_at_call 70
            refine (ltimes_calls (q i) (powP c1) s t5 y2 PS P5 FQ.out.1.1 FL.out.1.1 FQ.out.1.2 FL.out.1.2 (Nat.le_trans FQL.out (by omega))).mono ?_
            rintro e y3 ⟨v9, rfl, h9, sb⟩
            have s9 := h9.isSl
            have T9 := h9.ints
            clear h9
            clear P5
            replace KY := KY.below sb
            replace PP := PP.below sb
            replace RN := RN.below sb
            replace QO := QO.below sb
            replace OV := OV.below sb
            replace BX := BX.below sb
            replace PS := PS.below sb
            replace BEL := Below.chain BEL sb
            clear sb
            refine hK.out _ _ (⟨PP.cell0, PP.cell1⟩) (fun hHeld => ?_)
            clear hK K
            try simp only [Act.put, List.setIfInBounds_toArray, List.set_cons_zero, List.set_cons_succ]
            refine wpAnyH_ready (rs := [10]) (by kernel_rfl) (by simp) ?_
            refine' AllReadyH.cons (o := ?oiz40) ?haz40 (fun K hK => ?stepz40) AllReadyH.nil
            case haz40 => (simp only [List.getElem?_toArray, List.getElem?_cons_succ, List.getElem?_cons_zero]; exact rfl)
            go_simp
            go_at_call 77
            refine (plus_calls out (pmul (q i) (powP c1)) 1 (.slice g1 g2 g3) v9 y3 OV.ints T9 FO.out.1.1 FX.out.1.1 FO.out.1.2 FX.out.1.2 (by omega) (by have h1 := FO.out.2; have h2 := FX.out.2; omega)).mono ?_
            rintro e y4 ⟨v10, rfl, h10, sb⟩
            rw [HNX.out] at h10 ⊢
            have T10 := h10.low (B' := w.heap.size) (Nat.le_trans (Nat.le_of_lt hKl) BEL.size)
            have s10 := T10.isSl
            obtain ⟨x1, x2, x3, rfl, -⟩ := s10.cases
            clear h10
            clear T9
            replace KY := KY.below sb
            replace PP := PP.below sb
            replace RN := RN.below sb
            replace QO := QO.below sb
            replace OV := OV.below sb
            replace BX := BX.below sb
            replace PS := PS.below sb
            replace BEL := Below.chain BEL sb
            clear sb
            refine hK.out _ _ (⟨PP.cell0, PP.cell1⟩) (fun hHeld => ?_)
            clear hK K
            try simp only [Act.put, List.setIfInBounds_toArray, List.set_cons_zero, List.set_cons_succ]
            refine wpAnyH_ready (rs := [11]) (by kernel_rfl) (by simp) ?_
            refine' AllReadyH.cons (o := ?oiz39) ?haz39 (fun K hK => ?stepz39) AllReadyH.nil
            case haz39 => (simp only [List.getElem?_toArray, List.getElem?_cons_succ, List.getElem?_cons_zero]; exact rfl)
            have f0 := QO.free0; have f1 := QO.free1; have b0 := QO.cell0; have b1 := QO.cell1
            go_simp

            clear f0 f1 b0 b1
            have PP9 := (PP.other (C := C) (Ne.symm hKC) 0 (.int .i64 nx.low)).other (C := C) (Ne.symm hKC) 1 (.slice x1 x2 x3)
            refine hK.out _ _ (⟨PP9.cell0, PP9.cell1⟩) (fun hHeld => ?_)
            clear hK K
            try simp only [Act.put, List.setIfInBounds_toArray, List.set_cons_zero, List.set_cons_succ]
            refine wpAnyH_done (by kernel_rfl) ?_ _
            go_wp2_with fail
            have hne7 : ∀ b, Go.Sl.row (.slice x1 x2 x3) = some b → C ≠ b := Own.ne_of_type (by decide) T10 QO
            have BWZ := HBW.out.trans (BEL.mono HBW.out.size)
            have BOZ := HBO5.out.trans (BEL.mono HBO5.out.size)
            have R1 := (RN.setCell (c := C) 0 (.int .i64 nx.low) ⟨_, _, QO⟩).setCell (c := C) 1 (.slice x1 x2 x3) ⟨#[.int .i64 nx.low, .slice g1 g2 g3], 40, setCell0 QO _⟩
            go_roundw
            case rel => exact ⟨markJ d i, cnt', nx, _, R1, QO.set _ _, (T10.setOther (fun b hb => hne7 b hb) _).setOther (fun b hb => hne7 b hb) _, NX.out, (BX.other (by omega) _ _).other (by omega) _ _, (BWZ.setCell (p := ⟨C, 0, none⟩) hwC _).setCell (p := ⟨C, 1, none⟩) hwC _, (BOZ.setCell (p := ⟨C, 0, none⟩) (by rw [HC.out]; exact Nat.le_refl _) _).setCell (p := ⟨C, 1, none⟩) (by rw [HC.out]; exact Nat.le_refl _) _⟩
            case measure => rw [R1.left_eq, HLQ.out]; exact hcnt
          case stepz60 =>
            go_simp
            go_at_call 104
            refine (HCLO.out y0 _ (HKE.out y0 KY)).mono ?_
            rintro e y5 ⟨rfl, sb⟩
            replace KY := KY.below sb
            replace PP := PP.below sb
            replace RN := RN.below sb
            replace QO := QO.below sb
            replace OV := OV.below sb
            replace BX := BX.below sb
            replace PS := PS.below sb
            replace BEL := Below.chain BEL sb
            clear sb
            refine hK.out _ _ (⟨PP.cell0, PP.cell1⟩) (fun hHeld => ?_)
            clear hK K
            try simp only [Act.put, List.setIfInBounds_toArray, List.set_cons_zero, List.set_cons_succ]
            refine' wpAnyH_take (i := 7) (oi := ?oiz44) (v := ?vz44) ?haz44 (by kernel_rfl) ?hfz44 ?hrz44 ?hQz44 (Or.inl ⟨?hwz44, ?hyz44⟩) (by assumption) ?restz44
            case haz44 => (simp only [List.getElem?_toArray, List.getElem?_cons_succ, List.getElem?_cons_zero]; exact rfl)
            case hQz44 => exact fun _ _ _ h => h
            case hfz44 => kernel_rfl
            case hrz44 => kernel_rfl
            case hwz44 => rfl
            case hyz44 => (intro w hSw; (try dsimp only at hSw); obtain ⟨e1, e2⟩ := hSw; go_simp; (try with_reducible rfl))
            try simp only [Act.put, List.setIfInBounds_toArray, List.set_cons_zero, List.set_cons_succ]
            refine wpAnyH_ready (rs := [0, 8]) (by kernel_rfl) (by simp) ?_
            refine' AllReadyH.cons (o := ?oiz57) ?haz57 (fun K hK => ?stepz57) (AllReadyH.cons (o := ?oiz58) ?haz58 (fun K hK => ?stepz58) AllReadyH.nil)
            case haz57 => (simp only [List.getElem?_toArray, List.getElem?_cons_zero]; exact rfl)
            case haz58 => (simp only [List.getElem?_toArray, List.getElem?_cons_succ, List.getElem?_cons_zero]; exact rfl)
            case stepz57 =>
              have aa0 := QO.cell0; have aa1 := QO.cell1
              go_simp

              clear aa0 aa1
              refine hK.out _ _ (⟨PP.cell0, PP.cell1⟩) (fun hHeld => ?_)
              clear hK K
              try simp only [Act.put, List.setIfInBounds_toArray, List.set_cons_zero, List.set_cons_succ]
              refine wpAnyH_ready (rs := [8]) (by kernel_rfl) (by simp) ?_
              refine' AllReadyH.cons (o := ?oiz48) ?haz48 (fun K hK => ?stepz48) AllReadyH.nil
              case haz48 => (simp only [List.getElem?_toArray, List.getElem?_cons_succ, List.getElem?_cons_zero]; exact rfl)
              go_simp
              go_at_call 142
              refine (power_calls c1 (by omega) y5).mono ?_
              rintro e y6 ⟨t5, rfl, h5, sb⟩
              have s5 := h5.isSl
              have P5 := h5.ints
              clear h5
              replace KY := KY.below sb
              replace PP := PP.below sb
              replace RN := RN.below sb
              replace QO := QO.below sb
              replace OV := OV.below sb
              replace BX := BX.below sb
              replace PS := PS.below sb
              replace BEL := Below.chain BEL sb
              clear sb
              refine hK.out _ _ (⟨PP.cell0, PP.cell1⟩) (fun hHeld => ?_)
              clear hK K
              try simp only [Act.put, List.setIfInBounds_toArray, List.set_cons_zero, List.set_cons_succ]
              refine wpAnyH_ready (rs := [9]) (by kernel_rfl) (by simp) ?_
              refine' AllReadyH.cons (o := ?oiz47) ?haz47 (fun K hK => ?stepz47) AllReadyH.nil
              case haz47 => (simp only [List.getElem?_toArray, List.getElem?_cons_succ, List.getElem?_cons_zero]; exact rfl)
              go_simp
              go_at_call 70
              refine (ltimes_calls (q i) (powP c1) s t5 y6 PS P5 FQ.out.1.1 FL.out.1.1 FQ.out.1.2 FL.out.1.2 (Nat.le_trans FQL.out (by omega))).mono ?_
              rintro e y7 ⟨v9, rfl, h9, sb⟩
              have s9 := h9.isSl
              have T9 := h9.ints
              clear h9
              clear P5
              replace KY := KY.below sb
              replace PP := PP.below sb
              replace RN := RN.below sb
              replace QO := QO.below sb
              replace OV := OV.below sb
              replace BX := BX.below sb
              replace PS := PS.below sb
              replace BEL := Below.chain BEL sb
              clear sb
              refine hK.out _ _ (⟨PP.cell0, PP.cell1⟩) (fun hHeld => ?_)
              clear hK K
              try simp only [Act.put, List.setIfInBounds_toArray, List.set_cons_zero, List.set_cons_succ]
              refine wpAnyH_ready (rs := [10]) (by kernel_rfl) (by simp) ?_
              refine' AllReadyH.cons (o := ?oiz46) ?haz46 (fun K hK => ?stepz46) AllReadyH.nil
              case haz46 => (simp only [List.getElem?_toArray, List.getElem?_cons_succ, List.getElem?_cons_zero]; exact rfl)
              go_simp
              go_at_call 77
              refine (plus_calls out (pmul (q i) (powP c1)) 1 (.slice g1 g2 g3) v9 y7 OV.ints T9 FO.out.1.1 FX.out.1.1 FO.out.1.2 FX.out.1.2 (by omega) (by have h1 := FO.out.2; have h2 := FX.out.2; omega)).mono ?_
              rintro e y8 ⟨v10, rfl, h10, sb⟩
              rw [HNX.out] at h10 ⊢
              have T10 := h10.low (B' := w.heap.size) (Nat.le_trans (Nat.le_of_lt hKl) BEL.size)
              have s10 := T10.isSl
              obtain ⟨x1, x2, x3, rfl, -⟩ := s10.cases
              clear h10
              clear T9
              replace KY := KY.below sb
              replace PP := PP.below sb
              replace RN := RN.below sb
              replace QO := QO.below sb
              replace OV := OV.below sb
              replace BX := BX.below sb
              replace PS := PS.below sb
              replace BEL := Below.chain BEL sb
              clear sb
              refine hK.out _ _ (⟨PP.cell0, PP.cell1⟩) (fun hHeld => ?_)
              clear hK K
              try simp only [Act.put, List.setIfInBounds_toArray, List.set_cons_zero, List.set_cons_succ]
              refine wpAnyH_ready (rs := [11]) (by kernel_rfl) (by simp) ?_
              refine' AllReadyH.cons (o := ?oiz45) ?haz45 (fun K hK => ?stepz45) AllReadyH.nil
              case haz45 => (simp only [List.getElem?_toArray, List.getElem?_cons_succ, List.getElem?_cons_zero]; exact rfl)
              have f0 := QO.free0; have f1 := QO.free1; have b0 := QO.cell0; have b1 := QO.cell1
              go_simp

              clear f0 f1 b0 b1
              have PP9 := (PP.other (C := C) (Ne.symm hKC) 0 (.int .i64 nx.low)).other (C := C) (Ne.symm hKC) 1 (.slice x1 x2 x3)
              refine hK.out _ _ (⟨PP9.cell0, PP9.cell1⟩) (fun hHeld => ?_)
              clear hK K
              try simp only [Act.put, List.setIfInBounds_toArray, List.set_cons_zero, List.set_cons_succ]
              refine wpAnyH_done (by kernel_rfl) ?_ _
              go_wp2_with fail
              have hne7 : ∀ b, Go.Sl.row (.slice x1 x2 x3) = some b → C ≠ b := Own.ne_of_type (by decide) T10 QO
              have BWZ := HBW.out.trans (BEL.mono HBW.out.size)
              have BOZ := HBO5.out.trans (BEL.mono HBO5.out.size)
              have R1 := (RN.setCell (c := C) 0 (.int .i64 nx.low) ⟨_, _, QO⟩).setCell (c := C) 1 (.slice x1 x2 x3) ⟨#[.int .i64 nx.low, .slice g1 g2 g3], 40, setCell0 QO _⟩
              go_roundw
              case rel => exact ⟨markJ d i, cnt', nx, _, R1, QO.set _ _, (T10.setOther (fun b hb => hne7 b hb) _).setOther (fun b hb => hne7 b hb) _, NX.out, (BX.other (by omega) _ _).other (by omega) _ _, (BWZ.setCell (p := ⟨C, 0, none⟩) hwC _).setCell (p := ⟨C, 1, none⟩) hwC _, (BOZ.setCell (p := ⟨C, 0, none⟩) (by rw [HC.out]; exact Nat.le_refl _) _).setCell (p := ⟨C, 1, none⟩) (by rw [HC.out]; exact Nat.le_refl _) _⟩
              case measure => rw [R1.left_eq, HLQ.out]; exact hcnt
            case stepz58 =>
              go_simp
              go_at_call 142
              refine (power_calls c1 (by omega) y5).mono ?_
              rintro e y9 ⟨t5, rfl, h5, sb⟩
              have s5 := h5.isSl
              have P5 := h5.ints
              clear h5
              replace KY := KY.below sb
              replace PP := PP.below sb
              replace RN := RN.below sb
              replace QO := QO.below sb
              replace OV := OV.below sb
              replace BX := BX.below sb
              replace PS := PS.below sb
              replace BEL := Below.chain BEL sb
              clear sb
              refine hK.out _ _ (⟨PP.cell0, PP.cell1⟩) (fun hHeld => ?_)
              clear hK K
              try simp only [Act.put, List.setIfInBounds_toArray, List.set_cons_zero, List.set_cons_succ]
              refine wpAnyH_ready (rs := [0, 9]) (by kernel_rfl) (by simp) ?_
              refine' AllReadyH.cons (o := ?oiz55) ?haz55 (fun K hK => ?stepz55) (AllReadyH.cons (o := ?oiz56) ?haz56 (fun K hK => ?stepz56) AllReadyH.nil)
              case haz55 => (simp only [List.getElem?_toArray, List.getElem?_cons_zero]; exact rfl)
              case haz56 => (simp only [List.getElem?_toArray, List.getElem?_cons_succ, List.getElem?_cons_zero]; exact rfl)
              case stepz55 =>
                have aa0 := QO.cell0; have aa1 := QO.cell1
                go_simp

                clear aa0 aa1
                refine hK.out _ _ (⟨PP.cell0, PP.cell1⟩) (fun hHeld => ?_)
                clear hK K
                try simp only [Act.put, List.setIfInBounds_toArray, List.set_cons_zero, List.set_cons_succ]
                refine wpAnyH_ready (rs := [9]) (by kernel_rfl) (by simp) ?_
                refine' AllReadyH.cons (o := ?oiz51) ?haz51 (fun K hK => ?stepz51) AllReadyH.nil
                case haz51 => (simp only [List.getElem?_toArray, List.getElem?_cons_succ, List.getElem?_cons_zero]; exact rfl)
                go_simp
                go_at_call 70
                refine (ltimes_calls (q i) (powP c1) s t5 y9 PS P5 FQ.out.1.1 FL.out.1.1 FQ.out.1.2 FL.out.1.2 (Nat.le_trans FQL.out (by omega))).mono ?_
                rintro e y10 ⟨v9, rfl, h9, sb⟩
                have s9 := h9.isSl
                have T9 := h9.ints
                clear h9
                clear P5
                replace KY := KY.below sb
                replace PP := PP.below sb
                replace RN := RN.below sb
                replace QO := QO.below sb
                replace OV := OV.below sb
                replace BX := BX.below sb
                replace PS := PS.below sb
                replace BEL := Below.chain BEL sb
                clear sb
                refine hK.out _ _ (⟨PP.cell0, PP.cell1⟩) (fun hHeld => ?_)
                clear hK K
                try simp only [Act.put, List.setIfInBounds_toArray, List.set_cons_zero, List.set_cons_succ]
                refine wpAnyH_ready (rs := [10]) (by kernel_rfl) (by simp) ?_
                refine' AllReadyH.cons (o := ?oiz50) ?haz50 (fun K hK => ?stepz50) AllReadyH.nil
                case haz50 => (simp only [List.getElem?_toArray, List.getElem?_cons_succ, List.getElem?_cons_zero]; exact rfl)
                go_simp
                go_at_call 77
                refine (plus_calls out (pmul (q i) (powP c1)) 1 (.slice g1 g2 g3) v9 y10 OV.ints T9 FO.out.1.1 FX.out.1.1 FO.out.1.2 FX.out.1.2 (by omega) (by have h1 := FO.out.2; have h2 := FX.out.2; omega)).mono ?_
                rintro e y11 ⟨v10, rfl, h10, sb⟩
                rw [HNX.out] at h10 ⊢
                have T10 := h10.low (B' := w.heap.size) (Nat.le_trans (Nat.le_of_lt hKl) BEL.size)
                have s10 := T10.isSl
                obtain ⟨x1, x2, x3, rfl, -⟩ := s10.cases
                clear h10
                clear T9
                replace KY := KY.below sb
                replace PP := PP.below sb
                replace RN := RN.below sb
                replace QO := QO.below sb
                replace OV := OV.below sb
                replace BX := BX.below sb
                replace PS := PS.below sb
                replace BEL := Below.chain BEL sb
                clear sb
                refine hK.out _ _ (⟨PP.cell0, PP.cell1⟩) (fun hHeld => ?_)
                clear hK K
                try simp only [Act.put, List.setIfInBounds_toArray, List.set_cons_zero, List.set_cons_succ]
                refine wpAnyH_ready (rs := [11]) (by kernel_rfl) (by simp) ?_
                refine' AllReadyH.cons (o := ?oiz49) ?haz49 (fun K hK => ?stepz49) AllReadyH.nil
                case haz49 => (simp only [List.getElem?_toArray, List.getElem?_cons_succ, List.getElem?_cons_zero]; exact rfl)
                have f0 := QO.free0; have f1 := QO.free1; have b0 := QO.cell0; have b1 := QO.cell1
                go_simp

                clear f0 f1 b0 b1
                have PP9 := (PP.other (C := C) (Ne.symm hKC) 0 (.int .i64 nx.low)).other (C := C) (Ne.symm hKC) 1 (.slice x1 x2 x3)
                refine hK.out _ _ (⟨PP9.cell0, PP9.cell1⟩) (fun hHeld => ?_)
                clear hK K
                try simp only [Act.put, List.setIfInBounds_toArray, List.set_cons_zero, List.set_cons_succ]
                refine wpAnyH_done (by kernel_rfl) ?_ _
                go_wp2_with fail
                have hne7 : ∀ b, Go.Sl.row (.slice x1 x2 x3) = some b → C ≠ b := Own.ne_of_type (by decide) T10 QO
                have BWZ := HBW.out.trans (BEL.mono HBW.out.size)
                have BOZ := HBO5.out.trans (BEL.mono HBO5.out.size)
                have R1 := (RN.setCell (c := C) 0 (.int .i64 nx.low) ⟨_, _, QO⟩).setCell (c := C) 1 (.slice x1 x2 x3) ⟨#[.int .i64 nx.low, .slice g1 g2 g3], 40, setCell0 QO _⟩
                go_roundw
                case rel => exact ⟨markJ d i, cnt', nx, _, R1, QO.set _ _, (T10.setOther (fun b hb => hne7 b hb) _).setOther (fun b hb => hne7 b hb) _, NX.out, (BX.other (by omega) _ _).other (by omega) _ _, (BWZ.setCell (p := ⟨C, 0, none⟩) hwC _).setCell (p := ⟨C, 1, none⟩) hwC _, (BOZ.setCell (p := ⟨C, 0, none⟩) (by rw [HC.out]; exact Nat.le_refl _) _).setCell (p := ⟨C, 1, none⟩) (by rw [HC.out]; exact Nat.le_refl _) _⟩
                case measure => rw [R1.left_eq, HLQ.out]; exact hcnt
              case stepz56 =>
                go_simp
                go_at_call 70
                refine (ltimes_calls (q i) (powP c1) s t5 y9 PS P5 FQ.out.1.1 FL.out.1.1 FQ.out.1.2 FL.out.1.2 (Nat.le_trans FQL.out (by omega))).mono ?_
                rintro e y12 ⟨v9, rfl, h9, sb⟩
                have s9 := h9.isSl
                have T9 := h9.ints
                clear h9
                clear P5
                replace KY := KY.below sb
                replace PP := PP.below sb
                replace RN := RN.below sb
                replace QO := QO.below sb
                replace OV := OV.below sb
                replace BX := BX.below sb
                replace PS := PS.below sb
                replace BEL := Below.chain BEL sb
                clear sb
                refine hK.out _ _ (⟨PP.cell0, PP.cell1⟩) (fun hHeld => ?_)
                clear hK K
                try simp only [Act.put, List.setIfInBounds_toArray, List.set_cons_zero, List.set_cons_succ]
                refine wpAnyH_ready (rs := [0]) (by kernel_rfl) (by simp) ?_
                refine' AllReadyH.cons (o := ?oiz54) ?haz54 (fun K hK => ?stepz54) AllReadyH.nil
                case haz54 => (simp only [List.getElem?_toArray, List.getElem?_cons_zero]; exact rfl)
                have aa0 := QO.cell0; have aa1 := QO.cell1
                go_simp

                clear aa0 aa1
                refine hK.out _ _ (⟨PP.cell0, PP.cell1⟩) (fun hHeld => ?_)
                clear hK K
                try simp only [Act.put, List.setIfInBounds_toArray, List.set_cons_zero, List.set_cons_succ]
                refine wpAnyH_ready (rs := [10]) (by kernel_rfl) (by simp) ?_
                refine' AllReadyH.cons (o := ?oiz53) ?haz53 (fun K hK => ?stepz53) AllReadyH.nil
                case haz53 => (simp only [List.getElem?_toArray, List.getElem?_cons_succ, List.getElem?_cons_zero]; exact rfl)
                go_simp
                go_at_call 77
                refine (plus_calls out (pmul (q i) (powP c1)) 1 (.slice g1 g2 g3) v9 y12 OV.ints T9 FO.out.1.1 FX.out.1.1 FO.out.1.2 FX.out.1.2 (by omega) (by have h1 := FO.out.2; have h2 := FX.out.2; omega)).mono ?_
                rintro e y13 ⟨v10, rfl, h10, sb⟩
                rw [HNX.out] at h10 ⊢
                have T10 := h10.low (B' := w.heap.size) (Nat.le_trans (Nat.le_of_lt hKl) BEL.size)
                have s10 := T10.isSl
                obtain ⟨x1, x2, x3, rfl, -⟩ := s10.cases
                clear h10
                clear T9
                replace KY := KY.below sb
                replace PP := PP.below sb
                replace RN := RN.below sb
                replace QO := QO.below sb
                replace OV := OV.below sb
                replace BX := BX.below sb
                replace PS := PS.below sb
                replace BEL := Below.chain BEL sb
                clear sb
                refine hK.out _ _ (⟨PP.cell0, PP.cell1⟩) (fun hHeld => ?_)
                clear hK K
                try simp only [Act.put, List.setIfInBounds_toArray, List.set_cons_zero, List.set_cons_succ]
                refine wpAnyH_ready (rs := [11]) (by kernel_rfl) (by simp) ?_
                refine' AllReadyH.cons (o := ?oiz52) ?haz52 (fun K hK => ?stepz52) AllReadyH.nil
                case haz52 => (simp only [List.getElem?_toArray, List.getElem?_cons_succ, List.getElem?_cons_zero]; exact rfl)
                have f0 := QO.free0; have f1 := QO.free1; have b0 := QO.cell0; have b1 := QO.cell1
                go_simp

                clear f0 f1 b0 b1
                have PP9 := (PP.other (C := C) (Ne.symm hKC) 0 (.int .i64 nx.low)).other (C := C) (Ne.symm hKC) 1 (.slice x1 x2 x3)
                refine hK.out _ _ (⟨PP9.cell0, PP9.cell1⟩) (fun hHeld => ?_)
                clear hK K
                try simp only [Act.put, List.setIfInBounds_toArray, List.set_cons_zero, List.set_cons_succ]
                refine wpAnyH_done (by kernel_rfl) ?_ _
                go_wp2_with fail
                have hne7 : ∀ b, Go.Sl.row (.slice x1 x2 x3) = some b → C ≠ b := Own.ne_of_type (by decide) T10 QO
                have BWZ := HBW.out.trans (BEL.mono HBW.out.size)
                have BOZ := HBO5.out.trans (BEL.mono HBO5.out.size)
                have R1 := (RN.setCell (c := C) 0 (.int .i64 nx.low) ⟨_, _, QO⟩).setCell (c := C) 1 (.slice x1 x2 x3) ⟨#[.int .i64 nx.low, .slice g1 g2 g3], 40, setCell0 QO _⟩
                go_roundw
                case rel => exact ⟨markJ d i, cnt', nx, _, R1, QO.set _ _, (T10.setOther (fun b hb => hne7 b hb) _).setOther (fun b hb => hne7 b hb) _, NX.out, (BX.other (by omega) _ _).other (by omega) _ _, (BWZ.setCell (p := ⟨C, 0, none⟩) hwC _).setCell (p := ⟨C, 1, none⟩) hwC _, (BOZ.setCell (p := ⟨C, 0, none⟩) (by rw [HC.out]; exact Nat.le_refl _) _).setCell (p := ⟨C, 1, none⟩) (by rw [HC.out]; exact Nat.le_refl _) _⟩
                case measure => rw [R1.left_eq, HLQ.out]; exact hcnt
end Go.Proofs.Ytplekfgadbjgdaa

