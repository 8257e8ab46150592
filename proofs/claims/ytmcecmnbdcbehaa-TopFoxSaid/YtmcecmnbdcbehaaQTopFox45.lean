/- TopFox: for every input the statement returns true, and nothing that was there has changed. -/
import Derived.Test.YtmcecmnbdcbehaaQTopFox0
import Derived.Test.YtmcecmnbdcbehaaQTopFox1
import Derived.Test.YtmcecmnbdcbehaaQTopFox2
import Derived.Test.YtmcecmnbdcbehaaQTopFox3
import Derived.Test.YtmcecmnbdcbehaaQTopFox4
import Derived.Test.YtmcecmnbdcbehaaQTopFox5
import Derived.Test.YtmcecmnbdcbehaaQTopFox6
import Derived.Test.YtmcecmnbdcbehaaQTopFox7
import Derived.Test.YtmcecmnbdcbehaaQTopFox8
import Derived.Test.YtmcecmnbdcbehaaQTopFox9
import Derived.Test.YtmcecmnbdcbehaaQTopFox10
import Derived.Test.YtmcecmnbdcbehaaQTopFox11
import Derived.Test.YtmcecmnbdcbehaaQTopFox12
import Derived.Test.YtmcecmnbdcbehaaQTopFox13
import Derived.Test.YtmcecmnbdcbehaaQTopFox14
import Derived.Test.YtmcecmnbdcbehaaQTopFox15
import Derived.Test.YtmcecmnbdcbehaaQTopFox16
import Derived.Test.YtmcecmnbdcbehaaQTopFox17
import Derived.Test.YtmcecmnbdcbehaaQTopFox18
import Derived.Test.YtmcecmnbdcbehaaQTopFox19
import Derived.Test.YtmcecmnbdcbehaaQTopFox20
import Derived.Test.YtmcecmnbdcbehaaQTopFox21
import Derived.Test.YtmcecmnbdcbehaaQTopFox22
import Derived.Test.YtmcecmnbdcbehaaQTopFox23
import Derived.Test.YtmcecmnbdcbehaaQTopFox24
import Derived.Test.YtmcecmnbdcbehaaQTopFox25
import Derived.Test.YtmcecmnbdcbehaaQTopFox26
import Derived.Test.YtmcecmnbdcbehaaQTopFox27
import Derived.Test.YtmcecmnbdcbehaaQTopFox28
import Derived.Test.YtmcecmnbdcbehaaQTopFox29
import Derived.Test.YtmcecmnbdcbehaaQTopFox30
import Derived.Test.YtmcecmnbdcbehaaQTopFox31
import Derived.Test.YtmcecmnbdcbehaaQTopFox32
import Derived.Test.YtmcecmnbdcbehaaQTopFox33
import Derived.Test.YtmcecmnbdcbehaaQTopFox34
import Derived.Test.YtmcecmnbdcbehaaQTopFox35
import Derived.Test.YtmcecmnbdcbehaaQTopFox36
import Derived.Test.YtmcecmnbdcbehaaQTopFox37
import Derived.Test.YtmcecmnbdcbehaaQTopFox38
import Derived.Test.YtmcecmnbdcbehaaQTopFox39
import Derived.Test.YtmcecmnbdcbehaaQTopFox40
import Derived.Test.YtmcecmnbdcbehaaQTopFox41
import Derived.Test.YtmcecmnbdcbehaaQTopFox42
import Derived.Test.YtmcecmnbdcbehaaQTopFox43
import Derived.Test.YtmcecmnbdcbehaaQTopFox44
import Derived.Lib.AppendZeros
import Derived.Lib.Walk
namespace Go.Proofs.Ytmcecmnbdcbehaa
open Go.RowKit Go.Sl

theorem not_long6 {n : Nat} {xs : List Int} (h : xs.length ≤ 6) : ¬ TooLong n xs := by
  rintro ⟨j, hj, r, hr, hl⟩
  have h1 := fold_len (xs.reverse.take j) (gensA n) 1 (fun r hr => by
    obtain ⟨i, _, rfl⟩ := List.mem_map.1 hr
    simp) r hr
  have h2 : (xs.reverse.take j).length ≤ 6 := by simp; omega
  have h3 : 3 ^ (xs.reverse.take j).length ≤ 3 ^ 6 := Nat.pow_le_pow_right (by omega) h2
  omega
theorem image_len {n : Nat} {xs : List Int} (h : xs.length ≤ 6) {r : List Int} (hr : r ∈ imagesA n xs) : r.length ≤ 729 := by
  have h1 := fold_len xs.reverse (gensA n) 1 (fun r hr => by
    obtain ⟨i, _, rfl⟩ := List.mem_map.1 hr
    simp) r hr
  have h2 : xs.reverse.length ≤ 6 := by simp; omega
  have h3 : 3 ^ xs.reverse.length ≤ 3 ^ 6 := Nat.pow_le_pow_right (by omega) h2
  omega

theorem fcheck_long (a : Value) (xs : List Int) (w : World) (ha : Ints w a xs) (hl : 60 < xs.length) :
    Calls Try.prog 103 #[a] w fun e w' => e = .returned (.int .i64 2) ∧ w = w' := by
  have sa := ha.isSl
  have la := ha.len
  clear ha
  have h0 : (xs.length : Int) > 60 := by omega
  go_enter Try.func103, Try.ntmps103
  go_wp2_with fail
  go_ret
  exact ⟨rfl, rfl⟩

set_option maxRecDepth 100000 in
theorem derivative_long (a : Value) (xs : List Int) (i : Int) (w : World) (ha : Ints w a xs) (hl : 60 < xs.length) :
    Calls Try.prog 45 #[a, .int .i64 i] w fun e w' => e = .returned (.tuple #[.agg #[.int .i64 0, .slice none 0 0], .int .i64 2]) ∧ Below w.heap.size w w' := by
  have sa := ha.isSl
  obtain ⟨W1, hW1⟩ : ∃ W1, W1 = w.alloc (.cells #[.int .i64 0, .slice none 0 0] 27) := ⟨_, rfl⟩
  have b1 : Below w.heap.size w W1 := by rw [hW1]; exact (Below.refl _ _).alloc (Nat.le_refl _) _
  have p1 : Pair W1 w.heap.size 27 (.int .i64 0) (.slice none 0 0) := by rw [hW1]; exact pair_new _ _ _ _
  have c0 := p1.cell0; have c1 := p1.cell1; have f0 := p1.free0; have f1 := p1.free1
  have HC := Lib.hid (fcheck_long a xs W1 (ha.below b1) hl)
  have HW1 := Lib.hid hW1.symm; have B1 := Lib.hid b1
  clear ha hW1 b1 p1
  go_enter Try.func45, Try.ntmps45
  go_wp2_with fail
  rw [HW1.out]
  refine HC.out.mono ?_
  rintro e w' ⟨rfl, rfl⟩
  go_wp2_with fail
  refine bodyPost_ret (v := .tuple #[.agg #[.int .i64 0, .slice none 0 0], .int .i64 2]) (by simp [results, Try.results45, go_sem, c0, c1]) rfl ⟨rfl, ?_⟩
  exact (B1.out.setCell (p := ⟨w.heap.size, 0, none⟩) (by simp) _).setCell (p := ⟨w.heap.size, 1, none⟩) (by simp) _

theorem tsame_yes (p q : LP) (s t : Value) (w : World) (hs : Ints w s p.c) (ht : Ints w t q.c) (h : p = q) :
    Calls Try.prog 46 #[.agg #[.int .i64 p.low, s], .agg #[.int .i64 q.low, t]] w fun e w' => e = .returned (.bool true) ∧ Below w.heap.size w w' := by
  subst h
  have ss := hs.isSl
  have st := ht.isSl
  have HS := Lib.hid hs; have HT := Lib.hid ht; clear hs ht
  go_enter Try.func46, Try.ntmps46
  go_wp2_with fail
  refine (equal_yes _ _ p.c p.c _ ((HS.out.alloc _).alloc _) ((HT.out.alloc _).alloc _) rfl).mono ?_
  rintro e u1 ⟨rfl, hb1⟩
  go_wp2_with fail
  go_ret
  exact ⟨rfl, Below.chain (((Below.refl _ _).alloc (Nat.le_refl _) _).alloc (by simp) _) hb1⟩

set_option maxRecDepth 100000 in
set_option maxHeartbeats 2000000 in
/-- artin.Equal of words whose images are short. -/
theorem aequal_short (n : Nat) (a b : Value) (xs ys : List Int) (w : World) (ha : Ints w a xs) (hb : Ints w b ys) (h1 : 2 ≤ n) (h2 : n ≤ 6) (hx : BWord n xs) (hy : BWord n ys) (hlx : xs.length ≤ 6) (hly : ys.length ≤ 6) :
    Calls Try.prog 102 #[.int .i64 n, a, b] w fun e w' => e = .returned (.tuple #[.bool (decide (imagesA n xs = imagesA n ys)), .int .i64 0]) ∧ Below w.heap.size w w' := by
  have sa := ha.isSl
  have sb := hb.isSl
  have HA := Lib.hid ha; have HB := Lib.hid hb; have HX := Lib.hid hx; have HY := Lib.hid hy; have HLX := Lib.hid hlx; have HLY := Lib.hid hly
  clear ha hb hx hy hlx hly
  go_enter Try.func102, Try.ntmps102
  go_wp2_with fail
  refine (images_calls' n a xs _ HA.out h1 h2 HX.out (Nat.le_trans HLX.out (by omega))).mono ?_
  rintro e w1 ⟨u, er, rfl, su, ⟨rfl, h⟩ | ⟨rfl, us, hu⟩, hb1⟩
  · exact (not_long6 HLX.out h).elim
  · have HU := Lib.hid hu; have HB1 := Lib.hid hb1; clear hu hb1
    obtain ⟨u1, u2, u3, rfl, -⟩ := su.cases
    go_wp2_with fail
    refine (images_calls' n b ys _ (HB.out.below HB1.out) h1 h2 HY.out (Nat.le_trans HLY.out (by omega))).mono ?_
    rintro e w2 ⟨v, er, rfl, sv, ⟨rfl, h⟩ | ⟨rfl, vs, hv⟩, hb2⟩
    · exact (not_long6 HLY.out h).elim
    · have HV := Lib.hid hv; have HB2 := Lib.hid hb2; clear hv hb2
      obtain ⟨v1, v2, v3, rfl, -⟩ := sv.cases
      go_wp2_with fail
      refine (equalFunc_calls _ _ us vs (imagesA n xs) (imagesA n ys) _ (enters_some (Go.Proofs.enters_of Try.func28 (by kernel_rfl) rfl)) _ (HU.out.below HB2.out) HV.out (fun W c d xs ys h k => equal_calls c d xs ys W h k)).mono ?_
      rintro e w3 ⟨rfl, hb3⟩
      have HB3 := Lib.hid hb3; clear hb3
      go_wp2_with fail
      go_ret2
      exact ⟨rfl, Below.chain (Below.chain HB1.out HB2.out) HB3.out⟩

theorem tequal_nf : ∀ c d, Cn 3 (mulW 3 (0, []) [1, 2, 1]) c → Cn 3 (mulW 3 (0, []) [2, 1, 2]) d → c = d := fun c d hc hd =>
  cn_unique ((eqv_cn (by decide) (by decide) (braid_mul (n := 3) (by decide) (i := 0) (by decide) (s := (0, [])) (good_nil 3)) c).1 hc) hd
set_option maxRecDepth 100000 in
set_option maxHeartbeats 2000000 in
theorem tequal_calls (w : World) : Calls Try.prog 44 #[] w fun e w' => e = .returned (.bool true) ∧ Below w.heap.size w w' := by
  have hne : decide (imagesA 3 [1, 2] = imagesA 3 [2, 1]) = false := by decide
  obtain ⟨W2, hW2⟩ : ∃ W2, W2 = ((w.alloc (.cells #[.int .i64 1, .int .i64 2, .int .i64 1] 3)).alloc (.cells #[.int .i64 2, .int .i64 1, .int .i64 2] 3)) := ⟨_, rfl⟩
  have i1 : Ints W2 (.slice (some ⟨w.heap.size, 0, none⟩) 3 3) [1, 2, 1] := by rw [hW2]; exact (ints_lit [1, 2, 1] rfl rfl rfl (by decide)).alloc _
  have i2 : Ints W2 (.slice (some ⟨w.heap.size + 1, 0, none⟩) 3 3) [2, 1, 2] := by rw [hW2]; exact ints_lit [2, 1, 2] (by simp) rfl rfl (by decide)
  have b2 : Below w.heap.size w W2 := by rw [hW2]; exact ((Below.refl _ _).alloc (Nat.le_refl _) _).alloc (by simp) _
  have HC := Lib.hid (gequal_calls 3 _ _ _ _ W2 i1 i2 (by decide) (by decide) (by intro x hx; simp at hx; omega) (by intro x hx; simp at hx; omega) (by decide) (by decide))
  have HW := Lib.hid hW2.symm; have HB := Lib.hid b2; have HNE := Lib.hid hne
  clear hW2 i1 i2 b2 hne
  go_enter Try.func44, Try.ntmps44
  go_wp2_with fail
  rw [HW.out]
  refine HC.out.mono ?_
  rintro e w3 ⟨c, d, rfl, hc, hd, hb⟩
  rw [decide_eq_true (tequal_nf c d hc hd)]
  replace HB := Lib.hid (Below.chain HB.out hb)
  clear hc hd hb HC HW
  obtain ⟨W4, hW4⟩ : ∃ W4, W4 = ((w3.alloc (.cells #[.int .i64 1, .int .i64 2] 3)).alloc (.cells #[.int .i64 2, .int .i64 1] 3)) := ⟨_, rfl⟩
  have i1 : Ints W4 (.slice (some ⟨w3.heap.size, 0, none⟩) 2 2) [1, 2] := by rw [hW4]; exact (ints_lit [1, 2] rfl rfl rfl (by decide)).alloc _
  have i2 : Ints W4 (.slice (some ⟨w3.heap.size + 1, 0, none⟩) 2 2) [2, 1] := by rw [hW4]; exact ints_lit [2, 1] (by simp) rfl rfl (by decide)
  have b4 : Below w3.heap.size w3 W4 := by rw [hW4]; exact ((Below.refl _ _).alloc (Nat.le_refl _) _).alloc (by simp) _
  have HC := Lib.hid (aequal_short 3 _ _ _ _ W4 i1 i2 (by decide) (by decide) (by intro x hx; simp at hx; omega) (by intro x hx; simp at hx; omega) (by decide) (by decide))
  rw [HNE.out] at HC
  have HW := Lib.hid hW4.symm
  replace HB := Lib.hid (Below.chain HB.out b4)
  clear hW4 i1 i2 b4
  go_wp2_with fail
  rw [HW.out]
  refine HC.out.mono ?_
  rintro e w5 ⟨rfl, hb⟩
  replace HB := Lib.hid (Below.chain HB.out hb)
  clear hb
  go_wp2_with fail
  go_ret
  exact ⟨rfl, HB.out⟩

set_option maxHeartbeats 4000000 in
set_option maxRecDepth 100000 in
theorem topFox_true {w0 : World} (n : Int) (hn : I64 n) (a : Value) (as1 : List Int) (hra : Ints w0 a as1) (hxa : ∀ x ∈ as1, I64 x) (w : World) (hw : w = w0 := by rfl) :
    Calls Try.prog 8 #[.int .i64 n, a] w fun e w' => e = .returned (.bool true) ∧ Below w.heap.size w w' := by
  subst hw
  obtain ⟨N, hN⟩ : ∃ N : Nat, 2 + n % (6 - 1) = (N : Int) := ⟨(2 + n % (6 - 1)).toNat, by omega⟩
  have hN1 : 2 ≤ N := by omega
  have hN2 : N ≤ 6 := by omega
  obtain ⟨X, hX⟩ : ∃ X, X = wordL ((N : Int) - 1) as1 6 := ⟨_, rfl⟩
  have WX : BWord (N : Int) X := by rw [hX]; exact wordL_bw (by omega) as1 6
  have LX : X.length ≤ 6 := by rw [hX]; exact wordL_length _ as1 6
  have E4 : (burauM N X).length = N := burauM_length _ _
  have E5 : ∀ i, i < N → nthm (burauM N X) i = rowM N X i := fun i hi => nthm_burauM N X hi
  have E6 : (imagesA N X).length = N := imagesA_len _ _
  have E7 : ∀ j, j < N → IsWord (nthr (imagesA N X) j) := fun j hj => (images_cj hN2 X WX.nword j hj).word (Nat.lt_of_lt_of_le (permB_lt X (fun x h => (WX.nword x h).2) hj) hN2)
  have E8 : ∀ j, j < N → (nthr (imagesA N X) j).length ≤ 729 := fun j hj => image_len LX (by rw [nthr_lt (by rw [E6]; exact hj)]; exact List.getElem_mem _)
  have E9 : ∀ i k, i < N → k < N → foxL ((k : Int) + 1) (nthr (imagesA N X) i) = nthp (rowM N X i) k := fun i k hi hk => fox_burau hN2 WX.nword hi hk
  have HW1 := Lib.hid WX; have HL1 := Lib.hid LX; have HE4 := Lib.hid E4; have HE5 := Lib.hid E5; have HE6 := Lib.hid E6; have HE7 := Lib.hid E7; have HE8 := Lib.hid E8; have HE9 := Lib.hid E9
  have HN := Lib.hid hN; have HX0 := Lib.hid hX.symm; have HXA := Lib.hid hxa; have HRA := Lib.hid hra
  have sa := hra.isSl
  clear WX LX E4 E5 E6 E7 E8 E9 hN hX hxa hra
  go_enter Try.func8, Try.ntmps8
  go_wp2_with fail
  refine (strands_calls n 6 _ hn (by decide) (by decide)).mono ?_
  rintro e w' ⟨rfl, rfl⟩
  rw [HN.out]
  go_wp2_with fail
  refine (word_calls ((N : Int) - 1) a as1 6 _ HRA.out HXA.out (by omega) (by omega) (by omega)).mono ?_
  rintro e u1 ⟨x, rfl, hx, hb⟩
  rw [HX0.out] at hx
  have sx := hx.isSl
  have HX := Lib.hid (hx.ints)
  have HB := Lib.hid hb
  clear hb
  clear hx
  go_wp2_with fail
  refine (images_calls' N _ X _ HX.out hN1 hN2 HW1.out (Nat.le_trans HL1.out (by omega))).mono ?_
  rintro e u2 ⟨u, er, rfl, su, ⟨rfl, h⟩ | ⟨rfl, us, hu⟩, hb⟩
  · exact (not_long6 HL1.out h).elim
  have lu := hu.len
  rw [HE6.out] at lu
  have HU := Lib.hid hu
  replace HX := Lib.hid (HX.out.below hb)
  replace HB := Lib.hid (Below.chain HB.out hb)
  clear hb
  clear hu
  obtain ⟨u1, u2, u3, rfl, -⟩ := su.cases
  go_wp2_with fail
  refine (burau_calls N _ X _ HX.out (by omega) hN2 HW1.out (Nat.le_trans HL1.out (by omega))).mono ?_
  rintro e u3 ⟨m, vs, rfl, hm, hvl, hb⟩
  have sm := hm.isSl
  have hmr := hm.mread (hvl.trans HE4.out.symm)
  have lm := hm.vlen
  rw [hvl] at lm
  have HM := Lib.hid hmr
  clear HX
  replace HU := Lib.hid (HU.out.below hb)
  replace HB := Lib.hid (Below.chain HB.out hb)
  clear hb
  clear hm hvl hmr
  go_wp2_with fail
  refine (tequal_calls _).mono ?_
  rintro e u4 ⟨rfl, hb⟩
  replace HU := Lib.hid (HU.out.below hb)
  replace HM := Lib.hid (HM.out.below hb)
  replace HB := Lib.hid (Below.chain HB.out hb)
  clear hb
  obtain ⟨m1, m2, m3, rfl, -⟩ := sm.cases
  go_wp2_with fail
  go_loopw [57] (fun i wr => ∃ k : Nat, k ≤ N ∧ i = .int .i64 k ∧ Below u4.heap.size u4 wr) (fun i _ => N - (intOf i).toNat)
  case atStart => exact ⟨0, by omega, rfl, Below.refl _ _⟩
  case round =>
    rename World => Wo
    obtain ⟨i, hi, rfl, hb⟩ := hrel
    by_cases hlt : i < N
    · have hur := HU.out.below hb
      have c1 := hur.cell (i := i) (by rw [HE6.out]; exact hlt)
      have r1 := hur.row (i := i) (by rw [HE6.out]; exact hlt)
      have s1 := r1.isSl
      have l1 := r1.len
      obtain ⟨q, hq⟩ : ∃ q, nthv us i = q := ⟨_, rfl⟩
      rw [hq] at c1 r1 s1 l1
      obtain ⟨len, hlen⟩ : ∃ len, (nthr (imagesA N X) i).length = len := ⟨_, rfl⟩
      have hlen9 : len ≤ 729 := by rw [← hlen]; exact HE8.out i hlt
      rw [hlen] at l1
      have HLEN := Lib.hid hlen; have HR1 := Lib.hid r1
      have hmr := HM.out.below hb
      have HMR := Lib.hid hmr; have HB2 := Lib.hid hb
      clear r1 hur hlen hq hmr hb
      go_wp2_with fail
      clear c1
      obtain ⟨q1, q2, q3, rfl, -⟩ := s1.cases
      go_loopw [63] (fun j wi => ∃ k : Nat, k ≤ N ∧ j = .int .i64 k ∧ Below Wo.heap.size Wo wi) (fun j _ => N - (intOf j).toNat)
      case atStart => exact ⟨0, by omega, rfl, Below.refl _ _⟩
      case round =>
        obtain ⟨k, hk, rfl, hb⟩ := hrel
        by_cases hlk : k < N
        · have hwr : IntKind.i64.wrap ((k : Int) + 1) = (k : Int) + 1 := IntWalk.i64_in _ ⟨by omega, by omega⟩
          have HRW := Lib.hid (HR1.out.below hb)
          have HBI := Lib.hid hb
          clear hb
          by_cases hbig : 60 < len
          · have hg : (len : Int) > 60 := by omega
            go_wp2_with fail
            refine (derivative_long _ _ _ _ HRW.out (by rw [HLEN.out]; exact hbig)).mono ?_
            rintro e w5 ⟨rfl, hb⟩
            have HB5 := Lib.hid (Below.chain HBI.out (Below.chain hb ((Below.refl _ _).alloc (Nat.le_refl _) (.cells #[.int .i64 0, .slice none 0 0] 27))))
            clear hb
            go_wp2_with fail
            go_roundw
            case rel => exact ⟨k + 1, by omega, by go_num, HB5.out⟩
            case measure => simp [intOf]; omega
          · have hg : ¬ (len : Int) > 60 := by omega
            go_wp2_with fail
            refine (derivative_calls _ _ _ _ HRW.out (HE7.out i hlt) (by rw [HLEN.out]; omega) (by omega) (by omega)).mono ?_
            rintro e w5 ⟨p, rfl, hp, hb⟩
            rw [HE9.out i k hlt hlk] at hp ⊢
            have sp := hp.isSl
            obtain ⟨W6, hW6⟩ : ∃ W6, W6 = w5.alloc (.cells #[.int .i64 (nthp (rowM N X i) k).low, p] 27) := ⟨_, rfl⟩
            have b6 : Below w5.heap.size w5 W6 := by rw [hW6]; exact (Below.refl _ _).alloc (Nat.le_refl _) _
            have pr : Pair W6 w5.heap.size 27 (.int .i64 (nthp (rowM N X i) k).low) p := by rw [hW6]; exact pair_new _ _ _ _
            have HP6 := Lib.hid (hp.ints.below b6)
            have hb6 := Below.chain HBI.out (Below.chain hb b6)
            have hmr := HMR.out.below hb6
            have cm := hmr.cell (i := i) (by rw [HE4.out]; exact hlt)
            obtain ⟨rs, hrs⟩ := hmr.row i (by rw [HE4.out]; exact hlt)
            rw [HE5.out i hlt] at hrs
            have sr := hrs.isSl
            have lr := hrs.vlen
            rw [rowM_length] at lr
            have hkr : k < (rowM N X i).length := by rw [rowM_length]; exact hlk
            have e0 := hrs.low hkr; have e1 := hrs.c hkr
            have he := hrs.each k hkr
            have se := he.isSl
            have p0 := pr.cell0; have p1 := pr.cell1
            have HE6' := Lib.hid he; have HB6 := Lib.hid hb6
            have HW6 := Lib.hid hW6.symm
            clear hp hb b6 hb6 hmr hrs hkr he hW6 pr
            go_wp2_with fail
            rw [HW6.out]
            go_region_held3 (fun w' => w'.cell? ⟨w5.heap.size, 0, none⟩ = some (.int .i64 (nthp (rowM N X i) k).low) ∧ w'.cell? ⟨w5.heap.size, 1, none⟩ = some p ∧ w'.cell? (vat (.slice m1 m2 m3) i) = some (nthv vs i) ∧ w'.cell? (vat (nthv vs i) (k * 2)) = some (.int .i64 (nthp (rowM N X i) k).low) ∧ w'.cell? (vat (nthv vs i) (k * 2 + 1)) = some (nthv rs k)) (first | exact ⟨p0, p1, cm, e0, e1⟩ | exact ⟨k0, k1, k2, k3, k4⟩)
              (first
                | (go_at_call 46; refine (tsame_yes (nthp (rowM N X i) k) (nthp (rowM N X i) k) p (nthv rs k) _ (HP6.out.below (Below.refl _ _).drew) (HE6'.out.below (Below.refl _ _).drew) rfl).mono ?_; rintro e w' ⟨rfl, hb⟩; have hbd := Below.chain (Below.refl W6.heap.size W6).drew hb; have k0 := (hbd.cell (World.block_lt_of_cell? W6 _ p0)).trans p0; have k1 := (hbd.cell (World.block_lt_of_cell? W6 _ p1)).trans p1; have k2 := (hbd.cell (World.block_lt_of_cell? W6 _ cm)).trans cm; have k3 := (hbd.cell (World.block_lt_of_cell? W6 _ e0)).trans e0; have k4 := (hbd.cell (World.block_lt_of_cell? W6 _ e1)).trans e1; have HB7 := Lib.hid (Below.chain HB6.out hbd); clear hb hbd)
                | fail "arm")
            all_goals
              go_wp2_with fail
              go_roundw
              case rel => exact ⟨k + 1, by omega, by go_num, HB7.out⟩
              case measure => simp [intOf]; omega
        · have HBI := Lib.hid (Below.chain HB2.out hb)
          clear hb
          go_wp2_with fail
          go_roundw
          case rel => exact ⟨i + 1, by omega, by go_num, HBI.out⟩
          case measure => simp [intOf]; omega
    · have HBI := Lib.hid (Below.chain HB.out hb)
      clear hb
      go_wp2_with fail
      go_ret
      exact ⟨rfl, HBI.out⟩

end Go.Proofs.Ytmcecmnbdcbehaa

