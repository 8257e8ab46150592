/- PolyValues: for every input the statement returns true, and nothing that was there has changed. -/
import Derived.Test.YtkimbhmijgfhnaaNormal
import Derived.Test.YtkimbhmijgfhnaaPolyBound
import Derived.Test.YtkimbhmijgfhnaaLive
import Derived.Deep.RegionHeld3
namespace Go.Proofs.Ytkimbhmijgfhnaa
open Go.RowKit Go.Sl

theorem i64_and1 (n : Int) : bits .and .i64 n 1 = n % 2 := by
  have h1 : (BitVec.ofInt 64 1).toNat = 2 ^ 1 - 1 := by decide
  have key : (BitVec.ofInt 64 n &&& BitVec.ofInt 64 1).toNat = (n % ((2 ^ 64 : Nat) : Int)).toNat % 2 ^ 1 := by
    rw [BitVec.toNat_and, BitVec.toNat_ofInt, h1, Nat.and_two_pow_sub_one_eq_mod]
  show IntKind.i64.wrap ((BitVec.ofInt 64 n &&& BitVec.ofInt 64 1).toNat : Nat) = n % 2
  rw [key, IntKind.wrap_i64]
  omega

set_option maxHeartbeats 4000000 in
set_option maxRecDepth 100000 in
theorem polyValues_true {w0 : World} (i : Int) (hi : I64 i) (j : Int) (hj : I64 j) (a : Value) (as1 : List Int) (hra : Ints w0 a as1) (hxa : ∀ x ∈ as1, I64 x) (b : Value) (bs : List Int) (hrb : Ints w0 b bs) (hxb : ∀ x ∈ bs, I64 x) (unit : Int) (hu : I64 unit)
    (w : World) (hw : w = w0 := by rfl) :
    Calls Try.prog 5 #[.int .i64 i, .int .i64 j, a, b, .int .i64 unit] w fun e w' => e = .returned (.bool true) ∧ Below w.heap.size w w' := by
  subst hw
  have HB : Below w.heap.size w w := Below.refl _ _
  obtain ⟨X, hX⟩ : ∃ X, X = polyL i as1 := ⟨_, rfl⟩
  obtain ⟨Y, hY⟩ : ∃ Y, Y = polyL j bs := ⟨_, rfl⟩
  have BX := Lib.hid (show PB X (-10) 22 600 50 from hX ▸ polyL_pb i as1)
  have BY := Lib.hid (show PB Y (-10) 22 600 50 from hY ▸ polyL_pb j bs)
  obtain ⟨E, hE⟩ : ∃ E, unit % 41 = E := ⟨_, rfl⟩
  have hE1 : 0 ≤ E := by omega
  have hE2 : E < 41 := by omega
  have EX := Lib.hid hX; have EY := Lib.hid hY; have HE := Lib.hid hE
  have HXa := Lib.hid hxa; have HXb := Lib.hid hxb
  clear hX hY hE hxa hxb
  go_enter Try.func5, Try.ntmps5
  go_wp2_with fail
  refine (makepoly_calls i a as1 _ hi hra HXa.out).mono ?_
  rw [← EX.out]
  rintro e u1 ⟨x, rfl, hx, hb1⟩
  replace hra := hra.below hb1
  replace hrb := hrb.below hb1
  replace HB := Below.chain HB hb1; clear hb1
  have s_hx := hx.isSl
  go_wp2_with fail
  refine (makepoly_calls j b bs _ hj hrb HXb.out).mono ?_
  rw [← EY.out]
  rintro e u2 ⟨y, rfl, hy, hb2⟩
  replace hra := hra.below hb2
  replace hrb := hrb.below hb2
  replace hx := hx.below hb2
  replace HB := Below.chain HB hb2; clear hb2
  have s_hy := hy.isSl
  clear hra hrb
  obtain ⟨ax, nx, cx, rfl, -⟩ := hx.isSl.cases
  obtain ⟨ay, ny, cy, rfl, -⟩ := hy.isSl.cases
  obtain ⟨v30, hv30⟩ : ∃ v30, v30 = (u2.alloc (.cells #[.int .i64 X.low, (.slice ax nx cx)] 24)).alloc (.cells #[.int .i64 Y.low, (.slice ay ny cy)] 24) := ⟨_, rfl⟩
  obtain ⟨px, py, hw30, hz30⟩ := two _ _ _ _ _ _ _ hv30; clear hz30
  replace hx := hx.below hw30
  replace hy := hy.below hw30
  replace HB := Below.chain HB hw30; clear hw30
  have HV30 := Lib.hid hv30.symm; clear hv30
  have szv : v30.heap.size = u2.heap.size + 1 + 1 := by rw [← HV30.out]; simp
  obtain ⟨V, hV⟩ : ∃ V, V = v30.alloc (.cells #[.int .i64 1, .int .i64 (-1)] 3) := ⟨_, rfl⟩
  have hlit : Ints V (.slice (some ⟨u2.heap.size + 1 + 1, 0, none⟩) 2 2) [1, -1] := by rw [hV]; exact ints_lit [1, -1] szv.symm rfl rfl (by decide)
  have hwV : Below v30.heap.size v30 V := by rw [hV]; exact (Below.refl _ _).alloc (Nat.le_refl _) _
  replace hx := hx.below hwV; replace hy := hy.below hwV; replace px := px.below hwV; replace py := py.below hwV; replace HB := Below.chain HB hwV
  have HV := Lib.hid hV.symm
  have HX9 := Lib.hid hx; have HY9 := Lib.hid hy; have PX9 := Lib.hid px; have PY9 := Lib.hid py; have HB9 := Lib.hid HB; have HLIT := Lib.hid hlit
  have KX : POk X := PB.ok BX.out (by omega) (by omega) (by omega) (by omega) (by decide) (by decide)
  have KY : POk Y := PB.ok BY.out (by omega) (by omega) (by omega) (by omega) (by decide) (by decide)
  have KXY : POk (pmul X Y) := PB.ok (BX.out.mul BY.out) (by omega) (by omega) (by omega) (by omega) (by decide) (by decide)
  have HAX := Lib.hid (show ∀ z, (atR z X.low X.c).natAbs ≤ 600 from fun z => Nat.le_trans (atR_le z X.c X.low) BX.out.sum)
  have HAY := Lib.hid (show ∀ z, (atR z Y.low Y.c).natAbs ≤ 600 from fun z => Nat.le_trans (atR_le z Y.c Y.low) BY.out.sum)
  have HMUL := Lib.hid (fun (z : Int) (h : z = 1 ∨ z = -1) => atR_pmul X Y h)
  clear hwV hV hx hy px py HB hlit szv
  go_wp2_with fail
  rw [HV30.out, HV.out]
  go_loopw [42] (fun j wr => ∃ k : Nat, k ≤ 2 ∧ j = .int .i64 k ∧ Below V.heap.size V wr) (fun j _ => 2 - (intOf j).toNat)
  case atStart => exact ⟨0, by omega, rfl, Below.refl _ _⟩
  case round =>
    obtain ⟨k, hk, rfl, hbr⟩ := hrel
    have hx := HX9.out.below hbr; have hy := HY9.out.below hbr; have px := PX9.out.below hbr; have py := PY9.out.below hbr
    have c0 := px.cell0; have c1 := px.cell1; have d0 := py.cell0; have d1 := py.cell1
    have HBR := Lib.hid hbr
    by_cases hlt : k < 2
    · have e1 := (HLIT.out.below hbr).cell (k := k) hlt
      obtain ⟨z, hz⟩ : ∃ z, nth [1, -1] k = z := ⟨_, rfl⟩
      have hz2 : z = 1 ∨ z = -1 := by
        have : k = 0 ∨ k = 1 := by omega
        rcases this with rfl | rfl
        · left; rw [← hz]; rfl
        · right; rw [← hz]; rfl
      rw [hz, vat_mk, Nat.zero_add] at e1
      have HZ2 := Lib.hid hz2
      clear hz hz2 hbr
      go_wp2_with fail
      refine (eval_calls X _ z _ hx KX HZ2.out).mono ?_
      rintro e u3 ⟨rfl, hb⟩
      replace hx := hx.below hb; replace hy := hy.below hb; replace px := px.below hb; replace py := py.below hb
      replace HBR := Lib.hid (Below.chain HBR.out hb); clear hb
      replace c0 := px.cell0; replace c1 := px.cell1; replace d0 := py.cell0; replace d1 := py.cell1
      go_wp2_with fail
      refine (eval_calls Y _ z _ hy KY HZ2.out).mono ?_
      rintro e u4 ⟨rfl, hb⟩
      replace hx := hx.below hb; replace hy := hy.below hb; replace px := px.below hb; replace py := py.below hb
      replace HBR := Lib.hid (Below.chain HBR.out hb); clear hb
      replace c0 := px.cell0; replace c1 := px.cell1; replace d0 := py.cell0; replace d1 := py.cell1
      go_wp2_with fail
      refine (mulK_calls X Y _ _ _ hx hy KX KY KXY).mono ?_
      rintro e u5 ⟨mv, rfl, hm, hb⟩
      replace HBR := Lib.hid (Below.chain HBR.out hb); clear hb
      have sm := hm.isSl
      go_wp2_with fail
      refine (eval_calls (pmul X Y) _ z _ hm.ints KXY HZ2.out).mono ?_
      rintro e u6 ⟨rfl, hb⟩
      replace HBR := Lib.hid (Below.chain HBR.out hb); clear hb
      have hp := HAX.out z; have hq := HAY.out z; have hpq := HMUL.out z HZ2.out
      obtain ⟨P, hP⟩ : ∃ P, atR z X.low X.c = P := ⟨_, rfl⟩
      obtain ⟨Q, hQ⟩ : ∃ Q, atR z Y.low Y.c = Q := ⟨_, rfl⟩
      obtain ⟨R, hR⟩ : ∃ R, atR z (pmul X Y).low (pmul X Y).c = R := ⟨_, rfl⟩
      rw [hP, hQ, hR] at hpq
      rw [hP] at hp
      rw [hQ] at hq
      rw [hP, hQ, hR]
      have hb := Nat.mul_le_mul hp hq
      rw [← Int.natAbs_mul] at hb
      have hw1 : wrap64 (P * Q) = R := by rw [← hpq] at hb; rw [← hpq]; unfold wrap64; omega
      have hw2 : IntKind.i64.wrap (P * Q) = R := by rw [← hpq] at hb; rw [← hpq]; exact IntWalk.i64_in _ (by omega)
      clear hb hp hq hpq hP hQ hR
      go_wp2_with fail
      go_roundw
      case rel => exact ⟨k + 1, by omega, by go_num, HBR.out⟩
      case measure => simp [intOf]; omega
    · have HB := Below.chain HB9.out hbr
      clear hbr HBR HX9 HY9 PX9 PY9 HB9 HLIT HAX HAY HMUL c0 c1 d0 d1
      have c0_px := px.cell0; have c1_px := px.cell1; have l_px := px.lt
      have c0_py := py.cell0; have c1_py := py.cell1; have l_py := py.lt
      have LX := BX.out.tr
      have wX := BX.out.wi; have wY := BY.out.wi; have wXY := (BX.out.mul BY.out).wi
      have sX := BX.out.sum; have sY := BY.out.sum; have sXY := (BX.out.mul BY.out).sum
      have KCX : POk (pconj X) := POk.of (pconj_trimmed _) (within_pconj wX) (by omega) (by omega) (by omega) (by omega) (Nat.le_trans (n1_pconj X) (by omega))
      have KCY : POk (pconj Y) := POk.of (pconj_trimmed _) (within_pconj wY) (by omega) (by omega) (by omega) (by omega) (Nat.le_trans (n1_pconj Y) (by omega))
      have KCXY : POk (pconj (pmul X Y)) := POk.of (pconj_trimmed _) (within_pconj wXY) (by omega) (by omega) (by omega) (by omega) (Nat.le_trans (n1_pconj _) (by omega))
      have KCC : POk (pconj (pconj X)) := by rw [pconj_pconj LX]; exact KX
      have KCM : POk (pmul (pconj X) (pconj Y)) := by rw [← pconj_pmul]; exact KCXY
      clear wX wY wXY sX sY sXY LX
      go_wp2_with fail
      refine (conjugate_calls X _ _ hx KX KCX).mono ?_
      rintro e u41 ⟨cv, rfl, hc0, hb41⟩
      replace hx := hx.below hb41
      replace hy := hy.below hb41
      replace px := px.below hb41
      replace py := py.below hb41
      replace HB := Below.chain HB hb41; clear hb41
      have hc := hc0.ints
      have s_hc := hc.isSl
      have c0_px := px.cell0; have c1_px := px.cell1; have l_px := px.lt
      have c0_py := py.cell0; have c1_py := py.cell1; have l_py := py.lt
      obtain ⟨v41, hv41⟩ : ∃ v41, v41 = u41.alloc (.cells #[.int .i64 (pconj X).low, cv] 24) := ⟨_, rfl⟩
      have pc : Pair v41 u41.heap.size 24 (.int .i64 (pconj X).low) cv := by rw [hv41]; exact pair_new _ _ _ _
      have hw41 : Below u41.heap.size u41 v41 := by rw [hv41]; exact (Below.refl _ _).alloc (Nat.le_refl _) _
      replace hx := hx.below hw41
      replace hy := hy.below hw41
      replace hc := hc.below hw41
      replace px := px.below hw41
      replace py := py.below hw41
      replace HB := Below.chain HB hw41; clear hw41
      have HV41 := Lib.hid hv41.symm; clear hv41
      clear hc0
      go_wp2_with fail
      rw [HV41.out]
      refine (conjugate_calls Y _ _ hy KY KCY).mono ?_
      rintro e u42 ⟨dv, rfl, hd0, hb42⟩
      replace hx := hx.below hb42
      replace hy := hy.below hb42
      replace hc := hc.below hb42
      replace px := px.below hb42
      replace py := py.below hb42
      replace pc := pc.below hb42
      replace HB := Below.chain HB hb42; clear hb42
      have hd := hd0.ints
      have s_hd := hd.isSl
      have c0_px := px.cell0; have c1_px := px.cell1; have l_px := px.lt
      have c0_py := py.cell0; have c1_py := py.cell1; have l_py := py.lt
      have c0_pc := pc.cell0; have c1_pc := pc.cell1; have l_pc := pc.lt
      obtain ⟨v42, hv42⟩ : ∃ v42, v42 = u42.alloc (.cells #[.int .i64 (pconj Y).low, dv] 24) := ⟨_, rfl⟩
      have pd : Pair v42 u42.heap.size 24 (.int .i64 (pconj Y).low) dv := by rw [hv42]; exact pair_new _ _ _ _
      have hw42 : Below u42.heap.size u42 v42 := by rw [hv42]; exact (Below.refl _ _).alloc (Nat.le_refl _) _
      replace hx := hx.below hw42
      replace hy := hy.below hw42
      replace hc := hc.below hw42
      replace hd := hd.below hw42
      replace px := px.below hw42
      replace py := py.below hw42
      replace pc := pc.below hw42
      replace HB := Below.chain HB hw42; clear hw42
      have HV42 := Lib.hid hv42.symm; clear hv42
      clear hd0
      go_wp2_with fail
      rw [HV42.out]
      refine (mulK_calls X Y _ _ _ hx hy KX KY KXY).mono ?_
      rintro e u43 ⟨mv, rfl, hm0, hb43⟩
      replace hx := hx.below hb43
      replace hy := hy.below hb43
      replace hc := hc.below hb43
      replace hd := hd.below hb43
      replace px := px.below hb43
      replace py := py.below hb43
      replace pc := pc.below hb43
      replace pd := pd.below hb43
      replace HB := Below.chain HB hb43; clear hb43
      have hm := hm0.ints
      have s_hm := hm.isSl
      have c0_px := px.cell0; have c1_px := px.cell1; have l_px := px.lt
      have c0_py := py.cell0; have c1_py := py.cell1; have l_py := py.lt
      have c0_pc := pc.cell0; have c1_pc := pc.cell1; have l_pc := pc.lt
      have c0_pd := pd.cell0; have c1_pd := pd.cell1; have l_pd := pd.lt
      clear hm0
      go_wp2_with fail
      refine (conjugate_calls (pmul X Y) _ _ hm KXY KCXY).mono ?_
      rintro e u44 ⟨ev, rfl, he0, hb44⟩
      replace hx := hx.below hb44
      replace hy := hy.below hb44
      replace hc := hc.below hb44
      replace hd := hd.below hb44
      replace hm := hm.below hb44
      replace px := px.below hb44
      replace py := py.below hb44
      replace pc := pc.below hb44
      replace pd := pd.below hb44
      replace HB := Below.chain HB hb44; clear hb44
      have he := he0.ints
      have s_he := he.isSl
      have c0_px := px.cell0; have c1_px := px.cell1; have l_px := px.lt
      have c0_py := py.cell0; have c1_py := py.cell1; have l_py := py.lt
      have c0_pc := pc.cell0; have c1_pc := pc.cell1; have l_pc := pc.lt
      have c0_pd := pd.cell0; have c1_pd := pd.cell1; have l_pd := pd.lt
      obtain ⟨v44, hv44⟩ : ∃ v44, v44 = u44.alloc (.cells #[.int .i64 (pconj (pmul X Y)).low, ev] 24) := ⟨_, rfl⟩
      have pe : Pair v44 u44.heap.size 24 (.int .i64 (pconj (pmul X Y)).low) ev := by rw [hv44]; exact pair_new _ _ _ _
      have hw44 : Below u44.heap.size u44 v44 := by rw [hv44]; exact (Below.refl _ _).alloc (Nat.le_refl _) _
      replace hx := hx.below hw44
      replace hy := hy.below hw44
      replace hc := hc.below hw44
      replace hd := hd.below hw44
      replace hm := hm.below hw44
      replace he := he.below hw44
      replace px := px.below hw44
      replace py := py.below hw44
      replace pc := pc.below hw44
      replace pd := pd.below hw44
      replace HB := Below.chain HB hw44; clear hw44
      have HV44 := Lib.hid hv44.symm; clear hv44
      clear he0 hm
      go_wp2_with fail
      rw [HV44.out]
      refine (conjugate_calls (pconj X) _ _ hc KCX KCC).mono ?_
      rintro e u45 ⟨bv, rfl, hbk0, hb45⟩
      replace hx := hx.below hb45
      replace hy := hy.below hb45
      replace hc := hc.below hb45
      replace hd := hd.below hb45
      replace he := he.below hb45
      replace px := px.below hb45
      replace py := py.below hb45
      replace pc := pc.below hb45
      replace pd := pd.below hb45
      replace pe := pe.below hb45
      replace HB := Below.chain HB hb45; clear hb45
      have hbk := hbk0.ints
      have s_hbk := hbk.isSl
      have c0_px := px.cell0; have c1_px := px.cell1; have l_px := px.lt
      have c0_py := py.cell0; have c1_py := py.cell1; have l_py := py.lt
      have c0_pc := pc.cell0; have c1_pc := pc.cell1; have l_pc := pc.lt
      have c0_pd := pd.cell0; have c1_pd := pd.cell1; have l_pd := pd.lt
      have c0_pe := pe.cell0; have c1_pe := pe.cell1; have l_pe := pe.lt
      obtain ⟨v45, hv45⟩ : ∃ v45, v45 = u45.alloc (.cells #[.int .i64 (pconj (pconj X)).low, bv] 24) := ⟨_, rfl⟩
      have pb : Pair v45 u45.heap.size 24 (.int .i64 (pconj (pconj X)).low) bv := by rw [hv45]; exact pair_new _ _ _ _
      have hw45 : Below u45.heap.size u45 v45 := by rw [hv45]; exact (Below.refl _ _).alloc (Nat.le_refl _) _
      replace hx := hx.below hw45
      replace hy := hy.below hw45
      replace hc := hc.below hw45
      replace hd := hd.below hw45
      replace he := he.below hw45
      replace hbk := hbk.below hw45
      replace px := px.below hw45
      replace py := py.below hw45
      replace pc := pc.below hw45
      replace pd := pd.below hw45
      replace pe := pe.below hw45
      replace HB := Below.chain HB hw45; clear hw45
      have HV45 := Lib.hid hv45.symm; clear hv45
      clear hbk0
      go_wp2_with fail
      rw [HV45.out]
      refine (below_calls unit 41 _ (by decide) (by decide) hu).mono ?_
      rintro e w' ⟨rfl, rfl⟩
      rw [HE.out]
      have c0_px := px.cell0; have c1_px := px.cell1; have l_px := px.lt
      have c0_py := py.cell0; have c1_py := py.cell1; have l_py := py.lt
      have c0_pc := pc.cell0; have c1_pc := pc.cell1; have l_pc := pc.lt
      have c0_pd := pd.cell0; have c1_pd := pd.cell1; have l_pd := pd.lt
      have c0_pe := pe.cell0; have c1_pe := pe.cell1; have l_pe := pe.lt
      have c0_pb := pb.cell0; have c1_pb := pb.cell1; have l_pb := pb.lt
      obtain ⟨B, hB⟩ : ∃ B, unit % 2 = B := ⟨_, rfl⟩
      have hbits : bits BinOp.and IntKind.i64 unit 1 = B := by rw [i64_and1, hB]
      have hB0 : 0 ≤ B := by omega
      have hB1 : B ≤ 1 := by omega
      obtain ⟨U, hU⟩ : ∃ U : LP, U = ⟨E - 20, [1 - 2 * B]⟩ := ⟨_, rfl⟩
      obtain ⟨U1, hU1⟩ : ∃ U1, U1 = v45.alloc (.cells #[.int .i64 (1 - 2 * B)] 3) := ⟨_, rfl⟩
      have hul : Ints U1 (.slice (some ⟨v45.heap.size, 0, none⟩) 1 1) U.c := by rw [hU1, hU]; exact ints_lit [1 - 2 * B] rfl rfl rfl (by simp)
      have hw1 : Below v45.heap.size v45 U1 := by rw [hU1]; exact (Below.refl _ _).alloc (Nat.le_refl _) _
      have szU1 : U1.heap.size = v45.heap.size + 1 := by rw [hU1]; simp
      obtain ⟨U2, hU2⟩ : ∃ U2, U2 = U1.alloc (.cells #[.int .i64 U.low, .slice (some ⟨v45.heap.size, 0, none⟩) 1 1] 24) := ⟨_, rfl⟩
      have pu : Pair U2 (v45.heap.size + 1) 24 (.int .i64 U.low) (.slice (some ⟨v45.heap.size, 0, none⟩) 1 1) := by rw [hU2, ← szU1]; exact pair_new _ _ _ _
      have hw2 : Below U1.heap.size U1 U2 := by rw [hU2]; exact (Below.refl _ _).alloc (Nat.le_refl _) _
      replace hul := hul.below hw2
      have hw := Below.chain hw1 hw2
      replace hx := hx.below hw
      replace hy := hy.below hw
      replace hc := hc.below hw
      replace hd := hd.below hw
      replace he := he.below hw
      replace hbk := hbk.below hw
      replace px := px.below hw
      replace py := py.below hw
      replace pc := pc.below hw
      replace pd := pd.below hw
      replace pe := pe.below hw
      replace pb := pb.below hw
      replace HB := Below.chain HB hw
      have HUU := Lib.hid (show (v45.alloc (.cells #[.int .i64 (1 - 2 * B)] 3)).alloc (.cells #[.int .i64 (E - 20), .slice (some ⟨v45.heap.size, 0, none⟩) 1 1] 24) = U2 by rw [hU2, hU1, hU])
      have KU : POk U := by
        rw [hU]
        refine ⟨by simp, by show -1000 ≤ E - 20; omega, by show E - 20 ≤ 1000; omega, ⟨fun h => by simp at h, fun _ => by simp [nth]; omega, fun _ => by simp [nth]; omega⟩, ⟨by simp [n1]; omega, fun x hx => by simp at hx; subst hx; omega⟩⟩
      have dU : PB U (-20) 22 1 1 := by
        rw [hU]
        exact ⟨⟨fun h => by simp at h, fun _ => by simp [nth]; omega, fun _ => by simp [nth]; omega⟩, .inr ⟨by show -20 ≤ E - 20; omega, by show E - 20 + ((1 : Nat) : Int) ≤ 22; omega⟩, by simp [n1]; omega, fun x hx => by simp at hx; subst hx; omega⟩
      have KXU : POk (pmul X U) := PB.ok (BX.out.mul dU) (by omega) (by omega) (by omega) (by omega) (by decide) (by decide)
      have HNU := Lib.hid (show pnorm X = pnorm (pmul X U) by rw [hU]; exact (pnorm_unit BX.out.tr (by omega)).symm)
      have HCM := Lib.hid (pconj_pmul X Y)
      have HCC := Lib.hid (pconj_pconj BX.out.tr)
      have HUE := Lib.hid hU
      have s_ul := hul.isSl
      clear hw hw1 hw2 hU hU1 hU2 szU1 dU hB
      go_wp2_with fail
      rw [HUU.out]
      refine (normalize_calls X _ _ hx KX).mono ?_
      rintro e u46 ⟨nv, rfl, hn0, hb46⟩
      replace hx := hx.below hb46
      replace hy := hy.below hb46
      replace hc := hc.below hb46
      replace hd := hd.below hb46
      replace he := he.below hb46
      replace hbk := hbk.below hb46
      replace hul := hul.below hb46
      replace px := px.below hb46
      replace py := py.below hb46
      replace pc := pc.below hb46
      replace pd := pd.below hb46
      replace pe := pe.below hb46
      replace pb := pb.below hb46
      replace pu := pu.below hb46
      replace HB := Below.chain HB hb46; clear hb46
      have hn := hn0.ints
      have s_hn := hn.isSl
      have c0_px := px.cell0; have c1_px := px.cell1; have l_px := px.lt
      have c0_py := py.cell0; have c1_py := py.cell1; have l_py := py.lt
      have c0_pc := pc.cell0; have c1_pc := pc.cell1; have l_pc := pc.lt
      have c0_pd := pd.cell0; have c1_pd := pd.cell1; have l_pd := pd.lt
      have c0_pe := pe.cell0; have c1_pe := pe.cell1; have l_pe := pe.lt
      have c0_pb := pb.cell0; have c1_pb := pb.cell1; have l_pb := pb.lt
      have c0_pu := pu.cell0; have c1_pu := pu.cell1; have l_pu := pu.lt
      obtain ⟨v46, hv46⟩ : ∃ v46, v46 = u46.alloc (.cells #[.int .i64 (pnorm X).low, nv] 24) := ⟨_, rfl⟩
      have pn : Pair v46 u46.heap.size 24 (.int .i64 (pnorm X).low) nv := by rw [hv46]; exact pair_new _ _ _ _
      have hw46 : Below u46.heap.size u46 v46 := by rw [hv46]; exact (Below.refl _ _).alloc (Nat.le_refl _) _
      replace hx := hx.below hw46
      replace hy := hy.below hw46
      replace hc := hc.below hw46
      replace hd := hd.below hw46
      replace he := he.below hw46
      replace hbk := hbk.below hw46
      replace hul := hul.below hw46
      replace hn := hn.below hw46
      replace px := px.below hw46
      replace py := py.below hw46
      replace pc := pc.below hw46
      replace pd := pd.below hw46
      replace pe := pe.below hw46
      replace pb := pb.below hw46
      replace pu := pu.below hw46
      replace HB := Below.chain HB hw46; clear hw46
      have HV46 := Lib.hid hv46.symm; clear hv46
      clear hn0 hbits
      go_wp2_with fail
      rw [HV46.out]
      refine (mulK_calls X U _ _ _ hx hul KX KU KXU).mono ?_
      rintro e u47 ⟨xv, rfl, hxu0, hb47⟩
      replace hx := hx.below hb47
      replace hy := hy.below hb47
      replace hc := hc.below hb47
      replace hd := hd.below hb47
      replace he := he.below hb47
      replace hbk := hbk.below hb47
      replace hul := hul.below hb47
      replace hn := hn.below hb47
      replace px := px.below hb47
      replace py := py.below hb47
      replace pc := pc.below hb47
      replace pd := pd.below hb47
      replace pe := pe.below hb47
      replace pb := pb.below hb47
      replace pu := pu.below hb47
      replace pn := pn.below hb47
      replace HB := Below.chain HB hb47; clear hb47
      have hxu := hxu0.ints
      have s_hxu := hxu.isSl
      have c0_px := px.cell0; have c1_px := px.cell1; have l_px := px.lt
      have c0_py := py.cell0; have c1_py := py.cell1; have l_py := py.lt
      have c0_pc := pc.cell0; have c1_pc := pc.cell1; have l_pc := pc.lt
      have c0_pd := pd.cell0; have c1_pd := pd.cell1; have l_pd := pd.lt
      have c0_pe := pe.cell0; have c1_pe := pe.cell1; have l_pe := pe.lt
      have c0_pb := pb.cell0; have c1_pb := pb.cell1; have l_pb := pb.lt
      have c0_pu := pu.cell0; have c1_pu := pu.cell1; have l_pu := pu.lt
      have c0_pn := pn.cell0; have c1_pn := pn.cell1; have l_pn := pn.lt
      clear hxu0
      go_wp2_with fail
      refine (normalize_calls (pmul X U) _ _ hxu KXU).mono ?_
      rintro e u48 ⟨ov, rfl, ho0, hb48⟩
      replace hx := hx.below hb48
      replace hy := hy.below hb48
      replace hc := hc.below hb48
      replace hd := hd.below hb48
      replace he := he.below hb48
      replace hbk := hbk.below hb48
      replace hul := hul.below hb48
      replace hn := hn.below hb48
      replace hxu := hxu.below hb48
      replace px := px.below hb48
      replace py := py.below hb48
      replace pc := pc.below hb48
      replace pd := pd.below hb48
      replace pe := pe.below hb48
      replace pb := pb.below hb48
      replace pu := pu.below hb48
      replace pn := pn.below hb48
      replace HB := Below.chain HB hb48; clear hb48
      have ho := ho0.ints
      have s_ho := ho.isSl
      have c0_px := px.cell0; have c1_px := px.cell1; have l_px := px.lt
      have c0_py := py.cell0; have c1_py := py.cell1; have l_py := py.lt
      have c0_pc := pc.cell0; have c1_pc := pc.cell1; have l_pc := pc.lt
      have c0_pd := pd.cell0; have c1_pd := pd.cell1; have l_pd := pd.lt
      have c0_pe := pe.cell0; have c1_pe := pe.cell1; have l_pe := pe.lt
      have c0_pb := pb.cell0; have c1_pb := pb.cell1; have l_pb := pb.lt
      have c0_pu := pu.cell0; have c1_pu := pu.cell1; have l_pu := pu.lt
      have c0_pn := pn.cell0; have c1_pn := pn.cell1; have l_pn := pn.lt
      obtain ⟨v48, hv48⟩ : ∃ v48, v48 = u48.alloc (.cells #[.int .i64 (pnorm (pmul X U)).low, ov] 24) := ⟨_, rfl⟩
      have po : Pair v48 u48.heap.size 24 (.int .i64 (pnorm (pmul X U)).low) ov := by rw [hv48]; exact pair_new _ _ _ _
      have hw48 : Below u48.heap.size u48 v48 := by rw [hv48]; exact (Below.refl _ _).alloc (Nat.le_refl _) _
      replace hx := hx.below hw48
      replace hy := hy.below hw48
      replace hc := hc.below hw48
      replace hd := hd.below hw48
      replace he := he.below hw48
      replace hbk := hbk.below hw48
      replace hul := hul.below hw48
      replace hn := hn.below hw48
      replace hxu := hxu.below hw48
      replace ho := ho.below hw48
      replace px := px.below hw48
      replace py := py.below hw48
      replace pc := pc.below hw48
      replace pd := pd.below hw48
      replace pe := pe.below hw48
      replace pb := pb.below hw48
      replace pu := pu.below hw48
      replace pn := pn.below hw48
      replace HB := Below.chain HB hw48; clear hw48
      have HV48 := Lib.hid hv48.symm; clear hv48
      clear ho0
      have hL : Live v48 [(ov, (pnorm (pmul X U)).c), (nv, (pnorm X).c), (bv, (pconj (pconj X)).c), (ev, (pconj (pmul X Y)).c), (dv, (pconj Y).c), (cv, (pconj X).c), ((.slice ax nx cx), X.c)] := ((((((((live_nil _).cons hx).cons hc).cons hd).cons he).cons hbk).cons hn).cons ho)
      clear hx hy hc hd he hbk hul hn hxu ho KX KY KXY KCXY KCC KU KXU
      go_wp2_with fail
      rw [HV48.out]
      have hb : Below v48.heap.size v48 v48.drew := (Below.refl _ _).drew
      replace hL := hL.below hb
      replace px := px.below hb
      replace pc := pc.below hb
      replace pd := pd.below hb
      replace pe := pe.below hb
      replace pb := pb.below hb
      replace pn := pn.below hb
      replace po := po.below hb
      replace HB := Below.chain HB hb
      clear hb
      go_region_held3 (fun w' => w'.cell? ⟨u2.heap.size, 0, none⟩ = some (.int .i64 X.low) ∧ w'.cell? ⟨u2.heap.size, 1, none⟩ = some (.slice ax nx cx) ∧ w'.cell? ⟨u41.heap.size, 0, none⟩ = some (.int .i64 (pconj X).low) ∧ w'.cell? ⟨u41.heap.size, 1, none⟩ = some cv ∧ w'.cell? ⟨u42.heap.size, 0, none⟩ = some (.int .i64 (pconj Y).low) ∧ w'.cell? ⟨u42.heap.size, 1, none⟩ = some dv ∧ w'.cell? ⟨u44.heap.size, 0, none⟩ = some (.int .i64 (pconj (pmul X Y)).low) ∧ w'.cell? ⟨u44.heap.size, 1, none⟩ = some ev ∧ w'.cell? ⟨u45.heap.size, 0, none⟩ = some (.int .i64 (pconj (pconj X)).low) ∧ w'.cell? ⟨u45.heap.size, 1, none⟩ = some bv ∧ w'.cell? ⟨u46.heap.size, 0, none⟩ = some (.int .i64 (pnorm X).low) ∧ w'.cell? ⟨u46.heap.size, 1, none⟩ = some nv ∧ w'.cell? ⟨u48.heap.size, 0, none⟩ = some (.int .i64 (pnorm (pmul X U)).low) ∧ w'.cell? ⟨u48.heap.size, 1, none⟩ = some ov) (first | exact ⟨px.cell0, px.cell1, pc.cell0, pc.cell1, pd.cell0, pd.cell1, pe.cell0, pe.cell1, pb.cell0, pb.cell1, pn.cell0, pn.cell1, po.cell0, po.cell1⟩ | fail "keep")
        (first
          | (go_at_call 18; refine (multiplied_calls _).mono ?_; rintro e w' ⟨rfl, hb⟩; replace hL := hL.below hb; replace px := px.below hb; replace pc := pc.below hb; replace pd := pd.below hb; replace pe := pe.below hb; replace pb := pb.below hb; replace pn := pn.below hb; replace po := po.below hb; replace HB := Below.chain HB hb; clear hb)
          | (go_at_call 20; refine (mulK_calls (pconj X) (pconj Y) _ _ _ (hL.get (by simp)) (hL.get (by simp)) KCX KCY KCM).mono ?_; rintro e w' ⟨v, rfl, hv, hb⟩; replace hL := hL.below hb; replace px := px.below hb; replace pc := pc.below hb; replace pd := pd.below hb; replace pe := pe.below hb; replace pb := pb.below hb; replace pn := pn.below hb; replace po := po.below hb; replace HB := Below.chain HB hb; clear hb; replace hL := hL.cons hv.ints; clear hv)
          | (go_at_call 19; refine (same_yes _ _ _ _ _ (hL.get (by simp)) (hL.get (by simp)) (by first | exact HCM.out | exact HCC.out | exact HNU.out)).mono ?_; rintro e w' ⟨rfl, hb⟩; replace hL := hL.below hb; replace px := px.below hb; replace pc := pc.below hb; replace pd := pd.below hb; replace pe := pe.below hb; replace pb := pb.below hb; replace pn := pn.below hb; replace po := po.below hb; replace HB := Below.chain HB hb; clear hb)
          | fail "arm")
      go_wp2_with fail
      go_ret
      exact ⟨rfl, HB⟩

end Go.Proofs.Ytkimbhmijgfhnaa
