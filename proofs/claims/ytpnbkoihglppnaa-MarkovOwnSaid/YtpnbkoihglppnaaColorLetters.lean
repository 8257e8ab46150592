/- ColorLetters: for every input the statement returns true, and nothing that was there has changed. -/
import Derived.Test.YtpnbkoihglppnaaCount3
import Derived.Test.YtpnbkoihglppnaaConcat
import Derived.Test.YtpnbkoihglppnaaWords
namespace Go.Proofs.Ytpnbkoihglppnaa
open Go.RowKit Go.Sl

theorem letterOf_bounds {top : Int} (h : 0 < top) (x : Int) : letterOf top x ≠ 0 ∧ -top ≤ letterOf top x ∧ letterOf top x ≤ top := by
  have h1 := Int.emod_nonneg x (b := 2 * top) (by omega)
  have h2 := Int.emod_lt_of_pos x (b := 2 * top) (by omega)
  unfold letterOf
  split <;> omega
theorem wordL_bword {n : Int} (h : 1 < n) (raw : List Int) (most : Nat) : BWord n (wordL (n - 1) raw most) := by
  intro x hx
  obtain ⟨y, _, rfl⟩ := List.mem_map.1 hx
  have := letterOf_bounds (top := n - 1) (by omega) y
  omega

set_option maxHeartbeats 4000000 in
set_option maxRecDepth 100000 in
theorem colorLetters_true {w0 : World} (n : Int) (hn : I64 n) (a : Value) (as1 : List Int) (hra : Ints w0 a as1) (hxa : ∀ x ∈ as1, I64 x) (b : Value) (bs : List Int) (hrb : Ints w0 b bs) (hxb : ∀ x ∈ bs, I64 x) (c : Value) (cs : List Int) (hrc : Ints w0 c cs) (hxc : ∀ x ∈ cs, I64 x) (m : Int) (hm : I64 m)
    (w : World) (hw : w = w0 := by rfl) :
    Calls Try.prog 3 #[.int .i64 n, a, b, c, .int .i64 m] w fun e w' => e = .returned (.bool true) ∧ Below w.heap.size w w' := by
  subst hw
  have HB : Below w.heap.size w w := Below.refl _ _
  obtain ⟨N, hN⟩ : ∃ N : Nat, 2 + n % (6 - 1) = (N : Int) := ⟨(2 + n % (6 - 1)).toNat, by omega⟩
  have hN1 : 2 ≤ N := by omega
  have hN2 : N ≤ 6 := by omega
  have hNi1 : (2 : Int) ≤ (N : Int) := by omega
  have hNi2 : (N : Int) ≤ 6 := by omega
  obtain ⟨K, hK⟩ : ∃ K, m % 13 = K := ⟨_, rfl⟩
  have hK1 : 0 ≤ K := by omega
  have hK2 : K < 13 := by omega
  obtain ⟨M, hM⟩ : ∃ M, M = 1 + K := ⟨_, rfl⟩
  have hM1 : 1 ≤ M := by omega
  have hM2 : M ≤ 13 := by omega
  obtain ⟨X, hX⟩ : ∃ X, X = wordL ((N : Int) - 1) as1 12 := ⟨_, rfl⟩
  obtain ⟨Y, hY⟩ : ∃ Y, Y = wordL ((N : Int) - 1) bs 12 := ⟨_, rfl⟩
  have WX := Lib.hid (show BWord (N : Int) X from hX ▸ wordL_bword (by omega) as1 12)
  have WY := Lib.hid (show BWord (N : Int) Y from hY ▸ wordL_bword (by omega) bs 12)
  have LX := Lib.hid (show X.length ≤ 12 from hX ▸ wordL_length _ as1 12)
  have LY := Lib.hid (show Y.length ≤ 12 from hY ▸ wordL_length _ bs 12)
  have EX := Lib.hid hX; have EY := Lib.hid hY; have HK := Lib.hid hN; have HL := Lib.hid hK; have HME := Lib.hid hM.symm
  have HXa := Lib.hid hxa; have HXb := Lib.hid hxb; have HXc := Lib.hid hxc
  clear hX hY hN hK hM hxa hxb hxc
  go_enter Try.func3, Try.ntmps3
  go_wp2_with fail
  refine (strands_calls n 6 _ hn (by decide) (by decide)).mono ?_
  rintro e w' ⟨rfl, rfl⟩
  rw [HK.out]
  go_wp2_with fail
  refine (below_calls m 13 _ (by decide) (by decide) hm).mono ?_
  rintro e w' ⟨rfl, rfl⟩
  rw [HL.out]
  go_wp2_with fail
  rw [HME.out]
  refine (word_calls ((N : Int) - 1) a as1 12 _ hra HXa.out (by omega) (by omega) (by decide)).mono ?_
  rintro e u1 ⟨x, rfl, hx0, hb1⟩
  replace hra := hra.below hb1
  replace hrb := hrb.below hb1
  replace hrc := hrc.below hb1
  replace HB := Below.chain HB hb1; clear hb1
  have hx := hx0.ints
  have s_hx := hx.isSl
  go_wp2_with fail
  refine (word_calls ((N : Int) - 1) b bs 12 _ hrb HXb.out (by omega) (by omega) (by decide)).mono ?_
  rintro e u2 ⟨y, rfl, hy0, hb2⟩
  replace hra := hra.below hb2
  replace hrb := hrb.below hb2
  replace hrc := hrc.below hb2
  replace hx := hx.below hb2
  replace HB := Below.chain HB hb2; clear hb2
  have hy := hy0.ints
  have s_hy := hy.isSl
  clear hx0 hy0 hra hrb
  rw [← EX.out] at hx
  rw [← EY.out] at hy
  have lrc := hrc.len
  have src := hrc.isSl
  have HRC := Lib.hid hrc; have HX1 := Lib.hid hx; have HY1 := Lib.hid hy; have HB1 := Lib.hid HB
  clear hrc hx hy HB
  go_wp2_with (at_make; refine wpList_make rfl _ _ rfl _ _ N rfl rfl rfl rfl (by omega) ?_; intro bg w1 ho1 hg1 hlo1 hsz; have sbg := ho1.isSl; have hb1 := below_grown_none (Below.refl _ _) hg1; have HO1 := Lib.hid ho1; have HG1 := Lib.hid hb1; clear ho1 hg1 hb1 hsz)
  obtain ⟨B, hB⟩ : ∃ B, B = u2.heap.size := ⟨_, rfl⟩
  go_loopw [42] (fun j wr => ∃ (k : Nat) (ds : List Int), k ≤ N ∧ j = .int .i64 k ∧ ds.length = N ∧ Colors M ds ∧ OwnI wr B bg ds ∧ Below u2.heap.size u2 wr) (fun j _ => N - (intOf j).toNat)
  case atStart => exact ⟨0, List.replicate N 0, Nat.zero_le _, rfl, by simp, fun x hx => by rw [List.eq_of_mem_replicate hx]; omega, by rw [hB]; exact HO1.out, HG1.out⟩
  case round =>
    obtain ⟨k, ds, hk, rfl, hdl, hdc, hd, hbr⟩ := hrel
    have HDL := Lib.hid hdl; have HDC := Lib.hid hdc; have HD := Lib.hid hd; have HBR := Lib.hid hbr
    clear hdl hdc hd hbr
    by_cases hlt : k < N
    · have hkd : k < ds.length := by rw [HDL.out]; exact hlt
      by_cases hc : k < cs.length
      · have c1 := (HRC.out.below HBR.out).cell hc
        have hci := HXc.out _ (nth_mem hc)
        have c2 := HD.out.cell hkd
        have c3 := HD.out.frozen hkd
        obtain ⟨z, hz⟩ : ∃ z, nth cs k % M = z := ⟨_, rfl⟩
        have hz1 : 0 ≤ z := by rw [← hz]; exact Int.emod_nonneg _ (by omega)
        have hz2 : z < M := by rw [← hz]; exact Int.emod_lt_of_pos _ (by omega)
        have ho := HD.out.set hkd z
        have hb := HBR.out.setCell (p := vat bg k) (by have := HD.out.ge hkd; omega) (.int .i64 z)
        have HZ := Lib.hid hz; have HO := Lib.hid ho; have HBB := Lib.hid hb
        clear hz ho hb
        go_wp2_with fail
        refine (below_calls (nth cs k) M _ (by omega) (by omega) hci).mono ?_
        rintro e w' ⟨rfl, rfl⟩
        rw [HZ.out]
        go_wp2_with fail
        go_roundw
        case rel => exact ⟨k + 1, _, by omega, by go_num, by rw [List.length_set]; exact HDL.out, fun x hx => by
          rcases mem_set_cases hx with h | h
          · rw [h]; exact ⟨hz1, hz2⟩
          · exact HDC.out x h, HO.out, HBB.out⟩
        case measure => simp [intOf]; omega
      · go_wp2_with fail
        go_roundw
        case rel => exact ⟨k + 1, _, by omega, by go_num, HDL.out, HDC.out, HD.out, HBR.out⟩
        case measure => simp [intOf]; omega
    · have hx := HX1.out.below HBR.out
      have hy := HY1.out.below HBR.out
      have hbg := HD.out.ints
      have HB := Below.chain HB1.out HBR.out
      have s_x := hx.isSl
      have s_y := hy.isSl
      have pc1 := prop_colors (m := M) (w := X) (by omega) HDC.out (fun x hx => by have := WX.out x hx; rw [HDL.out]; omega)
      have pl1 := prop_length M ds X
      rw [HDL.out] at pl1
      have HPB := Lib.hid (prop_back (m := M) (w := X) (by omega) HDC.out (fun x hx => by have := WX.out x hx; rw [HDL.out]; exact ⟨this.1, by omega⟩))
      have HPC := Lib.hid pc1; have HPL := Lib.hid pl1
      clear pc1 pl1
      go_wp2_with fail
      refine (cpropagate_calls N M x bg X ds _ hx hbg (by omega) (by omega) (by omega) (by omega) HDL.out WX.out HDC.out (by have := LX.out; omega)).mono ?_
      rintro e u11 ⟨p, rfl, hp0, hb11⟩
      replace hx := hx.below hb11
      replace hy := hy.below hb11
      replace hbg := hbg.below hb11
      replace HB := Below.chain HB hb11; clear hb11
      have hp := hp0.ints
      have s_hp := hp.isSl
      go_wp2_with fail
      refine (cpropagate_calls N M y p Y (prop M ds X) _ hy hp (by omega) (by omega) (by omega) (by omega) HPL.out WY.out HPC.out (by have := LY.out; omega)).mono ?_
      rintro e u12 ⟨q, rfl, hq0, hb12⟩
      replace hx := hx.below hb12
      replace hy := hy.below hb12
      replace hbg := hbg.below hb12
      replace hp := hp.below hb12
      replace HB := Below.chain HB hb12; clear hb12
      have hq := hq0.ints
      have s_hq := hq.isSl
      clear hp0 hq0
      go_wp2_with (refine wpList_rows2 rfl (.tmp 77) (.tmp 78) rfl rfl rfl s_x s_y ?_)
      refine (concat_calls _ [x, y] [X, Y] _ (rowsV_2 hx hy) (by have := LX.out; have := LY.out; simp; omega)).mono ?_
      rintro e u13 ⟨z, rfl, hz0, hb13⟩
      replace hb13 := Below.chain ((Below.refl _ _).alloc (Nat.le_refl _) _) hb13
      replace hx := hx.below hb13
      replace hy := hy.below hb13
      replace hbg := hbg.below hb13
      replace hp := hp.below hb13
      replace hq := hq.below hb13
      replace HB := Below.chain HB hb13; clear hb13
      have hz := hz0.ints
      simp only [List.flatten_cons, List.flatten_nil, List.append_nil] at hz
      have s_hz := hz.isSl
      clear hz0
      go_wp2_with fail
      refine (cpropagate_calls N M z bg (X ++ Y) ds _ hz hbg (by omega) (by omega) (by omega) (by omega) HDL.out (WX.out.append WY.out) HDC.out (by rw [List.length_append]; have := LX.out; have := LY.out; omega)).mono ?_
      rintro e u14 ⟨r, rfl, hr0, hb14⟩
      replace hx := hx.below hb14
      replace hy := hy.below hb14
      replace hbg := hbg.below hb14
      replace hp := hp.below hb14
      replace hq := hq.below hb14
      replace hz := hz.below hb14
      replace HB := Below.chain HB hb14; clear hb14
      have hr := hr0.ints
      have s_hr := hr.isSl
      clear hr0 hz hy
      go_wp2_with fail
      refine (binverse_calls N x X _ hx (by omega) (by omega) WX.out (by have := LX.out; omega)).mono ?_
      rintro e u15 ⟨v, rfl, hv0, hb15⟩
      replace hx := hx.below hb15
      replace hbg := hbg.below hb15
      replace hp := hp.below hb15
      replace hq := hq.below hb15
      replace hr := hr.below hb15
      replace HB := Below.chain HB hb15; clear hb15
      have hv := hv0.ints
      have s_hv := hv.isSl
      clear hv0
      go_wp2_with fail
      refine (cpropagate_calls N M v p (invL X) (prop M ds X) _ hv hp (by omega) (by omega) (by omega) (by omega) HPL.out WX.out.inv HPC.out (by rw [invL_len]; have := LX.out; omega)).mono ?_
      rintro e u16 ⟨t, rfl, ht0, hb16⟩
      replace hx := hx.below hb16
      replace hbg := hbg.below hb16
      replace hp := hp.below hb16
      replace hq := hq.below hb16
      replace hr := hr.below hb16
      replace hv := hv.below hb16
      replace HB := Below.chain HB hb16; clear hb16
      have ht := ht0.ints
      have s_ht := ht.isSl
      clear ht0
      go_wp2_with fail
      refine (colored_calls _).mono ?_
      rintro e u17 ⟨rfl, hb17⟩
      replace hx := hx.below hb17
      replace hbg := hbg.below hb17
      replace hp := hp.below hb17
      replace hq := hq.below hb17
      replace hr := hr.below hb17
      replace hv := hv.below hb17
      replace ht := ht.below hb17
      replace HB := Below.chain HB hb17; clear hb17
      go_wp2_with fail
      refine (equal_yes q r _ _ _ hq hr (prop_append M ds X Y).symm).mono ?_
      rintro e u18 ⟨rfl, hb18⟩
      replace hx := hx.below hb18
      replace hbg := hbg.below hb18
      replace hp := hp.below hb18
      replace hq := hq.below hb18
      replace hr := hr.below hb18
      replace hv := hv.below hb18
      replace ht := ht.below hb18
      replace HB := Below.chain HB hb18; clear hb18
      go_wp2_with fail
      refine (equal_yes t bg _ _ _ ht hbg HPB.out).mono ?_
      rintro e u19 ⟨rfl, hb19⟩
      replace hx := hx.below hb19
      replace hbg := hbg.below hb19
      replace hp := hp.below hb19
      replace hq := hq.below hb19
      replace hr := hr.below hb19
      replace hv := hv.below hb19
      replace ht := ht.below hb19
      replace HB := Below.chain HB hb19; clear hb19
      go_wp2_with fail
      go_ret
      exact ⟨rfl, HB⟩

end Go.Proofs.Ytpnbkoihglppnaa
