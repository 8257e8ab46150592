/- FreeConjugates: for every input the statement returns true, and nothing that was there has changed. -/
import Derived.Test.YtpnbkoihglppnaaConjugate
namespace Go.Proofs.Ytpnbkoihglppnaa
open Go.RowKit Go.Sl

theorem run_rows3 {u v x : Value} (hu : IsSl u) (hv : IsSl v) (hx : IsSl x) (w : World) :
    (Instr.buildSlice 33 3 #[(0, u), (1, v), (2, x)]).run Try.prog w = .ok (.slice (some ⟨w.heap.size, 0, none⟩) 3 3) (w.alloc (.cells #[u, v, x] 22)) := by
  obtain ⟨i, hi, hz0, hz1, hz2⟩ := info_parts info_slice
  simp [Instr.buildSlice, run_underlying Try.underlying33, sizeOf, typeInfo, hi, hz1, zeroValue, hz0, newRow, Instr.fill, cells_of_sl hu, cells_of_sl hv, cells_of_sl hx, cells_of_sl isSl_nil, show Array.range 3 = #[0, 1, 2] from by decide]

set_option maxHeartbeats 4000000 in
set_option maxRecDepth 100000 in
theorem freeConjugates_true {w0 : World} (a : Value) (as1 : List Int) (hra : Ints w0 a as1) (hxa : ∀ x ∈ as1, I64 x) (b : Value) (bs : List Int) (hrb : Ints w0 b bs) (hxb : ∀ x ∈ bs, I64 x) (c : Value) (cs : List Int) (hrc : Ints w0 c cs) (hxc : ∀ x ∈ cs, I64 x)
    (w : World) (hw : w = w0 := by rfl) :
    Calls Try.prog 14 #[a, b, c] w fun e w' => e = .returned (.bool true) ∧ Below w.heap.size w w' := by
  subst hw
  have HB : Below w.heap.size w w := Below.refl _ _
  obtain ⟨X, hX⟩ : ∃ X, X = wordL 6 as1 20 := ⟨_, rfl⟩
  obtain ⟨Y, hY⟩ : ∃ Y, Y = wordL 6 bs 15 := ⟨_, rfl⟩
  obtain ⟨Z, hZ⟩ : ∃ Z, Z = wordL 6 cs 20 := ⟨_, rfl⟩
  have wx : IsWord X := hX ▸ wordL_isWord as1 20
  have wy : IsWord Y := hY ▸ wordL_isWord bs 15
  have wz : IsWord Z := hZ ▸ wordL_isWord cs 20
  have lx : X.length ≤ 20 := hX ▸ wordL_length 6 as1 20
  have ly : Y.length ≤ 15 := hY ▸ wordL_length 6 bs 15
  have lz : Z.length ≤ 20 := hZ ▸ wordL_length 6 cs 20
  obtain ⟨G, hG⟩ : ∃ G, redL (redL (Y ++ X) ++ redL (invL Y)) = G := ⟨_, rfl⟩
  have hG2 : G = redL (Y ++ X ++ invL Y) := by rw [← hG, redL_both]
  have hgl : G.length ≤ 50 := by
    have h1 := redL_length (Y ++ X ++ invL Y)
    rw [← hG2, List.length_append, List.length_append, invL_length'] at h1; omega
  have hgg : redL G = G := by rw [hG2, redL_redL]
  have hgw : IsWord G := by rw [hG2]; exact IsWord.red (IsWord.append (IsWord.append wy wx) wy.inv)
  have hrt : Rt (coreL (redL X)) (coreL G) := by rw [hG2]; exact conj_core Y X (fun v hv => (wy v hv).1) (fun v hv => (wx v hv).1)
  have hhr : redL (invL (headL G)) = invL (headL G) := redL_of_rd (invL_rd (head_rd (by rw [← hgg]; exact redL_rd G)))
  have hpl := parts_length G
  have H1 := Lib.hid (show (redL (Y ++ X)).length ≤ 60 by have h := redL_length (Y ++ X); rw [List.length_append] at h; omega)
  have H2 := Lib.hid (show (redL (invL Y)).length ≤ 60 by have h := redL_length (invL Y); rw [invL_length'] at h; omega)
  have H3 := Lib.hid (show (redL (redL (Y ++ X) ++ redL (invL Y))).length ≤ 60 by rw [hG]; omega)
  have W1 := Lib.hid (show IsWord (redL (Y ++ X)) from IsWord.red (IsWord.append wy wx))
  have W2 := Lib.hid (show IsWord (redL (invL Y)) from IsWord.red wy.inv)
  have LG := Lib.hid (show G.length ≤ 60 by omega)
  have LH := Lib.hid (show (headL G).length ≤ 60 by omega)
  have WH := Lib.hid (isWord_mem hgw (head_mem (c := G)))
  have LC := Lib.hid hrt.length
  have EG := Lib.hid hG; have GG := Lib.hid hgg; have WG := Lib.hid hgw; have RT := Lib.hid hrt; have EB := Lib.hid hhr
  have WX := Lib.hid wx; have WY := Lib.hid wy; have WZ := Lib.hid wz; have LX := Lib.hid lx; have LY := Lib.hid ly; have LZ := Lib.hid lz
  have EX := Lib.hid hX; have EY := Lib.hid hY; have EZ := Lib.hid hZ
  have HXa := Lib.hid hxa; have HXb := Lib.hid hxb; have HXc := Lib.hid hxc
  clear hX hY hZ hG hG2 hgl hgg hgw hrt hhr hpl wx wy wz lx ly lz hxa hxb hxc
  go_enter Try.func14, Try.ntmps14
  go_wp2_with fail
  refine (word_calls 6 a as1 20 _ hra HXa.out (by decide) (by decide) (by decide)).mono ?_
  rintro e u1 ⟨x, rfl, hx0, hb1⟩
  replace hra := hra.below hb1
  replace hrb := hrb.below hb1
  replace hrc := hrc.below hb1
  replace HB := Below.chain HB hb1; clear hb1
  have hx := hx0.ints
  have s_hx := hx.isSl
  rw [← EX.out] at hx
  clear hx0
  go_wp2_with fail
  refine (word_calls 6 b bs 15 _ hrb HXb.out (by decide) (by decide) (by decide)).mono ?_
  rintro e u2 ⟨y, rfl, hy0, hb2⟩
  replace hra := hra.below hb2
  replace hrb := hrb.below hb2
  replace hrc := hrc.below hb2
  replace hx := hx.below hb2
  replace HB := Below.chain HB hb2; clear hb2
  have hy := hy0.ints
  have s_hy := hy.isSl
  rw [← EY.out] at hy
  clear hy0
  go_wp2_with fail
  refine (word_calls 6 c cs 20 _ hrc HXc.out (by decide) (by decide) (by decide)).mono ?_
  rintro e u3 ⟨z, rfl, hz0, hb3⟩
  replace hra := hra.below hb3
  replace hrb := hrb.below hb3
  replace hrc := hrc.below hb3
  replace hx := hx.below hb3
  replace hy := hy.below hb3
  replace HB := Below.chain HB hb3; clear hb3
  have hz := hz0.ints
  have s_hz := hz.isSl
  rw [← EZ.out] at hz
  clear hz0
  clear hra hrb hrc
  go_wp2_with fail
  refine (finverse_calls y Y _ hy WY.out (by have := LY.out; omega)).mono ?_
  rintro e u4 ⟨i, rfl, hi0, hb4⟩
  replace hx := hx.below hb4
  replace hy := hy.below hb4
  replace hz := hz.below hb4
  replace HB := Below.chain HB hb4; clear hb4
  have hi := hi0.ints
  have s_hi := hi.isSl
  clear hi0
  go_wp2_with fail
  refine (times_calls y x Y X _ hy hx WY.out WX.out (by have := LY.out; omega) (by have := LX.out; omega) H1.out).mono ?_
  rintro e u5 ⟨yx, rfl, hyx0, hb5⟩
  replace hx := hx.below hb5
  replace hy := hy.below hb5
  replace hz := hz.below hb5
  replace hi := hi.below hb5
  replace HB := Below.chain HB hb5; clear hb5
  have hyx := hyx0.ints
  have s_hyx := hyx.isSl
  clear hyx0 hy
  go_wp2_with fail
  refine (times_calls yx i (redL (Y ++ X)) (redL (invL Y)) _ hyx hi W1.out W2.out H1.out H2.out H3.out).mono ?_
  rintro e u6 ⟨g, rfl, hg0, hb6⟩
  replace hx := hx.below hb6
  replace hz := hz.below hb6
  replace hi := hi.below hb6
  replace hyx := hyx.below hb6
  replace HB := Below.chain HB hb6; clear hb6
  have hg := hg0.ints
  have s_hg := hg.isSl
  clear hg0 hyx hi
  rw [EG.out] at hg
  go_wp2_with fail
  refine (conjugateF_calls x g X G _ hx hg WX.out WG.out (by have := LX.out; omega) LG.out).mono ?_
  rintro e u7 ⟨t1, rfl, ht1, hb7⟩
  replace hx := hx.below hb7
  replace hz := hz.below hb7
  replace hg := hg.below hb7
  replace HB := Below.chain HB hb7; clear hb7
  have HT1 := Lib.hid ht1; clear ht1
  go_wp2_with fail
  refine (conjugateF_calls x z X Z _ hx hz WX.out WZ.out (by have := LX.out; omega) (by have := LZ.out; omega)).mono ?_
  rintro e u8 ⟨t2, rfl, ht2, hb8⟩
  replace hx := hx.below hb8
  replace hz := hz.below hb8
  replace hg := hg.below hb8
  replace HB := Below.chain HB hb8; clear hb8
  have HT2 := Lib.hid ht2; clear ht2
  go_wp2_with fail
  refine (conjugateF_calls z x Z X _ hz hx WZ.out WX.out (by have := LZ.out; omega) (by have := LX.out; omega)).mono ?_
  rintro e u9 ⟨t3, rfl, ht3, hb9⟩
  replace hx := hx.below hb9
  replace hz := hz.below hb9
  replace hg := hg.below hb9
  replace HB := Below.chain HB hb9; clear hb9
  have HT3 := Lib.hid ht3; clear ht3
  go_wp2_with fail
  refine (cyclicReduction_calls x X _ hx WX.out (by have := LX.out; omega)).mono ?_
  rintro e u10 ⟨p, pu, rfl, hp0, hpu0, hb10⟩
  replace hx := hx.below hb10
  replace hz := hz.below hb10
  replace hg := hg.below hb10
  replace HB := Below.chain HB hb10; clear hb10
  have hp := hp0.ints
  have s_hp := hp.isSl
  have s_pu := hpu0.isSl
  clear hp0 hpu0
  go_wp2_with fail
  refine (cyclicReduction_calls g G _ hg WG.out LG.out).mono ?_
  rintro e u11 ⟨q, bf, rfl, hq0, hbf0, hb11⟩
  replace hx := hx.below hb11
  replace hz := hz.below hb11
  replace hg := hg.below hb11
  replace hp := hp.below hb11
  replace HB := Below.chain HB hb11; clear hb11
  have hq := hq0.ints
  have s_hq := hq.isSl
  have hbf := hbf0.ints
  have s_hbf := hbf.isSl
  clear hq0 hbf0
  rw [GG.out] at hq hbf
  go_wp2_with fail
  refine (fexponent_calls x X _ hx WX.out (by have := LX.out; omega)).mono ?_
  rintro e w' ⟨rfl, rfl⟩
  go_wp2_with fail
  refine (fexponent_calls z Z _ hz WZ.out (by have := LZ.out; omega)).mono ?_
  rintro e w' ⟨rfl, rfl⟩
  go_wp2_with fail
  refine (finverse_calls bf (headL G) _ hbf WH.out LH.out).mono ?_
  rintro e u12 ⟨bk, rfl, hbk0, hb12⟩
  replace hx := hx.below hb12
  replace hz := hz.below hb12
  replace hg := hg.below hb12
  replace hp := hp.below hb12
  replace hq := hq.below hb12
  replace hbf := hbf.below hb12
  replace HB := Below.chain HB hb12; clear hb12
  have hbk := hbk0.ints
  have s_hbk := hbk.isSl
  clear hbk0 hx hz
  rw [EB.out] at hbk
  have lp := hp.len
  have lq := hq.len
  rw [LC.out] at lp
  obtain ⟨n, hn⟩ : ∃ n, (coreL G).length = n := ⟨_, rfl⟩
  rw [hn] at lp lq
  have e1 : t1 = true := HT1.out.2 (by rw [GG.out]; exact RT.out)
  have e3 : t2 = t3 := by
    have h2 := HT2.out; have h3 := HT3.out
    cases t2 <;> cases t3
    · rfl
    · exact absurd (h2.2 (h3.1 rfl).symm) (by decide)
    · exact absurd (h3.2 (h2.1 rfl).symm) (by decide)
    · rfl
  subst e1 e3
  have e4 : t2 = true → exp2 X = exp2 Z := fun h => by
    have h1 := (HT2.out.1 h).exp
    rwa [exp2_core _ (fun v hv => (WX.out v (redL_mem hv)).1), exp2_core _ (fun v hv => (WZ.out v (redL_mem hv)).1), exp2_redL _ (fun v hv => (WX.out v hv).1), exp2_redL _ (fun v hv => (WZ.out v hv).1)] at h1
  have E4 := Lib.hid e4
  clear hn e4
  go_wp2_with fail
  refine (freduced_calls _).mono ?_
  rintro e u13 ⟨rfl, hb13⟩
  replace hg := hg.below hb13
  replace hp := hp.below hb13
  replace hq := hq.below hb13
  replace hbf := hbf.below hb13
  replace hbk := hbk.below hb13
  replace HB := Below.chain HB hb13; clear hb13
  have hrows : [headL G, coreL G, invL (headL G)].flatten = G := by
    have := strip_parts G
    simpa using this
  have hrl : [headL G, coreL G, invL (headL G)].flatten.length ≤ 100000 := by rw [hrows]; have := LG.out; omega
  have HROWS := Lib.hid hrows; have HRL := Lib.hid hrl
  clear hrows hrl
  have HG := Lib.hid hg; have HQ := Lib.hid hq; have HBF := Lib.hid hbf; have HBK := Lib.hid hbk; have HBB := Lib.hid HB
  have s1 := hq.isSl; have s2 := hbf.isSl; have s3 := hbk.isSl
  clear hg hq hbf hbk HB hp s_hq s_hbf s_hbk
  obtain ⟨aq, nq, cq, rfl, -⟩ := s1.cases
  obtain ⟨ab, nb, cb, rfl, -⟩ := s2.cases
  obtain ⟨ak, nk, ck, rfl, -⟩ := s3.cases
  have lq2 : nq = n := lq
  subst lq2
  clear lq
  cases t2 with
  | false =>
    go_wp2_with fail
    refine (concat_calls _ [.slice ab nb cb, .slice aq nq cq, .slice ak nk ck] [headL G, coreL G, invL (headL G)] _ (rowsV_3 HBF.out HQ.out HBK.out) HRL.out).mono ?_
    rw [HROWS.out]
    rintro e v1 ⟨r, rfl, hr, hb⟩
    have sr := hr.isSl
    replace hb := Below.chain ((Below.refl _ _).alloc (Nat.le_refl _) _) hb
    have HR := Lib.hid hr.ints; have HG2 := Lib.hid (HG.out.below hb); have HB2 := Lib.hid (Below.chain HBB.out hb)
    clear hr hb
    go_wp2_with fail
    refine (equal_yes r g _ _ _ HR.out HG2.out rfl).mono ?_
    rintro e v2 ⟨rfl, hb⟩
    have HB3 := Lib.hid (Below.chain HB2.out hb); clear hb
    go_wp2_with fail
    go_ret
    exact ⟨rfl, HB3.out⟩
  | true =>
    have hee := E4.out rfl
    obtain ⟨ex, hex⟩ : ∃ ex, exp2 X = ex := ⟨_, rfl⟩
    rw [hee] at hex
    rw [hee, hex]
    have hbeq : (ex == ex) = true := by simp
    clear hee hex
    go_wp2_with fail
    refine (concat_calls _ [.slice ab nb cb, .slice aq nq cq, .slice ak nk ck] [headL G, coreL G, invL (headL G)] _ (rowsV_3 HBF.out HQ.out HBK.out) HRL.out).mono ?_
    rw [HROWS.out]
    rintro e v1 ⟨r, rfl, hr, hb⟩
    have sr := hr.isSl
    replace hb := Below.chain ((Below.refl _ _).alloc (Nat.le_refl _) _) hb
    have HR := Lib.hid hr.ints; have HG2 := Lib.hid (HG.out.below hb); have HB2 := Lib.hid (Below.chain HBB.out hb)
    clear hr hb
    go_wp2_with fail
    refine (equal_yes r g _ _ _ HR.out HG2.out rfl).mono ?_
    rintro e v2 ⟨rfl, hb⟩
    have HB3 := Lib.hid (Below.chain HB2.out hb); clear hb
    go_wp2_with fail
    go_ret
    exact ⟨rfl, HB3.out⟩

end Go.Proofs.Ytpnbkoihglppnaa
