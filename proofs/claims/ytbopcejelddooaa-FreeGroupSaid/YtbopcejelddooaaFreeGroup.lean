/- FreeGroup: for every input the statement returns true, and nothing that was there has changed. -/
import Derived.Test.YtbopcejelddooaaWords
namespace Go.Proofs.Ytbopcejelddooaa
open Go.RowKit Go.Sl

theorem L2 {x y : List Int} (hx : x.length ≤ 20) (hy : y.length ≤ 20) : (redL (x ++ y)).length ≤ 40 := by
  have := redL_length (x ++ y); simp only [List.length_append] at this; omega
theorem L3 {x y z : List Int} (hx : x.length ≤ 20) (hy : y.length ≤ 20) (hz : z.length ≤ 20) : (redL (redL (x ++ y) ++ z)).length ≤ 60 := by
  have := redL_length (redL (x ++ y) ++ z); have := L2 hx hy; simp only [List.length_append] at *; omega
theorem L3' {x y z : List Int} (hx : x.length ≤ 20) (hy : y.length ≤ 20) (hz : z.length ≤ 20) : (redL (x ++ redL (y ++ z))).length ≤ 60 := by
  have := redL_length (x ++ redL (y ++ z)); have := L2 hy hz; simp only [List.length_append] at *; omega

set_option maxHeartbeats 1000000 in
set_option maxRecDepth 100000 in
theorem freeGroup_true {w0 : World} (a : Value) (xs : List Int) (ha : Ints w0 a xs) (hxa : ∀ x ∈ xs, I64 x) (b : Value) (ys : List Int) (hb : Ints w0 b ys) (hyb : ∀ x ∈ ys, I64 x)
    (c : Value) (zs : List Int) (hc : Ints w0 c zs) (hzc : ∀ x ∈ zs, I64 x) (w : World) (hw : w = w0 := by rfl) :
    Calls Try.prog 7 #[a, b, c] w fun e w' => e = .returned (.bool true) ∧ Below w.heap.size w w' := by
  subst hw
  have HB : Below w.heap.size w w := Below.refl _ _
  obtain ⟨X, hX⟩ : ∃ X, X = wordL 6 xs 20 := ⟨_, rfl⟩
  obtain ⟨Y, hY⟩ : ∃ Y, Y = wordL 6 ys 20 := ⟨_, rfl⟩
  obtain ⟨Z, hZ⟩ : ∃ Z, Z = wordL 6 zs 20 := ⟨_, rfl⟩
  have WX := Lib.hid (show IsWord X from hX ▸ wordL_isWord xs 20)
  have WY := Lib.hid (show IsWord Y from hY ▸ wordL_isWord ys 20)
  have WZ := Lib.hid (show IsWord Z from hZ ▸ wordL_isWord zs 20)
  have LX := Lib.hid (show X.length ≤ 20 from hX ▸ wordL_length 6 xs 20)
  have LY := Lib.hid (show Y.length ≤ 20 from hY ▸ wordL_length 6 ys 20)
  have LZ := Lib.hid (show Z.length ≤ 20 from hZ ▸ wordL_length 6 zs 20)
  have HX := Lib.hid hX; have HY := Lib.hid hY; have HZ := Lib.hid hZ
  have HXA := Lib.hid hxa; have HYB := Lib.hid hyb; have HZC := Lib.hid hzc
  clear hX hY hZ hxa hyb hzc
  go_enter Try.func7, Try.ntmps7
  go_wp2_with fail
  refine (word_calls 6 a xs 20 _ ha HXA.out (by omega) (by omega) (by omega)).mono ?_
  rintro e u1 ⟨x, rfl, hx0, hb1⟩
  replace ha := ha.below hb1
  replace hb := hb.below hb1
  replace hc := hc.below hb1
  replace HB := Below.chain HB hb1; clear hb1
  have hx := hx0.ints; rw [← HX.out] at hx
  have s_hx := hx.isSl
  go_wp2_with fail
  refine (word_calls 6 b ys 20 _ hb HYB.out (by omega) (by omega) (by omega)).mono ?_
  rintro e u2 ⟨y, rfl, hy0, hb2⟩
  replace ha := ha.below hb2
  replace hb := hb.below hb2
  replace hc := hc.below hb2
  replace hx := hx.below hb2
  replace HB := Below.chain HB hb2; clear hb2
  have hy := hy0.ints; rw [← HY.out] at hy
  have s_hy := hy.isSl
  go_wp2_with fail
  refine (word_calls 6 c zs 20 _ hc HZC.out (by omega) (by omega) (by omega)).mono ?_
  rintro e u3 ⟨z, rfl, hz0, hb3⟩
  replace ha := ha.below hb3
  replace hb := hb.below hb3
  replace hc := hc.below hb3
  replace hx := hx.below hb3
  replace hy := hy.below hb3
  replace HB := Below.chain HB hb3; clear hb3
  have hz := hz0.ints; rw [← HZ.out] at hz
  have s_hz := hz.isSl
  clear hx0 hy0 hz0 ha hb hc
  go_wp2_with fail
  refine (finverse_calls _ _ _ hx WX.out (by have := LX.out; omega)).mono ?_
  rintro e u4 ⟨i, rfl, hi0, hb4⟩
  replace hx := hx.below hb4
  replace hy := hy.below hb4
  replace hz := hz.below hb4
  replace HB := Below.chain HB hb4; clear hb4
  have hi := hi0.ints
  have s_hi := hi.isSl
  go_wp2_with fail
  refine (reduce_calls _ _ _ hx WX.out (by have := LX.out; omega)).mono ?_
  rintro e u5 ⟨r, rfl, hr0, hb5⟩
  replace hx := hx.below hb5
  replace hy := hy.below hb5
  replace hz := hz.below hb5
  replace hi := hi.below hb5
  replace HB := Below.chain HB hb5; clear hb5
  have hr := hr0.ints
  have s_hr := hr.isSl
  go_wp2_with fail
  refine (reduce_calls _ _ _ hr WX.out.red (by have := LX.out; have := redL_length X; omega)).mono ?_
  rintro e u6 ⟨s, rfl, hs0, hb6⟩
  replace hx := hx.below hb6
  replace hy := hy.below hb6
  replace hz := hz.below hb6
  replace hi := hi.below hb6
  replace hr := hr.below hb6
  replace HB := Below.chain HB hb6; clear hb6
  have hs := hs0.ints
  have s_hs := hs.isSl
  go_wp2_with fail
  refine (freduced_calls _).mono ?_
  rintro e u7 ⟨rfl, hb7⟩
  replace hx := hx.below hb7
  replace hy := hy.below hb7
  replace hz := hz.below hb7
  replace hi := hi.below hb7
  replace hr := hr.below hb7
  replace hs := hs.below hb7
  replace HB := Below.chain HB hb7; clear hb7
  go_wp2_with fail
  refine (equal_yes _ _ _ _ _ hr hs (redL_redL X).symm).mono ?_
  rintro e u8 ⟨rfl, hb8⟩
  replace hx := hx.below hb8
  replace hy := hy.below hb8
  replace hz := hz.below hb8
  replace hi := hi.below hb8
  replace hr := hr.below hb8
  replace hs := hs.below hb8
  replace HB := Below.chain HB hb8; clear hb8
  go_wp2_with fail
  refine (times_calls _ _ _ _ _ hx hy WX.out WY.out (by have := LX.out; omega) (by have := LY.out; omega) (by have := L2 LX.out LY.out; omega)).mono ?_
  rintro e u9 ⟨xy, rfl, hxy0, hb9⟩
  replace hx := hx.below hb9
  replace hy := hy.below hb9
  replace hz := hz.below hb9
  replace hi := hi.below hb9
  replace hr := hr.below hb9
  replace hs := hs.below hb9
  replace HB := Below.chain HB hb9; clear hb9
  have hxy := hxy0.ints
  have s_hxy := hxy.isSl
  go_wp2_with fail
  refine (times_calls _ _ _ _ _ hxy hz (WX.out.append WY.out).red WZ.out (by have := L2 LX.out LY.out; omega) (by have := LZ.out; omega) (by have := L3 LX.out LY.out LZ.out; omega)).mono ?_
  rintro e u10 ⟨xyz, rfl, hxyz0, hb10⟩
  replace hx := hx.below hb10
  replace hy := hy.below hb10
  replace hz := hz.below hb10
  replace hi := hi.below hb10
  replace hr := hr.below hb10
  replace hs := hs.below hb10
  replace hxy := hxy.below hb10
  replace HB := Below.chain HB hb10; clear hb10
  have hxyz := hxyz0.ints
  have s_hxyz := hxyz.isSl
  go_wp2_with fail
  refine (times_calls _ _ _ _ _ hy hz WY.out WZ.out (by have := LY.out; omega) (by have := LZ.out; omega) (by have := L2 LY.out LZ.out; omega)).mono ?_
  rintro e u11 ⟨yz, rfl, hyz0, hb11⟩
  replace hx := hx.below hb11
  replace hy := hy.below hb11
  replace hz := hz.below hb11
  replace hi := hi.below hb11
  replace hr := hr.below hb11
  replace hs := hs.below hb11
  replace hxy := hxy.below hb11
  replace hxyz := hxyz.below hb11
  replace HB := Below.chain HB hb11; clear hb11
  have hyz := hyz0.ints
  have s_hyz := hyz.isSl
  go_wp2_with fail
  refine (times_calls _ _ _ _ _ hx hyz WX.out (WY.out.append WZ.out).red (by have := LX.out; omega) (by have := L2 LY.out LZ.out; omega) (by have := L3' LX.out LY.out LZ.out; omega)).mono ?_
  rintro e u12 ⟨xyz2, rfl, hxyz20, hb12⟩
  replace hx := hx.below hb12
  replace hy := hy.below hb12
  replace hz := hz.below hb12
  replace hi := hi.below hb12
  replace hr := hr.below hb12
  replace hs := hs.below hb12
  replace hxy := hxy.below hb12
  replace hxyz := hxyz.below hb12
  replace hyz := hyz.below hb12
  replace HB := Below.chain HB hb12; clear hb12
  have hxyz2 := hxyz20.ints
  have s_hxyz2 := hxyz2.isSl
  go_wp2_with fail
  refine (equal_yes _ _ _ _ _ hxyz hxyz2 (redL_assoc X Y Z)).mono ?_
  rintro e u13 ⟨rfl, hb13⟩
  replace hx := hx.below hb13
  replace hy := hy.below hb13
  replace hz := hz.below hb13
  replace hi := hi.below hb13
  replace hr := hr.below hb13
  replace hs := hs.below hb13
  replace hxy := hxy.below hb13
  replace hxyz := hxyz.below hb13
  replace hyz := hyz.below hb13
  replace hxyz2 := hxyz2.below hb13
  replace HB := Below.chain HB hb13; clear hb13
  go_wp2_with fail
  refine (times_calls _ _ _ _ _ hx hi WX.out WX.out.inv.red (by have := LX.out; omega) (by have := redL_length (invL X); rw [invL_length] at this; have := LX.out; omega) (by rw [redL_right]; simp)).mono ?_
  rintro e u14 ⟨xi, rfl, hxi0, hb14⟩
  replace hx := hx.below hb14
  replace hy := hy.below hb14
  replace hz := hz.below hb14
  replace hi := hi.below hb14
  replace hr := hr.below hb14
  replace hs := hs.below hb14
  replace hxy := hxy.below hb14
  replace hxyz := hxyz.below hb14
  replace hyz := hyz.below hb14
  replace hxyz2 := hxyz2.below hb14
  replace HB := Below.chain HB hb14; clear hb14
  have hxi := hxi0.ints
  have s_hxi := hxi.isSl
  have lxi := hxi.len; rw [redL_right] at lxi; have lxi1 : vlen xi ≤ 0 := by rw [lxi]; simp
  clear lxi
  go_wp2_with fail
  refine (times_calls _ _ _ _ _ hi hx WX.out.inv.red WX.out (by have := redL_length (invL X); rw [invL_length] at this; have := LX.out; omega) (by have := LX.out; omega) (by rw [redL_left]; simp)).mono ?_
  rintro e u15 ⟨ix, rfl, hix0, hb15⟩
  replace hx := hx.below hb15
  replace hy := hy.below hb15
  replace hz := hz.below hb15
  replace hi := hi.below hb15
  replace hr := hr.below hb15
  replace hs := hs.below hb15
  replace hxy := hxy.below hb15
  replace hxyz := hxyz.below hb15
  replace hyz := hyz.below hb15
  replace hxyz2 := hxyz2.below hb15
  replace hxi := hxi.below hb15
  replace HB := Below.chain HB hb15; clear hb15
  have hix := hix0.ints
  have s_hix := hix.isSl
  have lix := hix.len; rw [redL_left] at lix; have lix1 : vlen ix ≤ 0 := by rw [lix]; simp
  clear lix
  have lz1 : vlen xi = 0 := by omega
  have lz2 : vlen ix = 0 := by omega
  go_wp2_with fail
  go_ret
  exact ⟨rfl, HB⟩

end Go.Proofs.Ytbopcejelddooaa
