/- PermGroup: for every input the statement returns true, and nothing that was there has changed. -/
import Derived.Test.YtbopcejelddooaaPerm
namespace Go.Proofs.Ytbopcejelddooaa
open Go.RowKit Go.Sl

theorem permuted_calls (w : World) :
    Calls Try.prog 42 #[] w fun e w' => e = .returned (.bool true) ∧ Below w.heap.size w w' := by
  have p1 : IsPerm [1, 2, 0] := ⟨by decide, by decide⟩
  have p2 : IsPerm [1, 0, 2] := ⟨by decide, by decide⟩
  have p3 : IsPerm [2, 0, 1] := ⟨by decide, by decide⟩
  go_enter Try.func42, Try.ntmps42
  go_wp2_with fail
  refine (compose_calls _ _ [1, 2, 0] [1, 0, 2] _ ((ints_lit [1, 2, 0] (by simp) rfl rfl (by decide)).alloc _) (ints_lit [1, 0, 2] (by simp) rfl rfl (by decide)) p1 p2 rfl (by decide)).mono ?_
  rintro e w1 ⟨v1, rfl, hv1, hb1⟩
  have sv1 := hv1.isSl
  have b1 : Below w.heap.size w w1 := Below.chain (((Below.refl _ _).alloc (Nat.le_refl _) _).alloc (by simp) _) hb1
  have HB1 := Lib.hid b1; clear b1 hb1
  have HV1 := Lib.hid hv1.ints; clear hv1
  go_wp2_with fail
  refine (rank_calls _ [2, 0, 1] _ (ints_lit [2, 0, 1] (by simp) rfl rfl (by decide)) p3 (by decide)).mono ?_
  rintro e w2 ⟨rfl, rfl⟩
  go_wp2_with fail
  refine (equal_yes _ _ _ [0, 2, 1] _ ((HV1.out.alloc _).alloc _) (ints_lit [0, 2, 1] (by simp) rfl rfl (by decide)) (by decide)).mono ?_
  rintro e w2 ⟨rfl, hb2⟩
  have h4 : ((rankL [2, 0, 1] : Nat) : Int) = 4 := by decide
  go_wp2_with fail
  go_ret
  exact ⟨rfl, Below.chain HB1.out (Below.chain (((Below.refl _ _).alloc (Nat.le_refl _) _).alloc (by simp) _) hb2)⟩

set_option maxHeartbeats 1000000 in
set_option maxRecDepth 100000 in
theorem permGroup_true {w0 : World} (n : Int) (hn : I64 n) (a : Value) (xs : List Int) (ha : Ints w0 a xs) (hxa : ∀ x ∈ xs, I64 x) (b : Value) (ys : List Int) (hb : Ints w0 b ys) (hyb : ∀ x ∈ ys, I64 x)
    (c : Value) (zs : List Int) (hc : Ints w0 c zs) (hzc : ∀ x ∈ zs, I64 x) (w : World) (hw : w = w0 := by rfl) :
    Calls Try.prog 10 #[.int .i64 n, a, b, c] w fun e w' => e = .returned (.bool true) ∧ Below w.heap.size w w' := by
  subst hw
  obtain ⟨m, hm⟩ : ∃ m : Nat, n % 10 = (m : Int) := ⟨(n % 10).toNat, by omega⟩
  have hm10 : m ≤ 9 := by omega
  have HM := Lib.hid hm; clear hm
  have HB : Below w.heap.size w w := Below.refl _ _
  have px : IsPerm (permL m xs) := permL_isPerm xs (by omega)
  have py : IsPerm (permL m ys) := permL_isPerm ys (by omega)
  have pz : IsPerm (permL m zs) := permL_isPerm zs (by omega)
  have pi := px.back
  have hxl : (permL m xs).length = m := permL_length _ _
  have hyl : (permL m ys).length = m := permL_length _ _
  have hzl : (permL m zs).length = m := permL_length _ _
  have hil : (backL (permL m xs)).length = m := by rw [backL_length, hxl]
  have HXL := Lib.hid hxl; have HYL := Lib.hid hyl; have HZL := Lib.hid hzl; have HIL := Lib.hid hil
  have pxy : IsPerm (thenL (permL m xs) (permL m ys)) := px.then py (by rw [hxl, hyl])
  have pyz : IsPerm (thenL (permL m ys) (permL m zs)) := py.then pz (by rw [hyl, hzl])
  have exy : (thenL (permL m xs) (permL m ys)).length = m := by rw [thenL_length, hxl]
  have eyz : (thenL (permL m ys) (permL m zs)).length = m := by rw [thenL_length, hyl]
  have hassoc : thenL (thenL (permL m xs) (permL m ys)) (permL m zs) = thenL (permL m xs) (thenL (permL m ys) (permL m zs)) := thenL_assoc (fun x hx => by have h := px.range x hx; rw [hxl] at h; rw [hyl]; exact h)
  have hone : permL m [] = iota m := permL_nil m
  have h1 : thenL (permL m xs) (backL (permL m xs)) = permL m [] := by rw [then_back px, hxl, hone]
  have h2 : thenL (backL (permL m xs)) (permL m xs) = permL m [] := by rw [back_then px, hxl, hone]
  have HAS := Lib.hid hassoc; have H1 := Lib.hid h1; have H2 := Lib.hid h2; have EXY := Lib.hid exy; have EYZ := Lib.hid eyz
  have HXA := Lib.hid hxa; have HYB := Lib.hid hyb; have HZC := Lib.hid hzc
  clear hassoc h1 h2 exy eyz hxl hyl hzl hil hone hxa hyb hzc
  go_enter Try.func10, Try.ntmps10
  go_wp2_with fail
  refine (below_nat n 10 m _ (by omega) (by omega) hn HM.out).mono ?_
  rintro e w' ⟨rfl, rfl⟩
  go_wp2_with fail
  refine (perm_calls m a xs _ ha (by omega) HXA.out).mono ?_
  rintro e u2 ⟨x, rfl, hx0, hb2⟩
  replace ha := ha.below hb2
  replace hb := hb.below hb2
  replace hc := hc.below hb2
  replace HB := Below.chain HB hb2; clear hb2
  have hx := hx0.ints
  have s_hx := hx.isSl
  go_wp2_with fail
  refine (perm_calls m b ys _ hb (by omega) HYB.out).mono ?_
  rintro e u3 ⟨y, rfl, hy0, hb3⟩
  replace ha := ha.below hb3
  replace hb := hb.below hb3
  replace hc := hc.below hb3
  replace hx := hx.below hb3
  replace HB := Below.chain HB hb3; clear hb3
  have hy := hy0.ints
  have s_hy := hy.isSl
  go_wp2_with fail
  refine (perm_calls m c zs _ hc (by omega) HZC.out).mono ?_
  rintro e u4 ⟨z, rfl, hz0, hb4⟩
  replace ha := ha.below hb4
  replace hb := hb.below hb4
  replace hc := hc.below hb4
  replace hx := hx.below hb4
  replace hy := hy.below hb4
  replace HB := Below.chain HB hb4; clear hb4
  have hz := hz0.ints
  have s_hz := hz.isSl
  go_wp2_with fail
  refine (inverse_calls _ _ _ hx px (by have := HXL.out; omega)).mono ?_
  rintro e u5 ⟨i, rfl, hi0, hb5⟩
  replace ha := ha.below hb5
  replace hb := hb.below hb5
  replace hc := hc.below hb5
  replace hx := hx.below hb5
  replace hy := hy.below hb5
  replace hz := hz.below hb5
  replace HB := Below.chain HB hb5; clear hb5
  have hi := hi0.ints
  have s_hi := hi.isSl
  go_wp2_with fail
  refine (perm_calls m _ [] _ (ints_nil _) (by omega) (by simp)).mono ?_
  rintro e u6 ⟨o, rfl, ho0, hb6⟩
  replace ha := ha.below hb6
  replace hb := hb.below hb6
  replace hc := hc.below hb6
  replace hx := hx.below hb6
  replace hy := hy.below hb6
  replace hz := hz.below hb6
  replace hi := hi.below hb6
  replace HB := Below.chain HB hb6; clear hb6
  have ho := ho0.ints
  have s_ho := ho.isSl
  go_wp2_with fail
  refine (permuted_calls _).mono ?_
  rintro e u7 ⟨rfl, hb7⟩
  replace ha := ha.below hb7
  replace hb := hb.below hb7
  replace hc := hc.below hb7
  replace hx := hx.below hb7
  replace hy := hy.below hb7
  replace hz := hz.below hb7
  replace hi := hi.below hb7
  replace ho := ho.below hb7
  replace HB := Below.chain HB hb7; clear hb7
  go_wp2_with fail
  refine (composeK_calls _ _ _ _ _ hx hy px py (by have := HXL.out; have := HYL.out; omega) (by have := HXL.out; omega)).mono ?_
  rintro e u8 ⟨xy, rfl, hxy, hb8⟩
  replace ha := ha.below hb8
  replace hb := hb.below hb8
  replace hc := hc.below hb8
  replace hx := hx.below hb8
  replace hy := hy.below hb8
  replace hz := hz.below hb8
  replace hi := hi.below hb8
  replace ho := ho.below hb8
  replace HB := Below.chain HB hb8; clear hb8
  have s_hxy := hxy.isSl
  go_wp2_with fail
  refine (composeK_calls _ _ _ _ _ hxy hz pxy pz (by have := EXY.out; have := HZL.out; omega) (by have := EXY.out; omega)).mono ?_
  rintro e u9 ⟨xyz, rfl, hxyz, hb9⟩
  replace ha := ha.below hb9
  replace hb := hb.below hb9
  replace hc := hc.below hb9
  replace hx := hx.below hb9
  replace hy := hy.below hb9
  replace hz := hz.below hb9
  replace hi := hi.below hb9
  replace ho := ho.below hb9
  replace hxy := hxy.below hb9
  replace HB := Below.chain HB hb9; clear hb9
  have s_hxyz := hxyz.isSl
  go_wp2_with fail
  refine (composeK_calls _ _ _ _ _ hy hz py pz (by have := HYL.out; have := HZL.out; omega) (by have := HYL.out; omega)).mono ?_
  rintro e u10 ⟨yz, rfl, hyz, hb10⟩
  replace ha := ha.below hb10
  replace hb := hb.below hb10
  replace hc := hc.below hb10
  replace hx := hx.below hb10
  replace hy := hy.below hb10
  replace hz := hz.below hb10
  replace hi := hi.below hb10
  replace ho := ho.below hb10
  replace hxy := hxy.below hb10
  replace hxyz := hxyz.below hb10
  replace HB := Below.chain HB hb10; clear hb10
  have s_hyz := hyz.isSl
  go_wp2_with fail
  refine (composeK_calls _ _ _ _ _ hx hyz px pyz (by have := HXL.out; have := EYZ.out; omega) (by have := HXL.out; omega)).mono ?_
  rintro e u11 ⟨xyz2, rfl, hxyz2, hb11⟩
  replace ha := ha.below hb11
  replace hb := hb.below hb11
  replace hc := hc.below hb11
  replace hx := hx.below hb11
  replace hy := hy.below hb11
  replace hz := hz.below hb11
  replace hi := hi.below hb11
  replace ho := ho.below hb11
  replace hxy := hxy.below hb11
  replace hxyz := hxyz.below hb11
  replace hyz := hyz.below hb11
  replace HB := Below.chain HB hb11; clear hb11
  have s_hxyz2 := hxyz2.isSl
  go_wp2_with fail
  refine (equal_yes _ _ _ _ _ hxyz hxyz2 HAS.out).mono ?_
  rintro e u12 ⟨rfl, hb12⟩
  replace ha := ha.below hb12
  replace hb := hb.below hb12
  replace hc := hc.below hb12
  replace hx := hx.below hb12
  replace hy := hy.below hb12
  replace hz := hz.below hb12
  replace hi := hi.below hb12
  replace ho := ho.below hb12
  replace hxy := hxy.below hb12
  replace hxyz := hxyz.below hb12
  replace hyz := hyz.below hb12
  replace hxyz2 := hxyz2.below hb12
  replace HB := Below.chain HB hb12; clear hb12
  go_wp2_with fail
  refine (composeK_calls _ _ _ _ _ hx hi px pi (by have := HXL.out; have := HIL.out; omega) (by have := HXL.out; omega)).mono ?_
  rintro e u13 ⟨xi, rfl, hxi, hb13⟩
  replace ha := ha.below hb13
  replace hb := hb.below hb13
  replace hc := hc.below hb13
  replace hx := hx.below hb13
  replace hy := hy.below hb13
  replace hz := hz.below hb13
  replace hi := hi.below hb13
  replace ho := ho.below hb13
  replace hxy := hxy.below hb13
  replace hxyz := hxyz.below hb13
  replace hyz := hyz.below hb13
  replace hxyz2 := hxyz2.below hb13
  replace HB := Below.chain HB hb13; clear hb13
  have s_hxi := hxi.isSl
  go_wp2_with fail
  refine (equal_yes _ _ _ _ _ hxi ho H1.out).mono ?_
  rintro e u14 ⟨rfl, hb14⟩
  replace ha := ha.below hb14
  replace hb := hb.below hb14
  replace hc := hc.below hb14
  replace hx := hx.below hb14
  replace hy := hy.below hb14
  replace hz := hz.below hb14
  replace hi := hi.below hb14
  replace ho := ho.below hb14
  replace hxy := hxy.below hb14
  replace hxyz := hxyz.below hb14
  replace hyz := hyz.below hb14
  replace hxyz2 := hxyz2.below hb14
  replace hxi := hxi.below hb14
  replace HB := Below.chain HB hb14; clear hb14
  go_wp2_with fail
  refine (composeK_calls _ _ _ _ _ hi hx pi px (by have := HIL.out; have := HXL.out; omega) (by have := HIL.out; omega)).mono ?_
  rintro e u15 ⟨ix, rfl, hix, hb15⟩
  replace ha := ha.below hb15
  replace hb := hb.below hb15
  replace hc := hc.below hb15
  replace hx := hx.below hb15
  replace hy := hy.below hb15
  replace hz := hz.below hb15
  replace hi := hi.below hb15
  replace ho := ho.below hb15
  replace hxy := hxy.below hb15
  replace hxyz := hxyz.below hb15
  replace hyz := hyz.below hb15
  replace hxyz2 := hxyz2.below hb15
  replace hxi := hxi.below hb15
  replace HB := Below.chain HB hb15; clear hb15
  have s_hix := hix.isSl
  go_wp2_with fail
  refine (equal_yes _ _ _ _ _ hix ho H2.out).mono ?_
  rintro e u16 ⟨rfl, hb16⟩
  replace ha := ha.below hb16
  replace hb := hb.below hb16
  replace hc := hc.below hb16
  replace hx := hx.below hb16
  replace hy := hy.below hb16
  replace hz := hz.below hb16
  replace hi := hi.below hb16
  replace ho := ho.below hb16
  replace hxy := hxy.below hb16
  replace hxyz := hxyz.below hb16
  replace hyz := hyz.below hb16
  replace hxyz2 := hxyz2.below hb16
  replace hxi := hxi.below hb16
  replace hix := hix.below hb16
  replace HB := Below.chain HB hb16; clear hb16
  go_wp2_with fail
  refine (check_calls _ _ _ hi pi (by have := HIL.out; omega)).mono ?_
  rintro e w' ⟨rfl, rfl⟩
  go_wp2_with fail
  go_ret
  exact ⟨rfl, HB⟩

end Go.Proofs.Ytbopcejelddooaa
