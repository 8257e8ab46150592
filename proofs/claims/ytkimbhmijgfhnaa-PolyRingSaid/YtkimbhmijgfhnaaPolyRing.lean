/- PolyRing: for every input the statement returns true, and nothing that was there has changed. -/
import Derived.Test.YtkimbhmijgfhnaaPolyBound
import Derived.Test.YtkimbhmijgfhnaaLive
import Derived.Deep.RegionHeld3
namespace Go.Proofs.Ytkimbhmijgfhnaa
open Go.RowKit Go.Sl

theorem ring_1 (x y : LP) : pmul x y = pmul y x := ev_ext (pmul_trimmed _ _) (pmul_trimmed _ _) fun t ht => by rw [ev_pmul _ _ ht, ev_pmul _ _ ht, Rat.mul_comm]
theorem ring_2 (x y z : LP) : pmul (pmul x y) z = pmul x (pmul y z) := ev_ext (pmul_trimmed _ _) (pmul_trimmed _ _) fun t ht => by rw [ev_pmul _ _ ht, ev_pmul _ _ ht, ev_pmul _ _ ht, ev_pmul _ _ ht, Rat.mul_assoc]
theorem ring_3 (x y z : LP) : pmul x (padd y z 1) = padd (pmul x y) (pmul x z) 1 := ev_ext (pmul_trimmed _ _) (padd_trimmed _ _ _) fun t ht => by rw [ev_pmul _ _ ht, ev_padd _ _ _ ht, ev_padd _ _ _ ht, ev_pmul _ _ ht, ev_pmul _ _ ht]; grind
theorem ring_4 {x y : LP} (hx : Trimmed x) : padd (padd x y (-1)) y 1 = x := ev_ext (padd_trimmed _ _ _) hx fun t ht => by rw [ev_padd _ _ _ ht, ev_padd _ _ _ ht]; simp; grind
theorem ring_5 (x y : LP) : padd x y 1 = padd y x 1 := ev_ext (padd_trimmed _ _ _) (padd_trimmed _ _ _) fun t ht => by rw [ev_padd _ _ _ ht, ev_padd _ _ _ ht]; simp; grind

set_option maxHeartbeats 4000000 in
set_option maxRecDepth 100000 in
theorem polyRing_true {w0 : World} (i : Int) (hi : I64 i) (j : Int) (hj : I64 j) (k : Int) (hk : I64 k) (a : Value) (as1 : List Int) (hra : Ints w0 a as1) (hxa : ∀ x ∈ as1, I64 x) (b : Value) (bs : List Int) (hrb : Ints w0 b bs) (hxb : ∀ x ∈ bs, I64 x)
    (c : Value) (cs : List Int) (hrc : Ints w0 c cs) (hxc : ∀ x ∈ cs, I64 x) (w : World) (hw : w = w0 := by rfl) :
    Calls Try.prog 3 #[.int .i64 i, .int .i64 j, .int .i64 k, a, b, c] w fun e w' => e = .returned (.bool true) ∧ Below w.heap.size w w' := by
  subst hw
  have HB : Below w.heap.size w w := Below.refl _ _
  obtain ⟨X, hX⟩ : ∃ X, X = polyL i as1 := ⟨_, rfl⟩
  obtain ⟨Y, hY⟩ : ∃ Y, Y = polyL j bs := ⟨_, rfl⟩
  obtain ⟨Z, hZ⟩ : ∃ Z, Z = polyL k cs := ⟨_, rfl⟩
  have BX := Lib.hid (show PB X (-10) 22 600 50 from hX ▸ polyL_pb i as1)
  have BY := Lib.hid (show PB Y (-10) 22 600 50 from hY ▸ polyL_pb j bs)
  have BZ := Lib.hid (show PB Z (-10) 22 600 50 from hZ ▸ polyL_pb k cs)
  have EX := Lib.hid hX; have EY := Lib.hid hY; have EZ := Lib.hid hZ
  have HXa := Lib.hid hxa; have HXb := Lib.hid hxb; have HXc := Lib.hid hxc
  clear hX hY hZ hxa hxb hxc
  go_enter Try.func3, Try.ntmps3
  go_wp2_with fail
  refine (makepoly_calls i a as1 _ hi hra HXa.out).mono ?_
  rw [← EX.out]
  rintro e u1 ⟨x, rfl, hx, hb1⟩
  replace hra := hra.below hb1
  replace hrb := hrb.below hb1
  replace hrc := hrc.below hb1
  replace HB := Below.chain HB hb1; clear hb1
  have s_hx := hx.isSl
  go_wp2_with fail
  refine (makepoly_calls j b bs _ hj hrb HXb.out).mono ?_
  rw [← EY.out]
  rintro e u2 ⟨y, rfl, hy, hb2⟩
  replace hra := hra.below hb2
  replace hrb := hrb.below hb2
  replace hrc := hrc.below hb2
  replace hx := hx.below hb2
  replace HB := Below.chain HB hb2; clear hb2
  have s_hy := hy.isSl
  go_wp2_with fail
  refine (makepoly_calls k c cs _ hk hrc HXc.out).mono ?_
  rw [← EZ.out]
  rintro e u3 ⟨z, rfl, hz, hb3⟩
  replace hra := hra.below hb3
  replace hrb := hrb.below hb3
  replace hrc := hrc.below hb3
  replace hx := hx.below hb3
  replace hy := hy.below hb3
  replace HB := Below.chain HB hb3; clear hb3
  have s_hz := hz.isSl
  clear hra hrb hrc
  obtain ⟨ax, nx, cx, rfl, -⟩ := hx.isSl.cases
  obtain ⟨ay, ny, cy, rfl, -⟩ := hy.isSl.cases
  obtain ⟨az, nz, cz, rfl, -⟩ := hz.isSl.cases
  obtain ⟨v30, hv30⟩ : ∃ v30, v30 = ((u3.alloc (.cells #[.int .i64 X.low, (.slice ax nx cx)] 24)).alloc (.cells #[.int .i64 Y.low, (.slice ay ny cy)] 24)).alloc (.cells #[.int .i64 Z.low, (.slice az nz cz)] 24) := ⟨_, rfl⟩
  obtain ⟨px, py, pz, hw30, hz30⟩ := three _ _ _ _ _ _ _ _ _ hv30; clear hz30
  replace hx := hx.below hw30
  replace hy := hy.below hw30
  replace hz := hz.below hw30
  replace HB := Below.chain HB hw30; clear hw30
  have HV30 := Lib.hid hv30.symm; clear hv30
  go_wp2_with fail
  rw [HV30.out]
  refine (sub_calls X Y _ _ _ hx hy (PB.ok (BX.out) (by omega) (by omega) (by omega) (by omega) (by decide) (by decide)) (PB.ok (BY.out) (by omega) (by omega) (by omega) (by omega) (by decide) (by decide)) (PB.ok ((PB.add BX.out BY.out (-1))) (by omega) (by omega) (by omega) (by omega) (by decide) (by decide))).mono ?_
  rintro e u4 ⟨dv, rfl, hd0, hb4⟩
  replace hx := hx.below hb4
  replace hy := hy.below hb4
  replace hz := hz.below hb4
  replace px := px.below hb4
  replace py := py.below hb4
  replace pz := pz.below hb4
  replace HB := Below.chain HB hb4; clear hb4
  have hd := hd0.ints
  have s_hd := hd.isSl
  have c0_px := px.cell0; have c1_px := px.cell1; have l_px := px.lt
  have c0_py := py.cell0; have c1_py := py.cell1; have l_py := py.lt
  have c0_pz := pz.cell0; have c1_pz := pz.cell1; have l_pz := pz.lt
  obtain ⟨v4, hv4⟩ : ∃ v4, v4 = u4.alloc (.cells #[.int .i64 (padd X Y (-1)).low, dv] 24) := ⟨_, rfl⟩
  have pd : Pair v4 u4.heap.size 24 (.int .i64 (padd X Y (-1)).low) dv := by rw [hv4]; exact pair_new _ _ _ _
  have hw4 : Below u4.heap.size u4 v4 := by rw [hv4]; exact (Below.refl _ _).alloc (Nat.le_refl _) _
  replace hx := hx.below hw4
  replace hy := hy.below hw4
  replace hz := hz.below hw4
  replace hd := hd.below hw4
  replace px := px.below hw4
  replace py := py.below hw4
  replace pz := pz.below hw4
  replace HB := Below.chain HB hw4; clear hw4
  have HV4 := Lib.hid hv4.symm; clear hv4
  have K0 : POk X := (PB.ok (BX.out) (by omega) (by omega) (by omega) (by omega) (by decide) (by decide))
  have K1 : POk Y := (PB.ok (BY.out) (by omega) (by omega) (by omega) (by omega) (by decide) (by decide))
  have K2 : POk Z := (PB.ok (BZ.out) (by omega) (by omega) (by omega) (by omega) (by decide) (by decide))
  have K3 : POk (padd X Y (-1)) := (PB.ok ((PB.add BX.out BY.out (-1))) (by omega) (by omega) (by omega) (by omega) (by decide) (by decide))
  have K4 : POk (pmul X Y) := (PB.ok (((BX.out).mul BY.out)) (by omega) (by omega) (by omega) (by omega) (by decide) (by decide))
  have K5 : POk (pmul Y X) := (PB.ok (((BY.out).mul BX.out)) (by omega) (by omega) (by omega) (by omega) (by decide) (by decide))
  have K6 : POk (pmul (pmul X Y) Z) := (PB.ok (((((BX.out).mul BY.out)).mul BZ.out)) (by omega) (by omega) (by omega) (by omega) (by decide) (by decide))
  have K7 : POk (pmul Y Z) := (PB.ok (((BY.out).mul BZ.out)) (by omega) (by omega) (by omega) (by omega) (by decide) (by decide))
  have K8 : POk (pmul X (pmul Y Z)) := (PB.ok (((BX.out).mul ((BY.out).mul BZ.out))) (by omega) (by omega) (by omega) (by omega) (by decide) (by decide))
  have K9 : POk (padd Y Z 1) := (PB.ok ((PB.add BY.out BZ.out 1)) (by omega) (by omega) (by omega) (by omega) (by decide) (by decide))
  have K10 : POk (pmul X (padd Y Z 1)) := (PB.ok (((BX.out).mul (PB.add BY.out BZ.out 1))) (by omega) (by omega) (by omega) (by omega) (by decide) (by decide))
  have K11 : POk (pmul X Z) := (PB.ok (((BX.out).mul BZ.out)) (by omega) (by omega) (by omega) (by omega) (by decide) (by decide))
  have K12 : POk (padd (pmul X Y) (pmul X Z) 1) := (PB.ok ((PB.add ((BX.out).mul BY.out) ((BX.out).mul BZ.out) 1)) (by omega) (by omega) (by omega) (by omega) (by decide) (by decide))
  have K13 : POk (padd (padd X Y (-1)) Y 1) := (PB.ok ((PB.add (PB.add BX.out BY.out (-1)) BY.out 1)) (by omega) (by omega) (by omega) (by omega) (by decide) (by decide))
  have K14 : POk (padd X Y 1) := (PB.ok ((PB.add BX.out BY.out 1)) (by omega) (by omega) (by omega) (by omega) (by decide) (by decide))
  have K15 : POk (padd Y X 1) := (PB.ok ((PB.add BY.out BX.out 1)) (by omega) (by omega) (by omega) (by omega) (by decide) (by decide))
  have hL : Live v4 [((.slice ax nx cx), X.c), ((.slice ay ny cy), Y.c), ((.slice az nz cz), Z.c), (dv, (padd X Y (-1)).c)] := (((((live_nil _).cons hd).cons hz).cons hy).cons hx)
  clear hx hy hz hd
  go_wp2_with fail
  rw [HV4.out]
  have hb : Below v4.heap.size v4 v4.drew := (Below.refl _ _).drew
  replace hL := hL.below hb
  replace px := px.below hb
  replace py := py.below hb
  replace pz := pz.below hb
  replace pd := pd.below hb
  replace HB := Below.chain HB hb
  clear hb
  go_region_held3 (fun w' => w'.cell? ⟨u3.heap.size, 0, none⟩ = some (.int .i64 X.low) ∧ w'.cell? ⟨u3.heap.size, 1, none⟩ = some (.slice ax nx cx) ∧ w'.cell? ⟨u3.heap.size + 1, 0, none⟩ = some (.int .i64 Y.low) ∧ w'.cell? ⟨u3.heap.size + 1, 1, none⟩ = some (.slice ay ny cy) ∧ w'.cell? ⟨u3.heap.size + 2, 0, none⟩ = some (.int .i64 Z.low) ∧ w'.cell? ⟨u3.heap.size + 2, 1, none⟩ = some (.slice az nz cz) ∧ w'.cell? ⟨u4.heap.size, 0, none⟩ = some (.int .i64 (padd X Y (-1)).low) ∧ w'.cell? ⟨u4.heap.size, 1, none⟩ = some dv) (first | exact ⟨px.cell0, px.cell1, py.cell0, py.cell1, pz.cell0, pz.cell1, pd.cell0, pd.cell1⟩)
    (first
      | (go_at_call 18; refine (multiplied_calls _).mono ?_; rintro e w' ⟨rfl, hb⟩; replace hL := hL.below hb; replace px := px.below hb; replace py := py.below hb; replace pz := pz.below hb; replace pd := pd.below hb; replace HB := Below.chain HB hb; clear hb)
      | (go_at_call 20; refine (mulK_calls _ _ _ _ _ (hL.get (by simp)) (hL.get (by simp)) (by assumption) (by assumption) (by assumption)).mono ?_; rintro e w' ⟨v, rfl, hv, hb⟩; replace hL := hL.below hb; replace px := px.below hb; replace py := py.below hb; replace pz := pz.below hb; replace pd := pd.below hb; replace HB := Below.chain HB hb; clear hb; replace hL := hL.cons hv.ints; clear hv)
      | (go_at_call 21; refine (addK_calls _ _ _ _ _ (hL.get (by simp)) (hL.get (by simp)) (by assumption) (by assumption) (by assumption)).mono ?_; rintro e w' ⟨v, rfl, hv, hb⟩; replace hL := hL.below hb; replace px := px.below hb; replace py := py.below hb; replace pz := pz.below hb; replace pd := pd.below hb; replace HB := Below.chain HB hb; clear hb; replace hL := hL.cons hv.ints; clear hv)
      | (go_at_call 19; refine (same_yes _ _ _ _ _ (hL.get (by simp)) (hL.get (by simp)) (by first | exact ring_1 _ _ | exact ring_2 _ _ _ | exact ring_3 _ _ _ | exact ring_4 BX.out.tr | exact ring_5 _ _)).mono ?_; rintro e w' ⟨rfl, hb⟩; replace hL := hL.below hb; replace px := px.below hb; replace py := py.below hb; replace pz := pz.below hb; replace pd := pd.below hb; replace HB := Below.chain HB hb; clear hb))
  go_wp2_with fail
  go_ret
  exact ⟨rfl, HB⟩

end Go.Proofs.Ytkimbhmijgfhnaa
