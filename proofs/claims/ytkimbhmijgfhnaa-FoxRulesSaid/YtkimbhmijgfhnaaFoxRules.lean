/- FoxRules: for every input the statement returns true, and nothing that was there has changed. -/
import Derived.Test.YtkimbhmijgfhnaaFox
import Derived.Test.YtkimbhmijgfhnaaConcat
import Derived.Test.YtkimbhmijgfhnaaLive
import Derived.Deep.RegionHeld3
import Derived.Deep.RegionWith
namespace Go.Proofs.Ytkimbhmijgfhnaa
open Go.RowKit Go.Sl

theorem below_lit1 {v u : World} {o : Obj} (hb : Below (v.alloc o).heap.size (v.alloc o) u) : Below v.heap.size v u := Below.chain ((Below.refl _ _).alloc (Nat.le_refl _) o) hb

/-- The world behind the literals of line 381. -/
def litW (w : World) : World := ((((w.alloc (.cells #[.int .i64 1] 3)).alloc (.cells #[.int .i64 1] 3)).alloc (.cells #[.int .i64 0, .slice (some ⟨w.heap.size, 0, none⟩) 1 1] 24)).alloc (.cells #[.int .i64 1, .slice (some ⟨w.heap.size + 1, 0, none⟩) 1 1] 24)).alloc (.cells #[.int .i64 1] 3)
theorem fox_lits (w V : World) (hV : V = litW w) : Ints V (.slice (some ⟨w.heap.size, 0, none⟩) 1 1) [1] ∧ Ints V (.slice (some ⟨w.heap.size + 1, 0, none⟩) 1 1) [1] ∧ Pair V (w.heap.size + 1 + 1) 24 (.int .i64 0) (.slice (some ⟨w.heap.size, 0, none⟩) 1 1) ∧ Pair V (w.heap.size + 1 + 1 + 1) 24 (.int .i64 1) (.slice (some ⟨w.heap.size + 1, 0, none⟩) 1 1) ∧ Ints V (.slice (some ⟨w.heap.size + 1 + 1 + 1 + 1, 0, none⟩) 1 1) [1] ∧ Below w.heap.size w V := by
  subst hV
  unfold litW
  refine ⟨((((ints_lit [1] rfl rfl rfl (by decide)).alloc _).alloc _).alloc _).alloc _, (((ints_lit [1] (by simp) rfl rfl (by decide)).alloc _).alloc _).alloc _, ?_, ?_, ints_lit [1] (by simp) rfl rfl (by decide), ?_⟩
  · have h := (pair_new ((w.alloc (.cells #[.int .i64 1] 3)).alloc (.cells #[.int .i64 1] 3)) 24 (.int .i64 0) (.slice (some ⟨w.heap.size, 0, none⟩) 1 1))
    rw [World.size_alloc, World.size_alloc] at h
    exact (h.alloc _).alloc _
  · have h := (pair_new (((w.alloc (.cells #[.int .i64 1] 3)).alloc (.cells #[.int .i64 1] 3)).alloc (.cells #[.int .i64 0, .slice (some ⟨w.heap.size, 0, none⟩) 1 1] 24)) 24 (.int .i64 1) (.slice (some ⟨w.heap.size + 1, 0, none⟩) 1 1))
    rw [World.size_alloc, World.size_alloc, World.size_alloc] at h
    exact h.alloc _
  · exact (((((Below.refl _ _).alloc (Nat.le_refl _) _).alloc (by simp) _).alloc (by simp; omega) _).alloc (by simp; omega) _).alloc (by simp; omega) _
theorem foxSum_pb (X : List Int) (h : ∀ x ∈ X, x ≠ 0) (hl : X.length ≤ 30) (k : Nat) : PB (foxSum X k) (-30) 31 (60 * k) (60 * k) := by
  have d0' : PB (unitP 0) 0 2 1 1 := PB.mono (unitP_pb 0) (by omega) (by omega) (by decide) (by decide)
  have d1' : PB (unitP 1) 0 2 1 1 := PB.mono (unitP_pb 1) (by omega) (by omega) (by decide) (by decide)
  induction k with
  | zero => exact ⟨pzero_trimmed, within_pzero _ _, Nat.le_refl 0, fun x hx => by cases hx⟩
  | succ k ih =>
    have dX : PB (foxL ((k : Int) + 1) X) (-30) 30 30 30 := PB.mono (foxS_pb ((k : Int) + 1) X h) (by omega) (by omega) hl hl
    have dm : PB (pmul (foxL ((k : Int) + 1) X) (padd (unitP 1) (unitP 0) (-1))) (-30) 31 60 60 := PB.mono (PB.mul dX (PB.add d1' d0' (-1))) (by omega) (by omega) (by decide) (by decide)
    exact PB.mono (PB.add ih dm 1) (by omega) (by omega) (by simp; omega) (by simp; omega)
theorem rowsV_2b {w : World} {b : Nat} {u v : Value} {xs ys : List Int} (hb : b = w.heap.size) (h : Ints w u xs) (k : Ints w v ys) : RowsV (w.alloc (.cells #[u, v] 22)) (.slice (some ⟨b, 0, none⟩) 2 2) [u, v] [xs, ys] := by
  subst hb; exact rowsV_2 h k
set_option maxHeartbeats 8000000 in
set_option maxRecDepth 100000 in
theorem foxRules_true {w0 : World} (a : Value) (as1 : List Int) (hra : Ints w0 a as1) (hxa : ∀ x ∈ as1, I64 x) (b : Value) (bs : List Int) (hrb : Ints w0 b bs) (hxb : ∀ x ∈ bs, I64 x) (i : Int) (hi : I64 i)
    (w : World) (hw : w = w0 := by rfl) :
    Calls Try.prog 6 #[a, b, .int .i64 i] w fun e w' => e = .returned (.bool true) ∧ Below w.heap.size w w' := by
  subst hw
  have HB : Below w.heap.size w w := Below.refl _ _
  obtain ⟨X, hX⟩ : ∃ X, X = wordL 6 as1 30 := ⟨_, rfl⟩
  obtain ⟨Y, hY⟩ : ∃ Y, Y = wordL 6 bs 30 := ⟨_, rfl⟩
  obtain ⟨I, hI⟩ : ∃ I, i % 6 = I := ⟨_, rfl⟩
  have hI1 : 0 ≤ I := by omega
  have hI2 : I < 6 := by omega
  have WX := Lib.hid (show IsWord X from hX ▸ wordL_isWord as1 30)
  have WY := Lib.hid (show IsWord Y from hY ▸ wordL_isWord bs 30)
  have LX := Lib.hid (show X.length ≤ 30 from hX ▸ wordL_length 6 as1 30)
  have LY := Lib.hid (show Y.length ≤ 30 from hY ▸ wordL_length 6 bs 30)
  have EX := Lib.hid hX; have EY := Lib.hid hY; have HI := Lib.hid hI
  have HXa := Lib.hid hxa; have HXb := Lib.hid hxb
  clear hX hY hI hxa hxb
  go_enter Try.func6, Try.ntmps6
  go_wp2_with fail
  refine (word_calls 6 a as1 30 _ hra HXa.out (by decide) (by decide) (by decide)).mono ?_
  rw [← EX.out]
  rintro e u1 ⟨x, rfl, hx0, hb1⟩
  replace hra := hra.below hb1
  replace hrb := hrb.below hb1
  replace HB := Below.chain HB hb1; clear hb1
  have hx := hx0.ints
  have s_hx := hx.isSl
  clear hx0
  go_wp2_with fail
  refine (word_calls 6 b bs 30 _ hrb HXb.out (by decide) (by decide) (by decide)).mono ?_
  rw [← EY.out]
  rintro e u2 ⟨y, rfl, hy0, hb2⟩
  replace hra := hra.below hb2
  replace hrb := hrb.below hb2
  replace hx := hx.below hb2
  replace HB := Below.chain HB hb2; clear hb2
  have hy := hy0.ints
  have s_hy := hy.isSl
  clear hy0
  clear hra hrb
  go_wp2_with fail
  refine (below_calls i 6 _ (by decide) (by decide) hi).mono ?_
  rintro e w' ⟨rfl, rfl⟩
  rw [HI.out]
  go_wp2_with fail
  refine (derivative_calls x X (1 + I) _ hx WX.out (by have := LX.out; omega) (by omega) (by omega)).mono ?_
  rintro e u3 ⟨pv, rfl, hp0, hb3⟩
  replace hx := hx.below hb3
  replace hy := hy.below hb3
  replace HB := Below.chain HB hb3; clear hb3
  have hp := hp0.ints
  have s_hp := hp.isSl
  obtain ⟨v3, hv3⟩ : ∃ v3, v3 = u3.alloc (.cells #[.int .i64 (foxL (1 + I) X).low, pv] 24) := ⟨_, rfl⟩
  have pp : Pair v3 u3.heap.size 24 (.int .i64 (foxL (1 + I) X).low) pv := by rw [hv3]; exact pair_new _ _ _ _
  have hw3 : Below u3.heap.size u3 v3 := by rw [hv3]; exact (Below.refl _ _).alloc (Nat.le_refl _) _
  replace hx := hx.below hw3
  replace hy := hy.below hw3
  replace hp := hp.below hw3
  replace HB := Below.chain HB hw3; clear hw3
  have HV3 := Lib.hid hv3.symm; clear hv3
  clear hp0
  go_wp2_with fail
  rw [HV3.out]
  refine (derivative_calls y Y (1 + I) _ hy WY.out (by have := LY.out; omega) (by omega) (by omega)).mono ?_
  rintro e u4 ⟨qv, rfl, hq0, hb4⟩
  replace hx := hx.below hb4
  replace hy := hy.below hb4
  replace hp := hp.below hb4
  replace pp := pp.below hb4
  replace HB := Below.chain HB hb4; clear hb4
  have hq := hq0.ints
  have s_hq := hq.isSl
  have c0_pp := pp.cell0; have c1_pp := pp.cell1; have l_pp := pp.lt
  obtain ⟨v4, hv4⟩ : ∃ v4, v4 = u4.alloc (.cells #[.int .i64 (foxL (1 + I) Y).low, qv] 24) := ⟨_, rfl⟩
  have pq : Pair v4 u4.heap.size 24 (.int .i64 (foxL (1 + I) Y).low) qv := by rw [hv4]; exact pair_new _ _ _ _
  have hw4 : Below u4.heap.size u4 v4 := by rw [hv4]; exact (Below.refl _ _).alloc (Nat.le_refl _) _
  replace hx := hx.below hw4
  replace hy := hy.below hw4
  replace hp := hp.below hw4
  replace hq := hq.below hw4
  replace pp := pp.below hw4
  replace HB := Below.chain HB hw4; clear hw4
  have HV4 := Lib.hid hv4.symm; clear hv4
  clear hq0
  go_wp2_with (refine wpList_rows2 rfl (.tmp 47) (.tmp 48) rfl rfl rfl s_hx s_hy ?_)
  rw [HV4.out]
  refine (concat_calls _ [x, y] [X, Y] _ (rowsV_2b (by rw [← HV4.out]; simp) hx hy) (by have := LX.out; have := LY.out; simp; omega)).mono ?_
  rintro e u5 ⟨zv, rfl, hz0, hb5⟩
  replace hb5 := below_lit1 hb5
  replace hx := hx.below hb5
  replace hy := hy.below hb5
  replace hp := hp.below hb5
  replace hq := hq.below hb5
  replace pp := pp.below hb5
  replace pq := pq.below hb5
  replace HB := Below.chain HB hb5; clear hb5
  have hz := hz0.ints
  have s_hz := hz.isSl
  have c0_pp := pp.cell0; have c1_pp := pp.cell1; have l_pp := pp.lt
  have c0_pq := pq.cell0; have c1_pq := pq.cell1; have l_pq := pq.lt
  simp only [List.flatten_cons, List.flatten_nil, List.append_nil] at hz; clear hz0
  go_wp2_with fail
  refine (derivative_calls zv (X ++ Y) (1 + I) _ hz (WX.out.append WY.out) (by rw [List.length_append]; have := LX.out; have := LY.out; omega) (by omega) (by omega)).mono ?_
  rintro e u6 ⟨rv, rfl, hr0, hb6⟩
  replace hx := hx.below hb6
  replace hy := hy.below hb6
  replace hp := hp.below hb6
  replace hq := hq.below hb6
  replace hz := hz.below hb6
  replace pp := pp.below hb6
  replace pq := pq.below hb6
  replace HB := Below.chain HB hb6; clear hb6
  have hr := hr0.ints
  have s_hr := hr.isSl
  have c0_pp := pp.cell0; have c1_pp := pp.cell1; have l_pp := pp.lt
  have c0_pq := pq.cell0; have c1_pq := pq.cell1; have l_pq := pq.lt
  obtain ⟨v6, hv6⟩ : ∃ v6, v6 = u6.alloc (.cells #[.int .i64 (foxL (1 + I) (X ++ Y)).low, rv] 24) := ⟨_, rfl⟩
  have pr : Pair v6 u6.heap.size 24 (.int .i64 (foxL (1 + I) (X ++ Y)).low) rv := by rw [hv6]; exact pair_new _ _ _ _
  have hw6 : Below u6.heap.size u6 v6 := by rw [hv6]; exact (Below.refl _ _).alloc (Nat.le_refl _) _
  replace hx := hx.below hw6
  replace hy := hy.below hw6
  replace hp := hp.below hw6
  replace hq := hq.below hw6
  replace hz := hz.below hw6
  replace hr := hr.below hw6
  replace pp := pp.below hw6
  replace pq := pq.below hw6
  replace HB := Below.chain HB hw6; clear hw6
  have HV6 := Lib.hid hv6.symm; clear hv6
  clear hr0 hy hz
  go_wp2_with fail
  rw [HV6.out]
  refine (exponent_calls x X _ hx WX.out (by have := LX.out; omega)).mono ?_
  rintro e w' ⟨rfl, rfl⟩
  have dX : PB (foxL (1 + I) X) (-61) 61 30 30 := PB.mono (foxS_pb (1 + I) X (fun z hz => (WX.out z hz).1)) (by have := LX.out; omega) (by have := LX.out; omega) LX.out LX.out
  have dY : PB (foxL (1 + I) Y) (-30) 30 30 30 := PB.mono (foxS_pb (1 + I) Y (fun z hz => (WY.out z hz).1)) (by have := LY.out; omega) (by have := LY.out; omega) LY.out LY.out
  have hE := expo_le X
  have dE : PB (unitP (expo X)) (-31) 31 1 1 := PB.mono (unitP_pb (expo X)) (by have := LX.out; omega) (by have := LX.out; omega) (by decide) (by decide)
  have dEY : PB (pmul (unitP (expo X)) (foxL (1 + I) Y)) (-61) 61 30 30 := PB.mono (PB.mul dE dY) (by omega) (by omega) (by decide) (by decide)
  have K0 : POk (foxL (1 + I) X) := PB.ok dX (by omega) (by omega) (by omega) (by omega) (by decide) (by decide)
  have K1 : POk (foxL (1 + I) Y) := PB.ok dY (by omega) (by omega) (by omega) (by omega) (by decide) (by decide)
  have K2 : POk (unitP (expo X)) := PB.ok dE (by omega) (by omega) (by omega) (by omega) (by decide) (by decide)
  have K3 : POk (pmul (unitP (expo X)) (foxL (1 + I) Y)) := PB.ok dEY (by omega) (by omega) (by omega) (by omega) (by decide) (by decide)
  have K4 : POk (padd (foxL (1 + I) X) (pmul (unitP (expo X)) (foxL (1 + I) Y)) 1) := PB.ok (PB.add dX dEY 1) (by omega) (by omega) (by omega) (by omega) (by decide) (by decide)
  have hE1 : -31 ≤ expo X := by have := LX.out; omega
  have hE2 : expo X ≤ 31 := by have := LX.out; omega
  have hfp := fox_product (1 + I) (by omega) X Y (fun z hz => (WX.out z hz).1) (fun z hz => (WY.out z hz).1)
  have HFP := Lib.hid hfp
  have hL : Live v6 [(x, X), (pv, (foxL (1 + I) X).c), (qv, (foxL (1 + I) Y).c), (rv, (foxL (1 + I) (X ++ Y)).c)] := (((((live_nil _).cons hr).cons hq).cons hp).cons hx)
  clear hx hp hq hr dX dY dE dEY hE hfp
  go_wp2_with fail
  have hb : Below v6.heap.size v6 v6.drew := (Below.refl _ _).drew
  replace hL := hL.below hb
  replace pp := pp.below hb
  replace pq := pq.below hb
  replace pr := pr.below hb
  replace HB := Below.chain HB hb
  clear hb
  go_region_held3 (fun w' => w'.cell? ⟨u3.heap.size, 0, none⟩ = some (.int .i64 (foxL (1 + I) X).low) ∧ w'.cell? ⟨u3.heap.size, 1, none⟩ = some pv ∧ w'.cell? ⟨u4.heap.size, 0, none⟩ = some (.int .i64 (foxL (1 + I) Y).low) ∧ w'.cell? ⟨u4.heap.size, 1, none⟩ = some qv ∧ w'.cell? ⟨u6.heap.size, 0, none⟩ = some (.int .i64 (foxL (1 + I) (X ++ Y)).low) ∧ w'.cell? ⟨u6.heap.size, 1, none⟩ = some rv) (first | exact ⟨pp.cell0, pp.cell1, pq.cell0, pq.cell1, pr.cell0, pr.cell1⟩ | exact ⟨(pp.alloc _).cell0, (pp.alloc _).cell1, (pq.alloc _).cell0, (pq.alloc _).cell1, (pr.alloc _).cell0, (pr.alloc _).cell1⟩ | fail "keep")
    (first
      | (go_at_call 18; refine (multiplied_calls _).mono ?_; rintro e w' ⟨rfl, hb⟩; replace hL := hL.below hb; replace pp := pp.below hb; replace pq := pq.below hb; replace pr := pr.below hb; replace HB := Below.chain HB hb; clear hb)
      | (go_at_call 20; refine (mulK_calls (unitP (expo X)) (foxL (1 + I) Y) _ _ _ (ints_lit [1] rfl rfl rfl (by decide)) ((hL.get (by simp)).alloc _) K2 K1 K3).mono ?_; rintro e w' ⟨v, rfl, hv, hb⟩; replace hL := (hL.below ((Below.refl _ _).alloc (Nat.le_refl _) _)).below hb; replace pp := (pp.alloc _).below hb; replace pq := (pq.alloc _).below hb; replace pr := (pr.alloc _).below hb; replace HB := Below.chain (Below.chain HB ((Below.refl _ _).alloc (Nat.le_refl _) _)) hb; clear hb; replace hL := hL.cons hv.ints; clear hv)
      | (go_at_call 21; refine (addK_calls (foxL (1 + I) X) (pmul (unitP (expo X)) (foxL (1 + I) Y)) _ _ _ (hL.get (by simp)) (hL.get (by simp)) K0 K3 K4).mono ?_; rintro e w' ⟨v, rfl, hv, hb⟩; replace hL := hL.below hb; replace pp := pp.below hb; replace pq := pq.below hb; replace pr := pr.below hb; replace HB := Below.chain HB hb; clear hb; replace hL := hL.cons hv.ints; clear hv)
      | (go_at_call 19; refine (same_yes _ _ _ _ _ (hL.get (by simp)) (hL.get (by simp)) HFP.out).mono ?_; rintro e w' ⟨rfl, hb⟩; replace hL := hL.below hb; replace pp := pp.below hb; replace pq := pq.below hb; replace pr := pr.below hb; replace HB := Below.chain HB hb; clear hb)
      | fail "arm")
  have hx : Ints w' x X := hL.get (by simp)
  clear hL pp pq pr K0 K1 K3 K4 HFP
  have dE1 : PB (unitP (expo X)) (-31) 32 1 1 := PB.mono (unitP_pb (expo X)) (by omega) (by omega) (by decide) (by decide)
  have d0 : PB (unitP 0) (-31) 32 1 1 := PB.mono (unitP_pb 0) (by omega) (by omega) (by decide) (by decide)
  have d0' : PB (unitP 0) 0 2 1 1 := PB.mono (unitP_pb 0) (by omega) (by omega) (by decide) (by decide)
  have d1' : PB (unitP 1) 0 2 1 1 := PB.mono (unitP_pb 1) (by omega) (by omega) (by decide) (by decide)
  have K5 : POk (unitP 0) := PB.ok d0 (by omega) (by omega) (by omega) (by omega) (by decide) (by decide)
  have K6 : POk (unitP 1) := PB.ok d1' (by omega) (by omega) (by omega) (by omega) (by decide) (by decide)
  have K7 : POk (padd (unitP (expo X)) (unitP 0) (-1)) := PB.ok (PB.add dE1 d0 (-1)) (by omega) (by omega) (by omega) (by omega) (by decide) (by decide)
  have K8 : POk (padd (unitP 1) (unitP 0) (-1)) := PB.ok (PB.add d1' d0' (-1)) (by omega) (by omega) (by omega) (by omega) (by decide) (by decide)
  have hsum := fox_sum X WX.out
  have HSUM := Lib.hid hsum; clear hsum dE1 d0 d0' d1'
  go_wp2_with fail
  obtain ⟨V, hV⟩ : ∃ V, V = litW w' := ⟨_, rfl⟩
  obtain ⟨l1, l2, g1, g2, l3, hwb⟩ := fox_lits w' V hV
  have HV := Lib.hid (show litW w' = V from hV.symm)
  replace hx := hx.below hwb
  replace HB := Below.chain HB hwb; clear hwb hV
  unfold litW at HV
  rw [HV.out]
  have c0_g1 := g1.cell0; have c1_g1 := g1.cell1; have c0_g2 := g2.cell0; have c1_g2 := g2.cell1
  refine (sub_calls (unitP (expo X)) (unitP 0) _ _ _ l3 l1 K2 K5 K7).mono ?_
  rintro e u21 ⟨lv, rfl, hl0, hb21⟩
  replace hx := hx.below hb21
  replace l1 := l1.below hb21
  replace l2 := l2.below hb21
  replace l3 := l3.below hb21
  replace g1 := g1.below hb21
  replace g2 := g2.below hb21
  replace HB := Below.chain HB hb21; clear hb21
  have hl := hl0.ints
  have s_hl := hl.isSl
  have c0_g1 := g1.cell0; have c1_g1 := g1.cell1; have l_g1 := g1.lt
  have c0_g2 := g2.cell0; have c1_g2 := g2.cell1; have l_g2 := g2.lt
  obtain ⟨v21, hv21⟩ : ∃ v21, v21 = u21.alloc (.cells #[.int .i64 (padd (unitP (expo X)) (unitP 0) (-1)).low, lv] 24) := ⟨_, rfl⟩
  have gl : Pair v21 u21.heap.size 24 (.int .i64 (padd (unitP (expo X)) (unitP 0) (-1)).low) lv := by rw [hv21]; exact pair_new _ _ _ _
  have hw21 : Below u21.heap.size u21 v21 := by rw [hv21]; exact (Below.refl _ _).alloc (Nat.le_refl _) _
  replace hx := hx.below hw21
  replace l1 := l1.below hw21
  replace l2 := l2.below hw21
  replace l3 := l3.below hw21
  replace hl := hl.below hw21
  replace g1 := g1.below hw21
  replace g2 := g2.below hw21
  replace HB := Below.chain HB hw21; clear hw21
  have HV21 := Lib.hid hv21.symm; clear hv21
  clear hl0 l3
  go_wp2_with fail
  rw [HV21.out]
  refine (sub_calls (unitP 1) (unitP 0) _ _ _ l2 l1 K6 K5 K8).mono ?_
  rintro e u22 ⟨sv, rfl, hs0, hb22⟩
  replace hx := hx.below hb22
  replace l1 := l1.below hb22
  replace l2 := l2.below hb22
  replace hl := hl.below hb22
  replace g1 := g1.below hb22
  replace g2 := g2.below hb22
  replace gl := gl.below hb22
  replace HB := Below.chain HB hb22; clear hb22
  have hs := hs0.ints
  have s_hs := hs.isSl
  have c0_g1 := g1.cell0; have c1_g1 := g1.cell1; have l_g1 := g1.lt
  have c0_g2 := g2.cell0; have c1_g2 := g2.cell1; have l_g2 := g2.lt
  have c0_gl := gl.cell0; have c1_gl := gl.cell1; have l_gl := gl.lt
  clear hs0 l1 l2 g1 g2
  obtain ⟨U, hU⟩ : ∃ U, U = u22.alloc (.cells #[.int .i64 (padd (unitP 1) (unitP 0) (-1)).low, sv] 24) := ⟨_, rfl⟩
  have gs : Pair U u22.heap.size 24 (.int .i64 (padd (unitP 1) (unitP 0) (-1)).low) sv := by rw [hU]; exact pair_new _ _ _ _
  have hwU : Below u22.heap.size u22 U := by rw [hU]; exact (Below.refl _ _).alloc (Nat.le_refl _) _
  replace hx := hx.below hwU; replace hl := hl.below hwU; replace hs := hs.below hwU; replace gl := gl.below hwU
  replace HB := Below.chain HB hwU; clear hwU
  have szU : U.heap.size = u22.heap.size + 1 := by rw [hU]; simp
  obtain ⟨Z, hZ⟩ : ∃ Z, Z = u22.heap.size + 1 := ⟨_, rfl⟩
  obtain ⟨U2, hU2⟩ : ∃ U2, U2 = U.alloc (.cells #[.int .i64 0, .slice none 0 0] 24) := ⟨_, rfl⟩
  have gz : Pair U2 Z 24 (.int .i64 0) (.slice none 0 0) := by rw [hU2, hZ, ← szU]; exact pair_new _ _ _ _
  have hwZ : Below Z U U2 := by rw [hU2, hZ, ← szU]; exact (Below.refl _ _).alloc (Nat.le_refl _) _
  have szZ : Z + 1 ≤ U2.heap.size := by rw [hU2, hZ, ← szU]; simp
  have hUZ : Z = U.heap.size := by omega
  have lgl := gl.lt; have lgs := gs.lt
  have sls := hs.isSl; have sll := hl.isSl
  have HX9 := Lib.hid hx; have HL9 := Lib.hid hl; have HS9 := Lib.hid hs; have GL9 := Lib.hid gl; have GS9 := Lib.hid gs; have HB9 := Lib.hid HB
  have HUU := Lib.hid (show ((u22.alloc (.cells #[.int .i64 (padd (unitP 1) (unitP 0) (-1)).low, sv] 24)).alloc (.cells #[.int .i64 0, .slice none 0 0] 24)) = U2 by rw [hU2, hU])
  have HZE := Lib.hid hZ.symm; have HUZ := Lib.hid hUZ; have HLG := Lib.hid (And.intro (hUZ ▸ lgl) (hUZ ▸ lgs))
  have GZ := Lib.hid gz; have HWZ := Lib.hid hwZ; have HSZ := Lib.hid szZ
  clear hx hl hs gl gs HB hU hU2 hZ gz hwZ szZ hUZ szU lgl lgs c0_gl c1_gl l_gl
  go_wp2_with fail
  rw [HUU.out]
  rw [HZE.out]
  go_loopw [24] (fun j wr => ∃ (k : Nat) (v : Value), k ≤ 6 ∧ j = .int .i64 ((k : Int) + 1) ∧ Pair wr Z 24 (.int .i64 (foxSum X k).low) v ∧ OwnI wr (Z + 1) v (foxSum X k).c ∧ Below Z U wr ∧ Z + 1 ≤ wr.heap.size) (fun j _ => 7 - (intOf j).toNat)
  case atStart => exact ⟨0, _, by omega, rfl, GZ.out, ownI_nil _ _, HWZ.out, HSZ.out⟩
  case round =>
    obtain ⟨k, v, hk, rfl, hz, hv, hbu, hsz⟩ := hrel
    obtain ⟨bz, nz, kz, rfl, -⟩ := hv.isSl.cases
    have sz := hv.isSl
    have hbu' : Below U.heap.size U wr := by rw [← HUZ.out]; exact hbu
    have hxr := HX9.out.below hbu'
    have hlr := HL9.out.below hbu'
    have hsr := HS9.out.below hbu'
    have glr := GL9.out.below hbu'
    have gsr := GS9.out.below hbu'
    have cz0 := hz.cell0; have cz1 := hz.cell1
    have HXR := Lib.hid hxr; have HLR := Lib.hid hlr; have HSR := Lib.hid hsr; have GLR := Lib.hid glr; have GSR := Lib.hid gsr; have HVR := Lib.hid hv; have HZR := Lib.hid hz; have HBU := Lib.hid hbu
    have HPB := Lib.hid (foxSum_pb X (fun z hz => (WX.out z hz).1) LX.out)
    clear hbu' hxr hlr hsr glr gsr hv hz hbu
    by_cases hlt : k < 6
    · have hle : (k : Int) + 1 ≤ 6 := by omega
      have KS : POk (foxSum X k) := PB.ok (HPB.out k) (by omega) (by omega) (by omega) (by omega) (by omega) (by omega)
      have KS1 : POk (foxSum X (k + 1)) := PB.ok (HPB.out (k + 1)) (by omega) (by omega) (by omega) (by omega) (by omega) (by omega)
      have dX : PB (foxL ((k : Int) + 1) X) (-30) 30 30 30 := PB.mono (foxS_pb ((k : Int) + 1) X (fun z hz => (WX.out z hz).1)) (by have := LX.out; omega) (by have := LX.out; omega) LX.out LX.out
      have KD : POk (foxL ((k : Int) + 1) X) := PB.ok dX (by omega) (by omega) (by omega) (by omega) (by decide) (by decide)
      have d0' : PB (unitP 0) 0 2 1 1 := PB.mono (unitP_pb 0) (by omega) (by omega) (by decide) (by decide)
      have d1' : PB (unitP 1) 0 2 1 1 := PB.mono (unitP_pb 1) (by omega) (by omega) (by decide) (by decide)
      have KM : POk (pmul (foxL ((k : Int) + 1) X) (padd (unitP 1) (unitP 0) (-1))) := PB.ok (PB.mul dX (PB.add d1' d0' (-1))) (by omega) (by omega) (by omega) (by omega) (by decide) (by decide)
      clear dX d0' d1'
      go_wp2_with fail
      refine (derivative_calls x X ((k : Int) + 1) _ HXR.out WX.out (by have := LX.out; omega) (by omega) (by omega)).mono ?_
      rintro e u5 ⟨dv, rfl, hd0, hb⟩
      have sd := hd0.isSl
      obtain ⟨V5, hV5⟩ : ∃ V5, V5 = u5.alloc (.cells #[.int .i64 (foxL ((k : Int) + 1) X).low, dv] 24) := ⟨_, rfl⟩
      have pd : Pair V5 u5.heap.size 24 (.int .i64 (foxL ((k : Int) + 1) X).low) dv := by rw [hV5]; exact pair_new _ _ _ _
      have hb5 : Below u5.heap.size u5 V5 := by rw [hV5]; exact (Below.refl _ _).alloc (Nat.le_refl _) _
      have hcb := (Below.chain hb hb5)
      have pz := HZR.out.below hcb; have gs := GSR.out.below hcb; have hv := HVR.out.below hcb; have hd := hd0.ints.below hb5; have hs := HSR.out.below hcb
      have hbz : Below Z U V5 := HBU.out.trans (hcb.mono (by omega))
      have hzs : Z + 1 ≤ V5.heap.size := Nat.le_trans hsz hcb.size
      have hu5 : Z + 1 ≤ u5.heap.size := Nat.le_trans hsz hb.size
      have hu22 : u22.heap.size < Z := by have := HZE.out; omega
      have HV5 := Lib.hid hV5.symm
      clear hb hb5 hcb hd0 hV5
      go_wp2_with fail
      rw [HV5.out]
      have hb : Below V5.heap.size V5 V5.drew := (Below.refl _ _).drew
      replace pz := pz.below hb
      replace pd := pd.below hb
      replace gs := gs.below hb
      replace hv := hv.below hb
      replace hd := hd.below hb
      replace hs := hs.below hb
      replace hbz := hbz.trans (hb.mono (by omega))
      replace hzs := Nat.le_trans hzs hb.size
      clear hb
      have q0 := pz.cell0; have q1 := pz.cell1; have q2 := pz.free0; have q3 := pz.free1
      have r0 := pd.cell0; have r1 := pd.cell1; have t0 := gs.cell0; have t1 := gs.cell1
      go_region_with (first
          | (go_at_call 20; refine (mulK_calls (foxL ((k : Int) + 1) X) (padd (unitP 1) (unitP 0) (-1)) dv sv _ hd hs KD K8 KM).mono ?_; rintro e w' ⟨mv, rfl, hm0, hb⟩; replace pz := pz.below hb; replace pd := pd.below hb; replace gs := gs.below hb; replace hv := hv.below hb; replace hd := hd.below hb; replace hs := hs.below hb; replace hbz := hbz.trans (hb.mono (by omega)); replace hzs := Nat.le_trans hzs hb.size; clear hb; have hm := hm0.ints; have sm := hm0.isSl; clear hm0 q0 q1 q2 q3 r0 r1 t0 t1; have q0 := pz.cell0; have q1 := pz.cell1; have q2 := pz.free0; have q3 := pz.free1)
          | (go_at_call 21; refine (addK_calls (foxSum X k) (pmul (foxL ((k : Int) + 1) X) (padd (unitP 1) (unitP 0) (-1))) (.slice bz nz kz) mv _ hv.ints hm KS KM KS1).mono ?_; rintro e w' ⟨av, rfl, ha0, hb⟩; have hav := ha0.low hzs; replace pz := pz.below hb; replace pd := pd.below hb; replace gs := gs.below hb; replace hv := hv.below hb; replace hd := hd.below hb; replace hs := hs.below hb; replace hbz := hbz.trans (hb.mono (by omega)); replace hzs := Nat.le_trans hzs hb.size; clear hb; have sa0 := hav.isSl; obtain ⟨ba, na, ka, rfl, -⟩ := hav.isSl.cases; have sa := hav.isSl; clear ha0 sa0 q0 q1 q2 q3; have q0 := pz.cell0; have q1 := pz.cell1; have q2 := pz.free0; have q3 := pz.free1)
          | fail "arm")
      all_goals
        obtain ⟨V7, hV7⟩ : ∃ V7, V7 = (w'.setCell ⟨Z, 0, none⟩ (.int .i64 (padd (foxSum X k) (pmul (foxL ((k : Int) + 1) X) (padd (unitP 1) (unitP 0) (-1))) 1).low)).setCell ⟨Z, 1, none⟩ (.slice ba na ka) := ⟨_, rfl⟩
        have y1 : Pair V7 Z 24 (.int .i64 (foxSum X (k + 1)).low) (.slice ba na ka) := by rw [hV7]; exact pz.set _ _
        have y2 : OwnI V7 (Z + 1) (.slice ba na ka) (foxSum X (k + 1)).c := by
          rw [hV7]
          exact (hav.setOther (fun b hb hc => by have h1 := (hav.lt b hb).1; simp at hc; omega) _).setOther (fun b hb hc => by have h1 := (hav.lt b hb).1; simp at hc; omega) _
        have y3 : Below Z U V7 := by rw [hV7]; exact (hbz.setCell (by simp) _).setCell (by simp) _
        have y4 : Z + 1 ≤ V7.heap.size := by rw [hV7]; simpa using hzs
        rw [← hV7]
        have R1 := Lib.hid y1; have R2 := Lib.hid y2; have R3 := Lib.hid y3
        clear hV7 y1 y2 y3 q0 q1 q2 q3 hav pz pd gs hv hd hs hbz
        go_wp2_with fail
        go_roundw
        case rel => exact ⟨k + 1, _, by omega, by go_num, R1.out, R2.out, R3.out, y4⟩
        case measure => simp [intOf]; omega
    · obtain rfl : k = 6 := by omega
      have cl0 := GLR.out.cell0; have cl1 := GLR.out.cell1
      go_wp2_with fail
      refine (same_yes (padd (unitP (expo X)) (unitP 0) (-1)) (foxSum X 6) _ _ _ HLR.out HVR.out.ints HSUM.out).mono ?_
      rintro e u6 ⟨rfl, hb⟩
      have HB7 := Lib.hid (Below.chain (HB9.out.trans (HBU.out.mono (by have := HB9.out.size; have := HUZ.out; omega))) hb)
      clear hb
      go_wp2_with fail
      go_ret
      exact ⟨rfl, HB7.out⟩

end Go.Proofs.Ytkimbhmijgfhnaa
