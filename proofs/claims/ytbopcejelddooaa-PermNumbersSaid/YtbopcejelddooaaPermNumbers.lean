/- PermNumbers: for every input the statement returns true, and nothing that was there has changed. -/
import Derived.Test.YtbopcejelddooaaPermGroup
import Derived.Test.YtbopcejelddooaaUnrank
namespace Go.Proofs.Ytbopcejelddooaa
open Go.RowKit Go.Sl

set_option maxHeartbeats 4000000 in
set_option maxRecDepth 100000 in
theorem permNumbers_true {w0 : World} (n : Int) (hn : I64 n) (a : Value) (xs : List Int) (ha : Ints w0 a xs) (hxa : ∀ x ∈ xs, I64 x) (b : Value) (ys : List Int) (hb : Ints w0 b ys) (hyb : ∀ x ∈ ys, I64 x)
    (w : World) (hw : w = w0 := by rfl) :
    Calls Try.prog 12 #[.int .i64 n, a, b] w fun e w' => e = .returned (.bool true) ∧ Below w.heap.size w w' := by
  subst hw
  obtain ⟨m, hm⟩ : ∃ m : Nat, n % 10 = (m : Int) := ⟨(n % 10).toNat, by omega⟩
  have hm10 : m ≤ 9 := by omega
  have HM := Lib.hid hm; clear hm
  have HB : Below w.heap.size w w := Below.refl _ _
  have px : IsPerm (permL m xs) := permL_isPerm xs (by omega)
  have py : IsPerm (permL m ys) := permL_isPerm ys (by omega)
  have hxl : (permL m xs).length = m := permL_length _ _
  have hyl : (permL m ys).length = m := permL_length _ _
  obtain ⟨rx, hrx⟩ : ∃ rx, rankL (permL m xs) = rx := ⟨_, rfl⟩
  obtain ⟨ry, hry⟩ : ∃ ry, rankL (permL m ys) = ry := ⟨_, rfl⟩
  have kx : rk (permL m xs) = rx := by rw [← rankL_rk, hrx]
  have ky : rk (permL m ys) = ry := by rw [← rankL_rk, hry]
  have hlt : rx < fact m := by have := rk_lt (permL m xs); rw [hxl, kx] at this; exact this
  have p1 : (permL m xs).Perm (iota m) := by have := px.1; rwa [hxl] at this
  have p2 : (permL m ys).Perm (iota m) := by have := py.1; rwa [hyl] at this
  have hun : unrankGo m (iota m) rx = permL m xs := by have := unrank_rk _ _ (asc_iota m) p1; rwa [hxl, kx] at this
  have hcmp := rk_cmp _ _ _ (asc_iota m) p1 p2
  rw [kx, ky] at hcmp
  have hfin : (decide (rx < ry) == decide (cmpL (permL m xs) (permL m ys) < 0)) = true := by
    by_cases h : rx < ry
    · rw [decide_eq_true h, decide_eq_true (hcmp.1 h)]; rfl
    · rw [decide_eq_false h, decide_eq_false (fun h' => h (hcmp.2 h'))]; rfl
  have hb1 := fact_le m hm10
  have hb2 : ry < fact m := by have := rk_lt (permL m ys); rw [hyl, ky] at this; exact this
  have HXL := Lib.hid hxl; have HYL := Lib.hid hyl; have HRX := Lib.hid hrx; have HRY := Lib.hid hry; have HLT := Lib.hid hlt; have HUN := Lib.hid hun; have HFIN := Lib.hid hfin
  have HXA := Lib.hid hxa; have HYB := Lib.hid hyb
  have hrxb : rx ≤ 362880 := by omega
  have hryb : ry ≤ 362880 := by omega
  clear hxl hyl hrx hry hlt hun hfin hxa hyb kx ky hcmp p1 p2 hb1 hb2
  go_enter Try.func12, Try.ntmps12
  go_wp2_with fail
  refine (below_nat n 10 m _ (by omega) (by omega) hn HM.out).mono ?_
  rintro e w' ⟨rfl, rfl⟩
  go_wp2_with fail
  refine (perm_calls m a xs _ ha (by omega) HXA.out).mono ?_
  rintro e u2 ⟨x, rfl, hx0, hb2⟩
  replace hb := hb.below hb2
  replace HB := Below.chain HB hb2; clear hb2 ha
  have hx := hx0.ints
  clear hx0
  have s_hx := hx.isSl
  go_wp2_with fail
  refine (perm_calls m b ys _ hb (by omega) HYB.out).mono ?_
  rintro e u3 ⟨y, rfl, hy0, hb3⟩
  replace hx := hx.below hb3
  replace HB := Below.chain HB hb3; clear hb3 hb
  have hy := hy0.ints
  clear hy0
  have s_hy := hy.isSl
  go_wp2_with fail
  refine (rank_calls _ _ _ hx px (by have := HXL.out; omega)).mono ?_
  rintro e u4 ⟨rfl, rfl⟩
  rw [HRX.out]
  go_wp2_with fail
  refine (rank_calls _ _ _ hy py (by have := HYL.out; omega)).mono ?_
  rintro e u4 ⟨rfl, rfl⟩
  rw [HRY.out]
  go_wp2_with fail
  refine (unrank_calls m rx _ hm10 HLT.out).mono ?_
  rintro e u5 ⟨z, rfl, hz0, hb5⟩
  rw [HUN.out] at hz0
  replace hx := hx.below hb5
  replace hy := hy.below hb5
  replace HB := Below.chain HB hb5; clear hb5
  have hz := hz0.ints
  clear hz0
  have s_hz := hz.isSl
  go_wp2_with fail
  refine (permuted_calls _).mono ?_
  rintro e u6 ⟨rfl, hb6⟩
  replace hx := hx.below hb6
  replace hy := hy.below hb6
  replace hz := hz.below hb6
  replace HB := Below.chain HB hb6; clear hb6
  go_wp2_with fail
  refine (equal_yes _ _ _ _ _ hx hz rfl).mono ?_
  rintro e u7 ⟨rfl, hb7⟩
  replace hx := hx.below hb7
  replace hy := hy.below hb7
  replace HB := Below.chain HB hb7; clear hb7
  go_wp2_with fail
  refine (compare_calls _ _ _ _ _ hx hy).mono ?_
  rintro e u8 ⟨rfl, rfl⟩
  go_wp2_with fail
  go_ret
  have hf := HFIN.out
  refine ⟨?_, HB⟩
  show Ending.returned (Value.bool (decide (rx < ry) == decide (cmpL (permL m xs) (permL m ys) < 0))) = _
  rw [hf]

end Go.Proofs.Ytbopcejelddooaa
