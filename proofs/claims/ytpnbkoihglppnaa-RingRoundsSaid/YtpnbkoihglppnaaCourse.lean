/- ringing.Course walked; the rows of a course. -/
import Derived.Test.YtpnbkoihglppnaaRingHead
import Derived.Test.YtpnbkoihglppnaaRepeat
import Derived.Test.YtpnbkoihglppnaaOrder
import Derived.Deep.RegionHeld3
namespace Go.Proofs.Ytpnbkoihglppnaa
open Go.RowKit Go.Sl

theorem order_one {a : List Int} {m m' : Nat} (h : IsOrder a m) (k : IsOrder a m') : m = m' :=
  Nat.dvd_antisymm ((h.iff m').1 ((k.iff m').2 (Nat.dvd_refl _))) ((k.iff m).1 ((h.iff m).2 (Nat.dvd_refl _)))
theorem run_again (m : Nat) (hm : m < 7) (xs : List Int) (k : Nat) : runL (iota (m + 1)) (List.replicate k xs).flatten = powL (runL (iota (m + 1)) xs) k := by
  have hl := run_len (m + 1) xs
  induction k with
  | zero =>
    show iota (m + 1) = powL _ 0
    have : powL (runL (iota (m + 1)) xs) 0 = iota (runL (iota (m + 1)) xs).length := rfl
    rw [this, hl]
  | succ k ih =>
    rw [List.replicate_succ, List.flatten_cons, run_compose, ih]
    have h1 : powL (runL (iota (m + 1)) xs) 1 = runL (iota (m + 1)) xs := by
      have := powL_add (run_iota_perm m hm xs) 0 1
      have h0 : powL (runL (iota (m + 1)) xs) 1 = thenL (runL (iota (m + 1)) xs) (iota (runL (iota (m + 1)) xs).length) ∨ powL (runL (iota (m + 1)) xs) 1 = thenL (iota (runL (iota (m + 1)) xs).length) (runL (iota (m + 1)) xs) := by
        first
          | exact .inl rfl
          | exact .inr rfl
      rcases h0 with h0 | h0
      · rw [h0]; exact iota_thenL (run_iota_perm m hm xs).range
      · rw [h0]; exact thenL_iota _
    have h2 := powL_add (run_iota_perm m hm xs) k 1
    rw [h1] at h2
    exact h2
theorem take_again (xs : List Int) {j k : Nat} (h : j ≤ k) : (List.replicate k xs).flatten.take (j * xs.length) = (List.replicate j xs).flatten := by
  obtain ⟨d, rfl⟩ : ∃ d, k = j + d := ⟨k - j, by omega⟩
  rw [← List.replicate_append_replicate, List.flatten_append, List.take_append_of_le_length (by rw [rep_len, Nat.mul_comm]; exact Nat.le_refl _), List.take_of_length_le (by rw [rep_len, Nat.mul_comm]; exact Nat.le_refl _)]

set_option maxRecDepth 100000 in
set_option maxHeartbeats 2000000 in
theorem course_calls (m : Nat) (v : Value) (cs : List Int) (w : World) (hv : Ints w v cs) (hm : m < 7) (hc : ∀ c ∈ cs, Chg m c) (hl : cs.length ≤ 30) :
    Calls Try.prog 33 #[.int .i64 ((m : Int) + 1), v] w fun e w' => ∃ u k, e = .returned (.tuple #[u, .int .i64 0]) ∧ IsOrder (runL (iota (m + 1)) cs) k ∧ OwnI w' w.heap.size u (List.replicate k cs).flatten ∧ Below w.heap.size w w' := by
  have sv := hv.isSl
  have lv := hv.len
  obtain ⟨L, hL⟩ : ∃ L, cs.length = L := ⟨_, rfl⟩
  have hl2 := hl
  rw [hL] at hl2 lv
  have HV := Lib.hid hv; have HC := Lib.hid hc; have HL := Lib.hid hl; have HLL := Lib.hid hL
  clear hv hc hl hL
  go_enter Try.func33, Try.ntmps33
  go_wp2_with fail
  refine (leadHead_calls m v cs _ HV.out hm HC.out (Nat.le_trans HL.out (by omega))).mono ?_
  rintro e w1 ⟨h, rfl, hh, hb1⟩
  have sh := hh.isSl
  obtain ⟨p1, p2, p3, rfl, -⟩ := sh.cases
  have HH := Lib.hid hh.ints; have HB1 := Lib.hid hb1
  clear hh hb1
  go_wp2_with fail
  refine (order_calls _ _ _ HH.out (run_iota_perm m hm cs) (by rw [run_len]; omega)).mono ?_
  rintro e w2 ⟨k, rfl, hk, hb2⟩
  have hk1 := hk.pos
  have hk2 : k ≤ 128 := by
    have h1 := hk.pow
    rw [run_len] at h1
    exact Nat.le_trans h1 (Nat.le_trans (Nat.pow_le_pow_right (by omega) (show m + 1 ≤ 7 by omega)) (by decide))
  have hkL : k * L ≤ 3840 := Nat.mul_le_mul hk2 hl2
  have hkn : ¬ ((k : Int) * (L : Int)) > 5040 := by rw [← Int.natCast_mul]; omega
  have hkw : IntKind.i64.wrap ((k : Int) * (L : Int)) = (k : Int) * (L : Int) := IntWalk.i64_in _ (by rw [← Int.natCast_mul]; omega)
  have HK := Lib.hid hk; have HB2 := Lib.hid (Below.chain HB1.out hb2); have HKL := Lib.hid hkL
  clear hk hb2 hkL
  go_wp2_with fail
  refine (repeat_calls v cs k _ (HV.out.below HB2.out) (by omega) (by omega) (Nat.le_trans HL.out (by omega)) (by rw [HLL.out, Nat.mul_comm]; exact Nat.le_trans HKL.out (by omega))).mono ?_
  rintro e w3 ⟨u, rfl, hu, hb3⟩
  have su := hu.isSl
  have HU := Lib.hid hu; have HB3 := Lib.hid (Below.chain HB2.out hb3)
  have hz := HB2.out.size
  clear hu hb3
  go_wp2_with fail
  refine (clip_calls u _ _ _ HU.out).mono ?_
  rintro e w4 ⟨rfl, u2, rfl, hu2⟩
  have su2 := hu2.isSl
  have HU2 := Lib.hid hu2; clear hu2
  go_wp2_with fail
  go_ret2
  exact ⟨_, k, rfl, HK.out, HU2.out.low hz, HB3.out⟩

set_option maxHeartbeats 8000000 in
set_option maxRecDepth 100000 in
theorem ringRounds_true {w0 : World} (n : Int) (hn : I64 n) (a : Value) (as1 : List Int) (hra : Ints w0 a as1) (hxa : ∀ x ∈ as1, I64 x)
    (w : World) (hw : w = w0 := by rfl) :
    Calls Try.prog 6 #[.int .i64 n, a] w fun e w' => e = .returned (.bool true) ∧ Below w.heap.size w w' := by
  subst hw
  obtain ⟨m, hm⟩ : ∃ m : Nat, n % 7 = (m : Int) := ⟨(n % 7).toNat, by omega⟩
  have hm7 : m < 7 := by omega
  have h1m : (1 : Int) + (m : Int) = (m : Int) + 1 := Int.add_comm _ _
  obtain ⟨X, hX⟩ : ∃ X, X = changesL (m + 1) as1 30 := ⟨_, rfl⟩
  have CX : ∀ c ∈ X, Chg m c := hX ▸ changesL_right hm7 as1 30
  have LX : X.length ≤ 30 := hX ▸ changesL_length _ as1 30
  obtain ⟨L, hL⟩ : ∃ L, X.length = L := ⟨_, rfl⟩
  have hL30 : L ≤ 30 := by rw [← hL]; exact LX
  have HL := Lib.hid hL
  have HCX := Lib.hid CX; have HLX := Lib.hid LX
  have HM := Lib.hid hm; have HX := Lib.hid hX.symm; have HXA := Lib.hid hxa; have HRA := Lib.hid hra; have H1M := Lib.hid h1m
  have sa := hra.isSl
  clear CX LX hm hX hxa hra hL h1m
  go_enter Try.func6, Try.ntmps6
  go_wp2_with fail
  refine (below_calls n 7 _ (by decide) (by decide) hn).mono ?_
  rintro e w' ⟨rfl, rfl⟩
  rw [HM.out]
  go_wp2_with fail
  rw [H1M.out]
  refine (changes_calls m a as1 30 _ HRA.out HXA.out hm7 (by omega)).mono ?_
  rintro e w1 ⟨x, rfl, hx, hb1⟩
  rw [HX.out] at hx
  have sx := hx.isSl
  have lx := hx.len
  rw [HL.out] at lx
  obtain ⟨x1, x2, x3, rfl, -⟩ := sx.cases
  have HX1 := Lib.hid hx.ints; have HB01 := Lib.hid hb1
  clear hx hb1
  go_wp2_with fail
  refine (course_calls m _ X _ HX1.out hm7 HCX.out HLX.out).mono ?_
  rintro e w2 ⟨c, k, rfl, hk, hc, hb2⟩
  have hk1 := hk.pos
  have hk2 : k ≤ 128 := by
    have h1 := hk.pow
    rw [run_len] at h1
    exact Nat.le_trans h1 (Nat.le_trans (Nat.pow_le_pow_right (by omega) (show m + 1 ≤ 7 by omega)) (by decide))
  have hkL : k * L ≤ 3840 := Nat.mul_le_mul hk2 hL30
  obtain ⟨C, hC⟩ : ∃ C, C = (List.replicate k X).flatten := ⟨_, rfl⟩
  rw [← hC] at hc
  have hCl : C.length = k * L := by rw [hC, rep_len, HL.out, Nat.mul_comm]
  have hCc : ∀ z ∈ C, Chg m z := fun z hz => by
    rw [hC] at hz
    obtain ⟨r, hr, hzr⟩ := List.mem_flatten.1 hz
    rw [List.eq_of_mem_replicate hr] at hzr
    exact HCX.out z hzr
  have hlast : runL (iota (m + 1)) C = iota (m + 1) := by
    rw [hC, run_again m hm7 X k, (hk.iff k).2 (Nat.dvd_refl _), run_len]
  obtain ⟨R, hR⟩ : ∃ R, k * L = R := ⟨_, rfl⟩
  rw [hR] at hCl hkL
  have hmid : ∀ j, 0 < j → j < k → j * L ≤ R ∧ runL (iota (m + 1)) (C.take (j * L)) ≠ iota (m + 1) := fun j h0 hj => by
    refine ⟨by rw [← hR]; exact Nat.mul_le_mul_right L (by omega), fun h => ?_⟩
    rw [hC, ← HL.out, take_again X (show j ≤ k by omega), run_again m hm7 X j] at h
    have h2 := (hk.iff j).1 (by rw [run_len]; exact h)
    have := Nat.le_of_dvd h0 h2
    omega
  have hfirst : C.take L = X := by
    have := take_again X (show 1 ≤ k by omega)
    rw [Nat.one_mul, HL.out, ← hC] at this
    rw [this]; simp
  have hLR : L ≤ R := by rw [← hR]; exact Nat.le_mul_of_pos_left L (by omega)
  have sc := hc.isSl
  have lc := hc.len
  rw [hCl] at lc
  obtain ⟨c1, c2, c3, rfl, -⟩ := sc.cases
  have HK := Lib.hid hk; have HC := Lib.hid hC; have HCL := Lib.hid hCl; have HCC := Lib.hid hCc; have HLAST := Lib.hid hlast; have HMID := Lib.hid hmid; have HFIRST := Lib.hid hfirst; have HR := Lib.hid hR
  have HC2 := Lib.hid hc.ints; have HX2 := Lib.hid (HX1.out.below hb2); have HB02 := Lib.hid (Below.chain HB01.out hb2)
  clear hk hC hCl hCc hlast hmid hfirst hc hb2 hR
  go_wp2_with fail
  refine (leadHead_calls m _ C _ HC2.out hm7 HCC.out (by rw [HCL.out]; omega)).mono ?_
  rintro e w3 ⟨h, rfl, hh, hb3⟩
  rw [HLAST.out] at hh
  have sh := hh.isSl
  obtain ⟨h1, h2, h3, rfl, -⟩ := sh.cases
  have HH3 := Lib.hid hh.ints; have HC3 := Lib.hid (HC2.out.below hb3); have HX3 := Lib.hid (HX2.out.below hb3); have HB03 := Lib.hid (Below.chain HB02.out hb3)
  clear hh hb3
  go_wp2_with fail
  refine (leadHead_calls m _ X _ HX3.out hm7 HCX.out (Nat.le_trans HLX.out (by omega))).mono ?_
  rintro e w4 ⟨f, rfl, hf, hb4⟩
  have sf := hf.isSl
  obtain ⟨f1, f2, f3, rfl, -⟩ := sf.cases
  have HF4 := Lib.hid hf.ints; have HH4 := Lib.hid (HH3.out.below hb4); have HC4 := Lib.hid (HC3.out.below hb4); have HX4 := Lib.hid (HX3.out.below hb4); have HB04 := Lib.hid (Below.chain HB03.out hb4)
  clear hf hb4
  go_wp2_with fail
  refine (order_calls _ _ _ HF4.out (run_iota_perm m hm7 X) (by rw [run_len]; omega)).mono ?_
  rintro e w5 ⟨k', rfl, hk', hb5⟩
  have hkk := order_one hk' HK.out
  subst hkk
  have HH5 := Lib.hid (HH4.out.below hb5); have HC5 := Lib.hid (HC4.out.below hb5); have HX5 := Lib.hid (HX4.out.below hb5); have HB05 := Lib.hid (Below.chain HB04.out hb5)
  clear hk' hb5
  go_wp2_with fail
  refine (ringRows_calls m _ C _ HC5.out hm7 HCC.out (by rw [HCL.out]; omega)).mono ?_
  rintro e w6 ⟨r, rs, rfl, hr, hb6⟩
  rw [HCL.out] at hr
  have sr := hr.rows.isSl
  have lr := hr.rows.len
  rw [rowsTo_length] at lr
  obtain ⟨r1, r2, r3, rfl, -⟩ := sr.cases
  have HR6 := Lib.hid hr.rows; have HH6 := Lib.hid (HH5.out.below hb6); have HC6 := Lib.hid (HC5.out.below hb6); have HX6 := Lib.hid (HX5.out.below hb6); have HB06 := Lib.hid (Below.chain HB05.out hb6)
  clear hr hb6
  go_wp2_with fail
  refine (rung_calls _).mono ?_
  rintro e w7 ⟨rfl, hb7⟩
  have HR7 := Lib.hid (HR6.out.below hb7); have HH7 := Lib.hid (HH6.out.below hb7); have HC7 := Lib.hid (HC6.out.below hb7); have HX7 := Lib.hid (HX6.out.below hb7); have HB07 := Lib.hid (Below.chain HB06.out hb7)
  clear hb7
  have hRk : ((R : Int) != (k' : Int) * (L : Int)) = false := by have := HR.out; rw [← this]; simp
  have hRw : IntKind.i64.wrap ((k' : Int) * (L : Int)) = (k' : Int) * (L : Int) := IntWalk.i64_in _ (by rw [← Int.natCast_mul]; have := HR.out; omega)
  have HRK := Lib.hid hRk; have HRW := Lib.hid hRw
  go_wp2_with fail
  refine (permNil_calls m _ hm7).mono ?_
  rintro e w8 ⟨t, rfl, ht, hb8⟩
  have st := ht.isSl
  have HT8 := Lib.hid ht.ints; have HR8 := Lib.hid (HR7.out.below hb8); have HH8 := Lib.hid (HH7.out.below hb8); have HC8 := Lib.hid (HC7.out.below hb8); have HX8 := Lib.hid (HX7.out.below hb8); have HB08 := Lib.hid (Below.chain HB07.out hb8)
  clear ht hb8
  go_wp2_with fail
  refine (equal_calls _ t _ _ _ HH8.out HT8.out).mono ?_
  rintro e w9 ⟨rfl, hb9⟩
  rw [decide_eq_true rfl]
  have HR9 := Lib.hid (HR8.out.below hb9); have HC9 := Lib.hid (HC8.out.below hb9); have HX9 := Lib.hid (HX8.out.below hb9); have HB09 := Lib.hid (Below.chain HB08.out hb9)
  clear hb9
  go_wp2_with fail
  go_loopw [16] (fun i wr => ∃ j : Nat, 1 ≤ j ∧ j ≤ k' ∧ i = .int .i64 j ∧ Below w9.heap.size w9 wr) (fun i _ => k' - (intOf i).toNat)
  case atStart => exact ⟨1, by omega, by omega, rfl, Below.refl _ _⟩
  case round =>
    obtain ⟨j, hj1, hj2, rfl, hbr⟩ := hrel
    by_cases hlt : j < k'
    · obtain ⟨hjL, hne⟩ := HMID.out j (by omega) hlt
      obtain ⟨J, hJ⟩ : ∃ J, j * L = J := ⟨_, rfl⟩
      have hji : (j : Int) * (L : Int) = (J : Int) := by rw [← hJ, Int.natCast_mul]
      rw [hJ] at hjL hne
      have hJw : IntKind.i64.wrap (J : Int) = (J : Int) := IntWalk.i64_in _ (by omega)
      have hJ0 : (0 : Int) ≤ (J : Int) := by omega
      have hJR1 : (J : Int) < (R : Int) + 1 := by omega
      have hJR2 : (J : Int) < ((R + 1 : Nat) : Int) := by omega
      have hJn : ((J : Int)).toNat = J := by omega
      have hRr := HR9.out.below (hbr.drew)
      have hJR : J < (rowsTo (m + 1) C R).length := by rw [rowsTo_length]; omega
      have srr := (hRr.row hJR).isSl
      have hnr : nthr (rowsTo (m + 1) C R) J = runL (iota (m + 1)) (C.take J) := nthr_rowsTo hjL
      have HNR := Lib.hid hnr; have HNE := Lib.hid hne; have HJR := Lib.hid hJR
      clear HL HCX HLX HM HX HXA HRA H1M HK HC HCL HCC HLAST HMID HFIRST HR HX1 HB01 HC2 HX2 HB02 HH3 HC3 HX3 HB03 HF4 HH4 HC4 HX4 HB04 HH5 HC5 HX5 HB05 HR6 HH6 HC6 HX6 HB06 HR7 HH7 HC7 HX7 HB07 HT8 HR8 HH8 HC8 HX8 HB08 HC9 HX9 HRK HRW
      have hbd : Below w9.heap.size w9 wr.drew := hbr.drew
      clear hnr hne hJ hJR
      go_wp2_with fail
      go_region_held3 (fun w' => w'.cell? (vat (.slice r1 r2 r3) J) = some (nthv rs J)) (exact hRr.cell HJR.out)
        (first
          | (go_at_call 32; refine (permNil_calls m _ hm7).mono ?_; rintro e u1 ⟨s, rfl, hs, hb1⟩; have ss := hs.isSl; replace hRr := hRr.below hb1; replace hbd := Below.chain hbd hb1; clear hb1)
          | (go_at_call 23; refine (equal_calls _ s _ _ _ (hRr.row HJR.out) hs.ints).mono ?_; rintro e u2 ⟨rfl, hb2⟩; rw [HNR.out, decide_eq_false HNE.out]; replace hRr := hRr.below hb2; replace hbd := Below.chain hbd hb2; clear hb2)
          | fail "arm")
      all_goals (try go_wp2_with fail)
      all_goals exact ⟨⟨j + 1, by omega, by omega, by go_num, hbd⟩, by simp [intOf]; omega⟩
    · have hc9 := HC9.out.below hbr
      have hcap := hc9.cap
      rw [HCL.out] at hcap
      have hc3 : L ≤ c3 := Nat.le_trans hLR hcap
      have hcut0 := hc9.cut (l := 0) (r := L) (m := c3) (Nat.zero_le _) (by rw [HCL.out]; exact hLR) hc3 (Nat.le_refl _)
      rw [List.drop_zero, Nat.sub_zero, HFIRST.out] at hcut0
      have hx9 := HX9.out.below hbr
      have hcv : vcut (.slice c1 c2 c3) 0 L c3 1 = .slice c1 L c3 := by simp [vcut, vbase, go_sem]
      rw [hcv] at hcut0
      have scut := hcut0.isSl
      have HCUT := Lib.hid hcut0; have HXR := Lib.hid hx9; have HBR := Lib.hid hbr
      clear hcut0 hcap hc9 hx9 hbr
      go_wp2_with fail
      refine (equal_calls _ _ X X _ HCUT.out HXR.out).mono ?_
      rintro e u1 ⟨rfl, hb1⟩
      rw [show decide (X = X) = true from decide_eq_true rfl]
      have HB1' := Lib.hid (Below.chain HBR.out hb1)
      clear hb1
      go_wp2_with fail
      go_ret
      exact ⟨rfl, Below.chain HB09.out HB1'.out⟩
end Go.Proofs.Ytpnbkoihglppnaa
