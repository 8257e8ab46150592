/- RingNotation: for every input the statement returns true, and nothing that was there has changed. -/
import Derived.Test.YtpnbkoihglppnaaParse
import Derived.Test.YtpnbkoihglppnaaSlices
namespace Go.Proofs.Ytpnbkoihglppnaa
open Go.RowKit Go.Sl

set_option maxHeartbeats 4000000 in
set_option maxRecDepth 100000 in
theorem ringNotation_true {w0 : World} (n : Int) (hn : I64 n) (a : Value) (as1 : List Int) (hra : Ints w0 a as1) (hxa : ∀ x ∈ as1, I64 x) (s : List UInt8)
    (w : World) (hw : w = w0 := by rfl) :
    Calls Try.prog 7 #[.int .i64 n, a, .string ⟨s.toArray⟩] w fun e w' => e = .returned (.bool true) ∧ Below w.heap.size w w' := by
  subst hw
  obtain ⟨m, hm⟩ : ∃ m : Nat, n % 7 = (m : Int) := ⟨(n % 7).toNat, by omega⟩
  have hm7 : m < 7 := by omega
  have h1m : (1 : Int) + (m : Int) = (m : Int) + 1 := Int.add_comm _ _
  obtain ⟨X, hX⟩ : ∃ X, X = changesL (m + 1) as1 60 := ⟨_, rfl⟩
  have CX : ∀ c ∈ X, Chg m c := hX ▸ changesL_right hm7 as1 60
  have LX : X.length ≤ 60 := hX ▸ changesL_length _ as1 60
  obtain ⟨T, hT⟩ : ∃ T, T = textL (m + 1) X := ⟨_, rfl⟩
  have hPT : (toksL T).map (fun t => ((chgOf m t : Nat) : Int)) = X := by rw [hT]; exact parse_text hm7 X CX
  have hTl : T.length ≤ 5040 := by
    have h := txtTo_length (m + 1) X X.length
    have h2 : X.length * (m + 1 + 2) ≤ 60 * 9 := Nat.mul_le_mul LX (by omega)
    rw [hT]
    show (txtTo (m + 1) X X.length).1.length ≤ 5040
    omega
  have HCX := Lib.hid CX; have HLX := Lib.hid LX; have HPT := Lib.hid hPT; have HTL := Lib.hid hTl
  have HM := Lib.hid hm; have HX := Lib.hid hX.symm; have HT := Lib.hid hT.symm; have HXA := Lib.hid hxa; have HRA := Lib.hid hra; have H1M := Lib.hid h1m
  have sa := hra.isSl
  clear CX LX hm hX hT hxa hra h1m hPT hTl
  go_enter Try.func7, Try.ntmps7
  go_wp2_with fail
  refine (below_calls n 7 _ (by decide) (by decide) hn).mono ?_
  rintro e w' ⟨rfl, rfl⟩
  rw [HM.out]
  go_wp2_with fail
  rw [H1M.out]
  refine (changes_calls m a as1 60 _ HRA.out HXA.out hm7 (by omega)).mono ?_
  rintro e w1 ⟨x, rfl, hx, hb1⟩
  rw [HX.out] at hx
  have sx := hx.isSl
  obtain ⟨x1, x2, x3, rfl, -⟩ := sx.cases
  have HX1 := Lib.hid hx.ints; have HB1 := Lib.hid hb1
  clear hx hb1
  go_wp2_with fail
  refine (ringText_calls m _ X _ HX1.out hm7 HCX.out (Nat.le_trans HLX.out (by omega))).mono ?_
  rw [HT.out]
  rintro e w2 ⟨rfl, hb2⟩
  have HX2 := Lib.hid (HX1.out.below hb2); have HB2 := Lib.hid (Below.chain HB1.out hb2)
  clear hb2
  go_wp2_with fail
  refine (parse_calls m T _ hm7).mono ?_
  rintro e w3 ⟨y, er1, rfl, hy, hb3⟩
  rw [HPT.out, HT.out] at hy
  have hy' : er1 = 0 ∧ OwnI w3 w2.heap.size y X := by
    rcases hy with ⟨h, -⟩ | ⟨-, h, -⟩ | ⟨-, -, h1, h2⟩
    · exact absurd HTL.out (by omega)
    · exact (h rfl).elim
    · exact ⟨h1, h2⟩
  obtain ⟨rfl, hyo⟩ := hy'
  have sy := hyo.isSl
  obtain ⟨y1, y2, y3, rfl, -⟩ := sy.cases
  have HY3 := Lib.hid hyo.ints; have HX3 := Lib.hid (HX2.out.below hb3); have HB3 := Lib.hid (Below.chain HB2.out hb3)
  clear hy hyo hb3
  go_wp2_with fail
  refine (parse_calls m s _ hm7).mono ?_
  obtain ⟨Z, hZ⟩ : ∃ Z, Z = (toksL s).map (fun t => ((chgOf m t : Nat) : Int)) := ⟨_, rfl⟩
  rw [← hZ]
  have hZc : ∀ c ∈ Z, Chg m c := fun c hc => by
    rw [hZ] at hc
    obtain ⟨t, _, rfl⟩ := List.mem_map.1 hc
    exact chgOf_right hm7 t
  have hZl : Z.length ≤ s.length := by rw [hZ, List.length_map]; exact toksL_length _ s (Nat.le_refl _)
  have HZC := Lib.hid hZc; have HZL := Lib.hid hZl
  clear hZ hZc hZl
  rintro e w4 ⟨z, er2, rfl, hz, hb4⟩
  have HY4 := Lib.hid (HY3.out.below hb4); have HX4 := Lib.hid (HX3.out.below hb4); have HB4 := Lib.hid (Below.chain HB3.out hb4)
  clear hb4
  have hcase : (er2 ≠ 0 ∧ z = .slice none 0 0) ∨ (er2 = 0 ∧ s.length ≤ 5040 ∧ textL (m + 1) Z = s ∧ OwnI w4 w3.heap.size z Z) := by
    rcases hz with ⟨-, rfl, rfl⟩ | ⟨-, -, rfl, rfl⟩ | ⟨h0, h1, rfl, h2⟩
    · exact .inl ⟨by decide, rfl⟩
    · exact .inl ⟨by decide, rfl⟩
    · exact .inr ⟨rfl, h0, h1, h2⟩
  clear hz
  rcases hcase with ⟨her, rfl⟩ | ⟨rfl, hsl, htx, hzo⟩
  · go_wp2_with fail
    refine (ringText_calls m _ [] _ (ints_nil _) hm7 (fun c hc => by simp at hc) (by simp)).mono ?_
    rintro e w5 ⟨rfl, hb5⟩
    have HY5 := Lib.hid (HY4.out.below hb5); have HX5 := Lib.hid (HX4.out.below hb5); have HB5 := Lib.hid (Below.chain HB4.out hb5)
    clear hb5
    go_wp2_with fail
    refine (rung_calls _).mono ?_
    rintro e w6 ⟨rfl, hb6⟩
    have HY6 := Lib.hid (HY5.out.below hb6); have HX6 := Lib.hid (HX5.out.below hb6); have HB6 := Lib.hid (Below.chain HB5.out hb6)
    clear hb6
    go_wp2_with fail
    refine (equal_calls _ _ X X _ HX6.out HY6.out).mono ?_
    rintro e w7 ⟨rfl, hb7⟩
    rw [show decide (X = X) = true from decide_eq_true rfl]
    have HB7 := Lib.hid (Below.chain HB6.out hb7)
    clear hb7
    go_wp2_with fail
    go_ret
    exact ⟨rfl, HB7.out⟩
  · have sz := hzo.isSl
    have HZ4 := Lib.hid hzo.ints; have HTX := Lib.hid htx; have HSL := Lib.hid hsl
    clear hzo htx hsl
    obtain ⟨z1, z2, z3, rfl, -⟩ := sz.cases
    go_wp2_with fail
    refine (ringText_calls m _ Z _ HZ4.out hm7 HZC.out (Nat.le_trans HZL.out HSL.out)).mono ?_
    rw [HTX.out]
    rintro e w5 ⟨rfl, hb5⟩
    have HY5 := Lib.hid (HY4.out.below hb5); have HX5 := Lib.hid (HX4.out.below hb5); have HB5 := Lib.hid (Below.chain HB4.out hb5)
    clear hb5
    go_wp2_with fail
    refine (rung_calls _).mono ?_
    rintro e w6 ⟨rfl, hb6⟩
    have HY6 := Lib.hid (HY5.out.below hb6); have HX6 := Lib.hid (HX5.out.below hb6); have HB6 := Lib.hid (Below.chain HB5.out hb6)
    clear hb6
    go_wp2_with fail
    refine (equal_calls _ _ X X _ HX6.out HY6.out).mono ?_
    rintro e w7 ⟨rfl, hb7⟩
    rw [show decide (X = X) = true from decide_eq_true rfl]
    have HB7 := Lib.hid (Below.chain HB6.out hb7)
    clear hb7
    go_wp2_with fail
    go_ret
    exact ⟨rfl, HB7.out⟩
end Go.Proofs.Ytpnbkoihglppnaa
