/- ArtinRelations: for every input the statement returns true, and nothing that was there has changed. -/
import Derived.Test.YtkimbhmijgfhnaaSides
import Derived.Test.YtkimbhmijgfhnaaEqualFunc
namespace Go.Proofs.Ytkimbhmijgfhnaa
open Go.RowKit Go.Sl
attribute [local go_sem] Oper.semAt_some

theorem images_calls' (n : Nat) (v : Value) (xs : List Int) (w : World) (hv : Ints w v xs) (h1 : 2 ≤ n) (h2 : n ≤ 6) (hx : BWord n xs) (hl : xs.length ≤ 30) :
    Calls Try.prog 45 #[.int .i64 n, v] w fun e w' => ∃ (u : Value) (er : Int), e = .returned (.tuple #[u, .int .i64 er]) ∧ IsSl u ∧ (er = 2 ∧ TooLong n xs ∨ er = 0 ∧ ∃ us, RowsV w' u us (imagesA n xs)) ∧ Below w.heap.size w w' := by
  refine (images_calls n v xs w hv h1 h2 hx hl).mono ?_
  rintro e w' ⟨⟨rfl, h⟩ | ⟨u, vs, rfl, h⟩, hb⟩
  · exact ⟨_, _, rfl, isSl_nil, .inl ⟨rfl, h⟩, hb⟩
  · exact ⟨_, _, rfl, h.rows.isSl, .inr ⟨rfl, _, h.rows⟩, hb⟩

set_option maxRecDepth 100000 in
set_option maxHeartbeats 2000000 in
theorem aequal_calls (n : Nat) (a b : Value) (xs ys : List Int) (w : World) (ha : Ints w a xs) (hb : Ints w b ys) (h1 : 2 ≤ n) (h2 : n ≤ 6) (hx : BWord n xs) (hy : BWord n ys) (hlx : xs.length ≤ 30) (hly : ys.length ≤ 30) :
    Calls Try.prog 48 #[.int .i64 n, a, b] w fun e w' => ∃ (r : Bool) (er : Int), e = .returned (.tuple #[.bool r, .int .i64 er]) ∧ (er = 2 ∨ er = 0 ∧ r = decide (imagesA n xs = imagesA n ys)) ∧ Below w.heap.size w w' := by
  have sa := ha.isSl
  have sb := hb.isSl
  have HA := Lib.hid ha; have HB := Lib.hid hb; have HX := Lib.hid hx; have HY := Lib.hid hy; have HLX := Lib.hid hlx; have HLY := Lib.hid hly
  clear ha hb hx hy hlx hly
  go_enter Try.func48, Try.ntmps48
  go_wp2_with fail
  refine (images_calls' n a xs _ HA.out h1 h2 HX.out HLX.out).mono ?_
  rintro e w1 ⟨u, er, rfl, su, ⟨rfl, -⟩ | ⟨rfl, us, hu⟩, hb1⟩
  · have HB1 := Lib.hid hb1; clear hb1
    go_wp2_with fail
    go_ret2
    exact ⟨_, _, rfl, .inl rfl, HB1.out⟩
  · have HU := Lib.hid hu; have HB1 := Lib.hid hb1; clear hu hb1
    obtain ⟨u1, u2, u3, rfl, -⟩ := su.cases
    go_wp2_with fail
    refine (images_calls' n b ys _ (HB.out.below HB1.out) h1 h2 HY.out HLY.out).mono ?_
    rintro e w2 ⟨v, er, rfl, sv, ⟨rfl, -⟩ | ⟨rfl, vs, hv⟩, hb2⟩
    · have HB2 := Lib.hid hb2; clear hb2
      go_wp2_with fail
      go_ret2
      exact ⟨_, _, rfl, .inl rfl, Below.chain HB1.out HB2.out⟩
    · have HV := Lib.hid hv; have HB2 := Lib.hid hb2; clear hv hb2
      obtain ⟨v1, v2, v3, rfl, -⟩ := sv.cases
      go_wp2_with fail
      refine (equalFunc_calls _ _ us vs (imagesA n xs) (imagesA n ys) _ (enters_some (Go.Proofs.enters_of Try.func40 (by kernel_rfl) rfl)) _ (HU.out.below HB2.out) HV.out (fun W c d xs ys h k => equal_calls c d xs ys W h k)).mono ?_
      rintro e w3 ⟨rfl, hb3⟩
      have HB3 := Lib.hid hb3; clear hb3
      go_wp2_with fail
      go_ret2
      exact ⟨_, _, rfl, .inr ⟨rfl, rfl⟩, Below.chain (Below.chain HB1.out HB2.out) HB3.out⟩

theorem images_two : imagesA 2 [1] = [[1, 2, -1], [1]] := by decide
theorem short_two : ¬ TooLong 2 [1] := by
  rintro ⟨j, hj, r, hr, hl⟩
  have h : ∀ j, j ≤ 1 → ∀ r ∈ ([1] : List Int).reverse.take j |>.foldl stepA (gensA 2), r.length ≤ 3 := by
    intro j hj
    rcases (show j = 0 ∨ j = 1 by omega) with rfl | rfl <;> decide
  have := h j hj r hr
  omega

set_option maxRecDepth 100000 in
set_option maxHeartbeats 2000000 in
theorem imaged_calls (w : World) : Calls Try.prog 50 #[] w fun e w' => e = .returned (.bool true) ∧ Below w.heap.size w w' := by
  go_enter Try.func50, Try.ntmps50
  go_wp2_with fail
  refine (images_calls' 2 _ [1] _ (ints_lit [1] rfl rfl rfl (by simp)) (by omega) (by omega) (by intro x hx; simp at hx; omega) (by simp)).mono ?_
  rintro e w1 ⟨u, er, rfl, su, ⟨rfl, h⟩ | ⟨rfl, us, hu⟩, hb1⟩
  · exact (short_two h).elim
  rw [images_two] at hu
  have lu := hu.len
  have hb01 : Below w.heap.size w w1 := Below.chain ((Below.refl _ _).alloc (Nat.le_refl _) _) hb1
  have c0 := hu.cell (i := 0) (by simp)
  have c1 := hu.cell (i := 1) (by simp)
  have r0 := hu.row (i := 0) (by simp)
  have r1 := hu.row (i := 1) (by simp)
  have s0 := r0.isSl
  have s1 := r1.isSl
  simp only [List.length_cons, List.length_nil] at lu
  have HU := Lib.hid hu; have HB1 := Lib.hid hb01; have HR0 := Lib.hid r0; have HR1 := Lib.hid r1
  clear hu hb1 hb01 r0 r1
  go_wp2_with fail
  refine (equal_calls _ _ [1, 2, -1] [1, 2, -1] _ (HR0.out.alloc _) (ints_lit [1, 2, -1] rfl rfl rfl (by simp))).mono ?_
  rintro e w2 ⟨rfl, hb2⟩
  have hb12 : Below w1.heap.size w1 w2 := Below.chain ((Below.refl _ _).alloc (Nat.le_refl _) _) hb2
  have d1 := (HU.out.below hb12).cell (i := 1) (by simp)
  have HB12 := Lib.hid hb12; clear hb2 hb12
  go_wp2_with fail
  refine (equal_calls _ _ [1] [1] _ ((HR1.out.below HB12.out).alloc _) (ints_lit [1] rfl rfl rfl (by simp))).mono ?_
  rintro e w3 ⟨rfl, hb3⟩
  have hb23 : Below w2.heap.size w2 w3 := Below.chain ((Below.refl _ _).alloc (Nat.le_refl _) _) hb3
  have HB23 := Lib.hid hb23; clear hb3 hb23
  go_wp2_with fail
  go_ret
  exact ⟨rfl, Below.chain (Below.chain HB1.out HB12.out) HB23.out⟩

set_option maxRecDepth 100000 in
theorem artinRel1_calls (a b : Value) (xs ys : List Int) (w : World) (ha : Ints w a xs) (hb : Ints w b ys) :
    Calls Try.prog 52 #[a, b] w fun e w' => e = .returned (.bool (decide (xs = ys))) ∧ Below w.heap.size w w' := by
  have HA := Lib.hid ha; have HB := Lib.hid hb
  have sa := ha.isSl
  have sb := hb.isSl
  clear ha hb
  go_enter Try.func52, Try.ntmps52
  go_wp2_with fail
  refine (equal_calls a b xs ys _ HA.out HB.out).mono ?_
  rintro e w1 ⟨rfl, hb1⟩
  go_wp2_with fail
  go_ret
  exact ⟨rfl, hb1⟩

set_option maxHeartbeats 4000000 in
set_option maxRecDepth 100000 in
theorem artinRelations_true {w0 : World} (n : Int) (hn : I64 n) (a : Value) (as1 : List Int) (hra : Ints w0 a as1) (hxa : ∀ x ∈ as1, I64 x) (b : Value) (bs : List Int) (hrb : Ints w0 b bs) (hxb : ∀ x ∈ bs, I64 x) (i : Int) (hi : I64 i) (k : Int) (hk : I64 k)
    (w : World) (hw : w = w0 := by rfl) :
    Calls Try.prog 12 #[.int .i64 n, a, b, .int .i64 i, .int .i64 k] w fun e w' => e = .returned (.bool true) ∧ Below w.heap.size w w' := by
  subst hw
  obtain ⟨N, hN⟩ : ∃ N : Nat, 2 + n % (6 - 1) = (N : Int) := ⟨(2 + n % (6 - 1)).toNat, by omega⟩
  have hN1 : 2 ≤ N := by omega
  have hN2 : N ≤ 6 := by omega
  obtain ⟨A, hA⟩ : ∃ A, A = aroundL N as1 bs i k 5 := ⟨_, rfl⟩
  obtain ⟨c, hc⟩ : ∃ c, k % ((N : Int) - 1) = c := ⟨_, rfl⟩
  have hc1 : 0 ≤ c := by rw [← hc]; exact Int.emod_nonneg _ (by omega)
  have hc2 : c < (N : Int) - 1 := by rw [← hc]; exact Int.emod_lt_of_pos _ (by omega)
  have hi1 : 1 ≤ 1 + i % ((N : Int) - 1) ∧ 1 + i % ((N : Int) - 1) < N := by have := Int.emod_nonneg i (b := (N : Int) - 1) (by omega); have := Int.emod_lt_of_pos i (b := (N : Int) - 1) (by omega); omega
  have hk1 : 1 ≤ 1 + k % ((N : Int) - 1) ∧ 1 + k % ((N : Int) - 1) < N := by omega
  have hsb := sides_bw hi1 hk1
  have wx : BWord (N : Int) (wordL ((N : Int) - 1) as1 5) := wordL_bw (by omega) as1 5
  have wy : BWord (N : Int) (wordL ((N : Int) - 1) bs 5) := wordL_bw (by omega) bs 5
  have lx := wordL_length ((N : Int) - 1) as1 5
  have ly := wordL_length ((N : Int) - 1) bs 5
  have W1 : BWord (N : Int) A.1 := by rw [hA]; exact (wx.append hsb.1).append wy
  have W2 : BWord (N : Int) A.2 := by rw [hA]; exact (wx.append hsb.2.1).append wy
  have L1 : A.1.length ≤ 13 := by rw [hA]; unfold aroundL; simp only [List.length_append]; omega
  have L2 : A.2.length ≤ 13 := by rw [hA]; unfold aroundL; simp only [List.length_append]; omega
  have E1 : imagesA N A.1 = imagesA N A.2 := by rw [hA]; exact images_rel N _ _ hi1 hk1
  have E2 : ¬ imagesA N A.1 = imagesA N (A.2 ++ [1 + c]) := by rw [E1]; exact images_more N _ (by omega) W2
  have W3 : BWord (N : Int) (A.2 ++ [1 + c]) := W2.append (fun x hx => by simp at hx; omega)
  have L3 : (A.2 ++ [1 + c]).length ≤ 30 := by simp; omega
  have HW1 := Lib.hid W1; have HW2 := Lib.hid W2; have HW3 := Lib.hid W3; have HL1 := Lib.hid L1; have HL2 := Lib.hid L2; have HL3 := Lib.hid L3; have HE1 := Lib.hid E1; have HE2 := Lib.hid E2
  have HN := Lib.hid hN; have HC := Lib.hid hc; have HA := Lib.hid hA.symm; have HXA := Lib.hid hxa; have HXB := Lib.hid hxb; have HRA := Lib.hid hra; have HRB := Lib.hid hrb
  have sa := hra.isSl
  have sb := hrb.isSl
  clear W1 W2 W3 L1 L2 L3 E1 E2 hN hc hA hxa hxb hra hrb hi1 hk1 hsb wx wy lx ly
  go_enter Try.func12, Try.ntmps12
  go_wp2_with fail
  refine (strands_calls n 6 _ hn (by decide) (by decide)).mono ?_
  rintro e w' ⟨rfl, rfl⟩
  rw [HN.out]
  go_wp2_with fail
  refine (around_calls N 5 a b as1 bs i k _ HRA.out HXA.out HRB.out HXB.out hN1 hN2 hi hk (by omega)).mono ?_
  rintro e w1 ⟨p, q, rfl, hp, hq, hb1⟩
  rw [HA.out] at hp hq
  have sp := hp.isSl
  have sq := hq.isSl
  obtain ⟨p1, p2, p3, rfl, -⟩ := sp.cases
  obtain ⟨q1, q2, q3, rfl, -⟩ := sq.cases
  have HP := Lib.hid hp; have HQ := Lib.hid hq; have HB1 := Lib.hid hb1
  clear hp hq hb1
  go_wp2_with fail
  refine (images_calls' N _ A.1 _ HP.out hN1 hN2 HW1.out (Nat.le_trans HL1.out (by omega))).mono ?_
  rintro e w2 ⟨x, er1, rfl, sx, hx, hb2⟩
  obtain ⟨x1, x2, x3, rfl, -⟩ := sx.cases
  have HX := Lib.hid hx; have HB2 := Lib.hid hb2
  clear hx hb2
  go_wp2_with fail
  refine (images_calls' N _ A.2 _ (HQ.out.below HB2.out) hN1 hN2 HW2.out (Nat.le_trans HL2.out (by omega))).mono ?_
  rintro e w3 ⟨y, er2, rfl, sy, hy, hb3⟩
  obtain ⟨y1, y2, y3, rfl, -⟩ := sy.cases
  have HY := Lib.hid hy; have HB3 := Lib.hid hb3
  clear hy hb3
  have hb13 := Below.chain HB2.out HB3.out
  have HB13 := Lib.hid hb13; clear hb13
  go_wp2_with fail
  refine (aequal_calls N _ _ A.1 A.2 _ (HP.out.below HB13.out) (HQ.out.below HB13.out) hN1 hN2 HW1.out HW2.out (Nat.le_trans HL1.out (by omega)) (Nat.le_trans HL2.out (by omega))).mono ?_
  rintro e w4 ⟨r, er3, rfl, hr, hb4⟩
  have HR := Lib.hid hr; have HB14 := Lib.hid (Below.chain HB13.out hb4); have HB4 := Lib.hid hb4
  clear hr hb4
  go_wp2_with fail
  refine (clone_calls _ A.2 _ (HQ.out.below HB14.out) (Nat.le_trans HL2.out (by omega))).mono ?_
  rintro e w5 ⟨z, rfl, hz, hb5⟩
  have sz := hz.isSl
  have HZ := Lib.hid hz; have HB15 := Lib.hid (Below.chain HB14.out hb5); have HB5 := Lib.hid hb5
  have hs5 := hb5.size
  clear hz hb5
  go_wp2_with fail
  refine (below_calls k ((N : Int) - 1) _ (by omega) (by omega) hk).mono ?_
  rintro e w' ⟨rfl, rfl⟩
  rw [HC.out]
  go_wp2_with (at_builtin; refine wpList_push (v := z) rfl _ _ rfl rfl rfl HZ.out hs5 (Nat.le_trans HL2.out (by omega)) ?_; intro z2 w6 hz2 hg6 hr6; have sz2 := hz2.isSl)
  have hb46 : Below w4.heap.size w4 w6 := Below_of_grown HB5.out hg6 hs5 (fun k hk => (HZ.out.lt k hk).1)
  have HB16 := Lib.hid (Below.chain HB14.out hb46); have HB46 := Lib.hid hb46
  have HZ2 := Lib.hid hz2.ints
  clear hz2 hg6 hr6 hb46
  refine (aequal_calls N _ z2 A.1 (A.2 ++ [1 + c]) _ (HP.out.below HB16.out) HZ2.out hN1 hN2 HW1.out HW3.out (Nat.le_trans HL1.out (by omega)) HL3.out).mono ?_
  rintro e w7 ⟨r', er4, rfl, hr', hb7⟩
  have HR' := Lib.hid hr'; have HB17 := Lib.hid (Below.chain HB16.out hb7); have HB47 := Lib.hid (Below.chain HB46.out hb7)
  clear hr' hb7
  have HB07 := Lib.hid (Below.chain HB1.out HB17.out)
  by_cases g1 : er1 = 2
  · go_wp2_with fail
    refine (imaged_calls _).mono ?_
    rintro e w8 ⟨rfl, hb8⟩
    have HB08 := Lib.hid (Below.chain HB07.out hb8); clear hb8
    go_wp2_with fail
    go_ret
    exact ⟨rfl, HB08.out⟩
  by_cases g2 : er2 = 2
  · go_wp2_with fail
    refine (imaged_calls _).mono ?_
    rintro e w8 ⟨rfl, hb8⟩
    have HB08 := Lib.hid (Below.chain HB07.out hb8); clear hb8
    go_wp2_with fail
    go_ret
    exact ⟨rfl, HB08.out⟩
  by_cases g3 : er3 = 2
  · go_wp2_with fail
    refine (imaged_calls _).mono ?_
    rintro e w8 ⟨rfl, hb8⟩
    have HB08 := Lib.hid (Below.chain HB07.out hb8); clear hb8
    go_wp2_with fail
    go_ret
    exact ⟨rfl, HB08.out⟩
  by_cases g4 : er4 = 2
  · go_wp2_with fail
    refine (imaged_calls _).mono ?_
    rintro e w8 ⟨rfl, hb8⟩
    have HB08 := Lib.hid (Below.chain HB07.out hb8); clear hb8
    go_wp2_with fail
    go_ret
    exact ⟨rfl, HB08.out⟩
  obtain ⟨h, -⟩ | ⟨rfl, xs, hxr⟩ := HX.out
  · exact (g1 h).elim
  obtain ⟨h, -⟩ | ⟨rfl, ys, hyr⟩ := HY.out
  · exact (g2 h).elim
  obtain h | ⟨rfl, rfl⟩ := HR.out
  · exact (g3 h).elim
  obtain h | ⟨rfl, rfl⟩ := HR'.out
  · exact (g4 h).elim
  have d1 : decide (imagesA N A.1 = imagesA N A.2) = true := decide_eq_true HE1.out
  have d2 : decide (imagesA N A.1 = imagesA N (A.2 ++ [1 + c])) = false := decide_eq_false HE2.out
  rw [d1, d2]
  clear d1 d2
  have lx := hxr.len
  have ly := hyr.len
  rw [show (imagesA N A.1).length = N by unfold imagesA; rw [foldA_len, gensA_length]] at lx
  have hx7 := hxr.below (Below.chain HB3.out (Below.chain HB4.out HB47.out))
  have hy7 := hyr.below (Below.chain HB4.out HB47.out)
  have HXR := Lib.hid hx7; have HYR := Lib.hid hy7
  clear hx7 hy7 hxr hyr
  go_wp2_with fail
  refine (imaged_calls _).mono ?_
  rintro e w8 ⟨rfl, hb8⟩
  have HB08 := Lib.hid (Below.chain HB07.out hb8); have HB8 := Lib.hid hb8; clear hb8
  go_wp2_with fail
  refine (imaged_calls _).mono ?_
  rintro e w9 ⟨rfl, hb9⟩
  have HB09 := Lib.hid (Below.chain HB08.out hb9); have HB79 := Lib.hid (Below.chain HB8.out hb9); clear hb9
  go_wp2_with fail
  refine (equalFunc_calls _ _ xs ys (imagesA N A.1) (imagesA N A.2) _ (enters_some (Go.Proofs.enters_of Try.func52 (by kernel_rfl) rfl)) _ (HXR.out.below HB79.out) (HYR.out.below HB79.out) (fun W c d xs ys h k => artinRel1_calls c d xs ys W h k)).mono ?_
  rintro e w10 ⟨rfl, hb10⟩
  rw [decide_eq_true HE1.out]
  have HB10 := Lib.hid (Below.chain HB09.out hb10); clear hb10
  go_wp2_with fail
  go_ret
  exact ⟨rfl, HB10.out⟩
end Go.Proofs.Ytkimbhmijgfhnaa
