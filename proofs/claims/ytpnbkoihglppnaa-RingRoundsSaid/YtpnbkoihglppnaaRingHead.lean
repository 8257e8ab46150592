/- RingHeads: for every input the statement returns true, and nothing that was there has changed. -/
import Derived.Test.YtpnbkoihglppnaaRung
import Derived.Test.YtpnbkoihglppnaaRingRows
import Derived.Test.YtpnbkoihglppnaaConcat
import Derived.Test.YtpnbkoihglppnaaWords
import Derived.Test.YtpnbkoihglppnaaPerm
namespace Go.Proofs.Ytpnbkoihglppnaa
open Go.RowKit Go.Sl

theorem run_iota_perm (m : Nat) (hm : m < 7) (cs : List Int) : IsPerm (runL (iota (m + 1)) cs) := runL_isPerm cs (by omega)
theorem run_compose (m : Nat) (xs ys : List Int) : runL (iota (m + 1)) (xs ++ ys) = thenL (runL (iota (m + 1)) ys) (runL (iota (m + 1)) xs) := by
  rw [runL_append, runL_from (runL (iota (m + 1)) xs) ys, run_len]
theorem permNil_calls (m : Nat) (w : World) (hm : m < 7) :
    Calls Try.prog 32 #[.int .i64 ((m : Int) + 1), .slice none 0 0] w fun e w' => ∃ v, e = .returned v ∧ OwnI w' w.heap.size v (iota (m + 1)) ∧ Below w.heap.size w w' := by
  have h := perm_calls (m + 1) _ [] w (ints_nil w) (by omega) (fun z hz => by simp at hz)
  rw [permL_nil] at h
  rwa [show ((m + 1 : Nat) : Int) = (m : Int) + 1 by omega] at h

set_option maxHeartbeats 4000000 in
set_option maxRecDepth 100000 in
theorem ringHeads_true {w0 : World} (n : Int) (hn : I64 n) (a : Value) (as1 : List Int) (hra : Ints w0 a as1) (hxa : ∀ x ∈ as1, I64 x) (b : Value) (bs : List Int) (hrb : Ints w0 b bs) (hxb : ∀ x ∈ bs, I64 x)
    (w : World) (hw : w = w0 := by rfl) :
    Calls Try.prog 5 #[.int .i64 n, a, b] w fun e w' => e = .returned (.bool true) ∧ Below w.heap.size w w' := by
  subst hw
  obtain ⟨m, hm⟩ : ∃ m : Nat, n % 7 = (m : Int) := ⟨(n % 7).toNat, by omega⟩
  have hm7 : m < 7 := by omega
  have h1m : (1 : Int) + (m : Int) = (m : Int) + 1 := Int.add_comm _ _
  obtain ⟨X, hX⟩ : ∃ X, X = changesL (m + 1) as1 40 := ⟨_, rfl⟩
  obtain ⟨Y, hY⟩ : ∃ Y, Y = changesL (m + 1) bs 40 := ⟨_, rfl⟩
  have CX : ∀ c ∈ X, Chg m c := hX ▸ changesL_right hm7 as1 40
  have CY : ∀ c ∈ Y, Chg m c := hY ▸ changesL_right hm7 bs 40
  have LX : X.length ≤ 40 := hX ▸ changesL_length _ as1 40
  have LY : Y.length ≤ 40 := hY ▸ changesL_length _ bs 40
  have CXY : ∀ c ∈ X ++ Y, Chg m c := fun c hc => (List.mem_append.1 hc).elim (CX c) (CY c)
  have LXY : (X ++ Y).length ≤ 5040 := by simp; omega
  have E := run_compose m X Y
  obtain ⟨L, hL⟩ : ∃ L, X.length = L := ⟨_, rfl⟩
  have hL40 : L ≤ 40 := by rw [← hL]; exact LX
  have HL := Lib.hid hL
  have HCX := Lib.hid CX; have HCY := Lib.hid CY; have HLX := Lib.hid LX; have HLY := Lib.hid LY; have HCXY := Lib.hid CXY; have HLXY := Lib.hid LXY; have HE := Lib.hid E
  have HM := Lib.hid hm; have HX := Lib.hid hX.symm; have HY := Lib.hid hY.symm; have HXA := Lib.hid hxa; have HXB := Lib.hid hxb; have HRA := Lib.hid hra; have HRB := Lib.hid hrb; have H1M := Lib.hid h1m
  have sa := hra.isSl
  have sb := hrb.isSl
  clear CX CY LX LY CXY LXY E hm hX hY hxa hxb hra hrb hL h1m
  go_enter Try.func5, Try.ntmps5
  go_wp2_with fail
  refine (below_calls n 7 _ (by decide) (by decide) hn).mono ?_
  rintro e w' ⟨rfl, rfl⟩
  rw [HM.out]
  go_wp2_with fail
  rw [H1M.out]
  refine (changes_calls m a as1 40 _ HRA.out HXA.out hm7 (by omega)).mono ?_
  rintro e w1 ⟨x, rfl, hx, hb1⟩
  rw [HX.out] at hx
  have sx := hx.isSl
  have lx := hx.len
  rw [HL.out] at lx
  obtain ⟨x1, x2, x3, rfl, -⟩ := sx.cases
  have HXI := Lib.hid hx.ints; have HB1 := Lib.hid hb1
  clear hx hb1
  go_wp2_with fail
  refine (changes_calls m b bs 40 _ (HRB.out.below HB1.out) HXB.out hm7 (by omega)).mono ?_
  rintro e w2 ⟨y, rfl, hy, hb2⟩
  rw [HY.out] at hy
  have sy := hy.isSl
  obtain ⟨y1, y2, y3, rfl, -⟩ := sy.cases
  have HX2 := Lib.hid (HXI.out.below hb2); have HY2 := Lib.hid hy.ints; have HB02 := Lib.hid (Below.chain HB1.out hb2)
  clear hy hb2
  go_wp2_with fail
  refine (leadHead_calls m _ X _ HX2.out hm7 HCX.out (Nat.le_trans HLX.out (by omega))).mono ?_
  rintro e w3 ⟨p, rfl, hp, hb3⟩
  have sp := hp.isSl
  obtain ⟨p1, p2, p3, rfl, -⟩ := sp.cases
  have HP3 := Lib.hid hp.ints; have HX3 := Lib.hid (HX2.out.below hb3); have HY3 := Lib.hid (HY2.out.below hb3); have HB03 := Lib.hid (Below.chain HB02.out hb3)
  clear hp hb3
  go_wp2_with fail
  refine (leadHead_calls m _ Y _ HY3.out hm7 HCY.out (Nat.le_trans HLY.out (by omega))).mono ?_
  rintro e w4 ⟨q, rfl, hq, hb4⟩
  have sq := hq.isSl
  obtain ⟨q1, q2, q3, rfl, -⟩ := sq.cases
  have HQ4 := Lib.hid hq.ints; have HP4 := Lib.hid (HP3.out.below hb4); have HX4 := Lib.hid (HX3.out.below hb4); have HY4 := Lib.hid (HY3.out.below hb4); have HB04 := Lib.hid (Below.chain HB03.out hb4)
  clear hq hb4
  go_wp2_with fail
  refine (concat_calls _ _ [X, Y] _ (rowsV_2 HX4.out HY4.out) (by have := HLX.out; have := HLY.out; simp only [List.flatten_cons, List.flatten_nil, List.length_append, List.length_nil]; omega)).mono ?_
  rintro e w5 ⟨z, rfl, hz, hb5'⟩
  simp only [List.flatten_cons, List.flatten_nil, List.append_nil] at hz
  have sz := hz.isSl
  have hb5 : Below w4.heap.size w4 w5 := Below.chain ((Below.refl _ _).alloc (Nat.le_refl _) _) hb5'
  have HZ5 := Lib.hid hz.ints; have HP5 := Lib.hid (HP4.out.below hb5); have HQ5 := Lib.hid (HQ4.out.below hb5); have HX5 := Lib.hid (HX4.out.below hb5); have HB05 := Lib.hid (Below.chain HB04.out hb5)
  clear hz hb5 hb5'
  go_wp2_with fail
  refine (leadHead_calls m _ (X ++ Y) _ HZ5.out hm7 HCXY.out HLXY.out).mono ?_
  rintro e w6 ⟨r, rfl, hr, hb6⟩
  have sr := hr.isSl
  obtain ⟨r1, r2, r3, rfl, -⟩ := sr.cases
  have HR6 := Lib.hid hr.ints; have HP6 := Lib.hid (HP5.out.below hb6); have HQ6 := Lib.hid (HQ5.out.below hb6); have HX6 := Lib.hid (HX5.out.below hb6); have HB06 := Lib.hid (Below.chain HB05.out hb6)
  clear hr hb6
  go_wp2_with fail
  refine (compose_calls _ _ _ _ _ HQ6.out HP6.out (run_iota_perm m hm7 _) (run_iota_perm m hm7 _) (by rw [run_len, run_len]) (by rw [run_len]; omega)).mono ?_
  rintro e w7 ⟨c, rfl, hc, hb7⟩
  have sc := hc.isSl
  obtain ⟨c1, c2, c3, rfl, -⟩ := sc.cases
  have HC7 := Lib.hid hc.ints; have HR7 := Lib.hid (HR6.out.below hb7); have HX7 := Lib.hid (HX6.out.below hb7); have HB07 := Lib.hid (Below.chain HB06.out hb7)
  clear hc hb7
  go_wp2_with fail
  go_loopw [59] (fun i wr => ∃ k : Nat, k ≤ L ∧ i = .int .i64 k ∧ Below w7.heap.size w7 wr) (fun i _ => L - (intOf i).toNat)
  case atStart => exact ⟨0, Nat.zero_le _, rfl, Below.refl _ _⟩
  case round =>
    obtain ⟨k, hk, rfl, hbr⟩ := hrel
    by_cases hlt : k < L
    · have hkc : k < X.length := by rw [HL.out]; exact hlt
      have cx := (HX7.out.below hbr).cell hkc
      have hch := HCX.out _ (nth_mem hkc)
      obtain ⟨o, ho⟩ : ∃ o, nth X k = o := ⟨_, rfl⟩
      rw [ho] at cx hch
      have h2 : ∀ z ∈ [o, o], Chg m z := fun z hz => by
        simp only [List.mem_cons, List.not_mem_nil, or_false] at hz
        rcases hz with rfl | rfl <;> exact hch
      have hrt : runL (iota (m + 1)) [o, o] = iota (m + 1) := runL_twice (m + 1) o hch.apart
      have H2 := Lib.hid h2; have HRT := Lib.hid hrt; have HBR := Lib.hid hbr
      clear h2 hrt hbr hch ho
      go_wp2_with fail
      refine (leadHead_calls m _ [o, o] _ (ints_lit [o, o] rfl rfl rfl (by simp)) hm7 H2.out (by simp)).mono ?_
      rintro e w8 ⟨s, rfl, hs, hb8⟩
      rw [HRT.out] at hs
      have ss := hs.isSl
      obtain ⟨s1, s2, s3, rfl, -⟩ := ss.cases
      have HS8 := Lib.hid hs.ints; have HB8 := Lib.hid (Below.chain HBR.out (Below.chain ((Below.refl _ _).alloc (Nat.le_refl _) _) hb8))
      clear hs hb8
      go_wp2_with fail
      refine (permNil_calls m _ hm7).mono ?_
      rintro e w9 ⟨t, rfl, ht, hb9⟩
      have st := ht.isSl
      have HT9 := Lib.hid ht.ints; have HS9 := Lib.hid (HS8.out.below hb9); have HB9 := Lib.hid (Below.chain HB8.out hb9)
      clear ht hb9
      go_wp2_with fail
      refine (equal_calls _ t _ _ _ HS9.out HT9.out).mono ?_
      rintro e w10 ⟨rfl, hb10⟩
      rw [decide_eq_true rfl]
      have HB10 := Lib.hid (Below.chain HB9.out hb10)
      clear hb10
      go_wp2_with fail
      refine ⟨⟨k + 1, by omega, by go_num, HB10.out⟩, by simp [intOf]; omega⟩
    · have HBR := Lib.hid (Below.chain HB07.out hbr); have HBR7 := Lib.hid hbr; clear hbr
      go_wp2_with fail
      refine (rung_calls _).mono ?_
      rintro e w8 ⟨rfl, hb8⟩
      have HB8 := Lib.hid (Below.chain HBR.out hb8); have HB78 := Lib.hid (Below.chain HBR7.out hb8); clear hb8
      go_wp2_with fail
      refine (equal_calls _ _ _ _ _ (HR7.out.below HB78.out) (HC7.out.below HB78.out)).mono ?_
      rintro e w9 ⟨rfl, hb9⟩
      rw [decide_eq_true HE.out]
      have HB9 := Lib.hid (Below.chain HB8.out hb9); clear hb9
      go_wp2_with fail
      go_ret
      exact ⟨rfl, HB9.out⟩
end Go.Proofs.Ytpnbkoihglppnaa
