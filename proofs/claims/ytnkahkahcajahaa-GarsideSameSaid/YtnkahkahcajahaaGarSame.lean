/- GarsideSame: for every input the statement returns true, and nothing that was there has changed. -/
import Derived.Test.YtnkahkahcajahaaGarWordAll
import Derived.Test.YtnkahkahcajahaaSides
import Derived.Test.YtnkahkahcajahaaWords
namespace Go.Proofs.Ytnkahkahcajahaa
open Go.RowKit Go.Sl

theorem cn_facts {n : Nat} (hn : n ≤ 1000) {s c : St} (h : Cn n s c) : Good n c.2 ∧ Tight n c.2 ∧ hf n ∉ c.2 ∧ iota n ∉ c.2 := by
  have g := cn_good h
  obtain ⟨gs, T, r, t, rfl⟩ := h
  have gT := r.good gs
  exact ⟨g, strip_is_tight hn T gT t, fun hm => by have := (List.mem_filter.1 hm).2; simp at this, fun hm => by have := (List.mem_filter.1 hm).2; simp at this⟩
theorem exp_one {n : Nat} (h2 : 2 ≤ n) (hn : n ≤ 1000) (s : St) : expS n (mulW n s [1]) = expS n s + 1 := by
  show expS n (mulS n s 1) = _
  unfold mulS expS
  rw [if_pos (by decide)]
  simp only [tot_append, tot]
  rw [show (1 : Int).natAbs - 1 = 0 from rfl, inv_sg hn (by omega)]
  omega

set_option maxHeartbeats 4000000 in
set_option maxRecDepth 100000 in
theorem garsideSame_true {w0 : World} (n : Int) (hn : I64 n) (a : Value) (as1 : List Int) (hra : Ints w0 a as1) (hxa : ∀ x ∈ as1, I64 x) (b : Value) (bs : List Int) (hrb : Ints w0 b bs) (hxb : ∀ x ∈ bs, I64 x) (i : Int) (hi : I64 i) (k : Int) (hk : I64 k)
    (w : World) (hw : w = w0 := by rfl) :
    Calls Try.prog 10 #[.int .i64 n, a, b, .int .i64 i, .int .i64 k] w fun e w' => e = .returned (.bool true) ∧ Below w.heap.size w w' := by
  subst hw
  obtain ⟨N, hN⟩ : ∃ N : Nat, 2 + n % (6 - 1) = (N : Int) := ⟨(2 + n % (6 - 1)).toNat, by omega⟩
  have hN1 : 2 ≤ N := by omega
  have hN2 : N ≤ 6 := by omega
  obtain ⟨A, hA⟩ : ∃ A, A = aroundL N as1 bs i k 10 := ⟨_, rfl⟩
  have hi1 : 1 ≤ 1 + i % ((N : Int) - 1) ∧ 1 + i % ((N : Int) - 1) < N := by have := Int.emod_nonneg i (b := (N : Int) - 1) (by omega); have := Int.emod_lt_of_pos i (b := (N : Int) - 1) (by omega); omega
  have hk1 : 1 ≤ 1 + k % ((N : Int) - 1) ∧ 1 + k % ((N : Int) - 1) < N := by have := Int.emod_nonneg k (b := (N : Int) - 1) (by omega); have := Int.emod_lt_of_pos k (b := (N : Int) - 1) (by omega); omega
  have hsb := sides_bw hi1 hk1
  have wx : BWord (N : Int) (wordL ((N : Int) - 1) as1 10) := wordL_bw (by omega) as1 10
  have wy : BWord (N : Int) (wordL ((N : Int) - 1) bs 10) := wordL_bw (by omega) bs 10
  have lx := wordL_length ((N : Int) - 1) as1 10
  have ly := wordL_length ((N : Int) - 1) bs 10
  have W1 : BWord (N : Int) A.1 := by rw [hA]; exact (wx.append hsb.1).append wy
  have W2 : BWord (N : Int) A.2 := by rw [hA]; exact (wx.append hsb.2.1).append wy
  have L1 : A.1.length ≤ 23 := by rw [hA]; unfold aroundL; simp only [List.length_append]; omega
  have L2 : A.2.length ≤ 23 := by rw [hA]; unfold aroundL; simp only [List.length_append]; omega
  have W3 : BWord (N : Int) (A.2 ++ [1]) := W2.append (fun x hx => by simp at hx; omega)
  have L3 : (A.2 ++ [1]).length ≤ 30 := by simp; omega
  have hE : Eqv N (mulW N (0, []) A.1) (mulW N (0, []) A.2) := by
    rw [hA]
    unfold aroundL
    simp only [mulW_append]
    exact eqv_mulW (by omega) _ (bword_lt wy) (sides_mul (by omega) hi1 hk1 (mulW_good (by omega) _ (0, []) (bword_lt wx) (good_nil N)))
  have E1 : ∀ c d, Cn N (mulW N (0, []) A.1) c → Cn N (mulW N (0, []) A.2) d → c = d := fun c d hc hd => cn_unique ((eqv_cn (by omega) hN1 hE c).1 hc) hd
  have E2 : ∀ c d, Cn N (mulW N (0, []) A.1) c → Cn N (mulW N (0, []) (A.2 ++ [1])) d → ¬ c = d := fun c d hc hd e => by
    subst e
    have h1 := eqv_exp (cn_eqv (by omega) hN1 hc)
    have h2 := eqv_exp (cn_eqv (by omega) hN1 hd)
    rw [mulW_append, exp_one hN1 (by omega), ← eqv_exp hE] at h2
    omega
  have HW1 := Lib.hid W1; have HW2 := Lib.hid W2; have HW3 := Lib.hid W3; have HL1 := Lib.hid L1; have HL2 := Lib.hid L2; have HL3 := Lib.hid L3; have HE1 := Lib.hid E1; have HE2 := Lib.hid E2
  have HN := Lib.hid hN; have HA := Lib.hid hA.symm; have HXA := Lib.hid hxa; have HXB := Lib.hid hxb; have HRA := Lib.hid hra; have HRB := Lib.hid hrb
  have sa := hra.isSl
  have sb := hrb.isSl
  clear W1 W2 W3 L1 L2 L3 E1 E2 hE hN hA hxa hxb hra hrb hi1 hk1 hsb wx wy lx ly
  go_enter Try.func10, Try.ntmps10
  go_wp2_with fail
  refine (strands_calls n 6 _ hn (by decide) (by decide)).mono ?_
  rintro e w' ⟨rfl, rfl⟩
  rw [HN.out]
  go_wp2_with fail
  refine (around_calls N 10 a b as1 bs i k _ HRA.out HXA.out HRB.out HXB.out hN1 hN2 hi hk (by omega)).mono ?_
  rintro e u1 ⟨x, y, rfl, hx, hy, hb⟩
  rw [HA.out] at hx hy
  have sx := hx.isSl
  have sy := hy.isSl
  have HX := Lib.hid (hx)
  have HY := Lib.hid (hy)
  clear HRA
  clear HRB
  have HB := Lib.hid hb
  clear hb
  clear hx hy
  go_wp2_with fail
  refine (normalForm_calls N _ A.1 _ HX.out hN1 hN2 HW1.out (Nat.le_trans HL1.out (by omega))).mono ?_
  rintro e u2 ⟨⟨p, F⟩, l, ls, rfl, hc, hl, hb⟩
  have HC := Lib.hid hc
  have sl := hl.rows.isSl
  have HLS := Lib.hid (hl.rows)
  replace HX := Lib.hid (HX.out.below hb)
  replace HY := Lib.hid (HY.out.below hb)
  replace HB := Lib.hid (Below.chain HB.out hb)
  clear hb
  clear hc hl
  go_wp2_with fail
  refine (gequal_calls N _ _ A.1 A.2 _ HX.out HY.out hN1 hN2 HW1.out HW2.out (Nat.le_trans HL1.out (by omega)) (Nat.le_trans HL2.out (by omega))).mono ?_
  rintro e u3 ⟨c, d, rfl, hc, hd, hb⟩
  rw [decide_eq_true (HE1.out c d hc hd)]
  clear hc hd
  replace HX := Lib.hid (HX.out.below hb)
  replace HY := Lib.hid (HY.out.below hb)
  replace HLS := Lib.hid (HLS.out.below hb)
  replace HB := Lib.hid (Below.chain HB.out hb)
  clear hb
  have HX3 := HX; have HY3 := HY; have HLS3 := HLS; have HB3 := HB
  go_wp2_with fail
  refine (clone_calls _ A.2 _ HY.out (Nat.le_trans HL2.out (by omega))).mono ?_
  rintro e u4 ⟨z, rfl, hz, hb⟩
  have sz := hz.isSl
  have hs5 := hb.size
  have HZ := Lib.hid hz
  have HBC := Lib.hid hb
  replace HX := Lib.hid (HX.out.below hb)
  replace HY := Lib.hid (HY.out.below hb)
  replace HLS := Lib.hid (HLS.out.below hb)
  replace HB := Lib.hid (Below.chain HB.out hb)
  clear hb
  clear hz
  go_wp2_with (at_builtin; refine wpList_push (v := z) rfl _ _ rfl rfl rfl HZ.out hs5 (Nat.le_trans HL2.out (by omega)) ?_; intro z2 w6 hz2 hg6 hr6; have sz2 := hz2.isSl)
  have hb36 := Below_of_grown HBC.out hg6 hs5 (fun b hb => (HZ.out.lt b hb).1)
  have HZ2 := Lib.hid hz2.ints
  replace HX := Lib.hid (HX3.out.below hb36)
  replace HY := Lib.hid (HY3.out.below hb36)
  replace HLS := Lib.hid (HLS3.out.below hb36)
  replace HB := Lib.hid (Below.chain HB3.out hb36)
  clear hz2 hg6 hr6 hb36 HX3 HY3 HLS3 HB3 HBC HZ
  refine (gequal_calls N _ _ A.1 (A.2 ++ [1]) _ HX.out HZ2.out hN1 hN2 HW1.out HW3.out (Nat.le_trans HL1.out (by omega)) HL3.out).mono ?_
  rintro e u5 ⟨c, d, rfl, hc, hd, hb⟩
  rw [decide_eq_false (HE2.out c d hc hd)]
  clear hc hd
  clear HZ2
  replace HX := Lib.hid (HX.out.below hb)
  replace HY := Lib.hid (HY.out.below hb)
  replace HLS := Lib.hid (HLS.out.below hb)
  replace HB := Lib.hid (Below.chain HB.out hb)
  clear hb
  go_wp2_with fail
  refine (formed_calls _).mono ?_
  rintro e u6 ⟨rfl, hb⟩
  replace HX := Lib.hid (HX.out.below hb)
  replace HY := Lib.hid (HY.out.below hb)
  replace HLS := Lib.hid (HLS.out.below hb)
  replace HB := Lib.hid (Below.chain HB.out hb)
  clear hb
  go_wp2_with fail
  refine (forms_calls N _ _ A.1 A.2 _ HX.out HY.out hN1 hN2 HW1.out HW2.out (Nat.le_trans HL1.out (by omega)) (Nat.le_trans HL2.out (by omega))).mono ?_
  rintro e u7 ⟨c, d, rfl, hc, hd, hb⟩
  rw [decide_eq_true (HE1.out c d hc hd)]
  clear hc hd
  clear HY
  replace HX := Lib.hid (HX.out.below hb)
  replace HLS := Lib.hid (HLS.out.below hb)
  replace HB := Lib.hid (Below.chain HB.out hb)
  clear hb
  have hcf := cn_facts (by omega) HC.out
  have hnb := nf_bounds HC.out
  obtain ⟨f1, f2, f3, f4⟩ := hcf
  have hl1 := HL1.out
  have hF30 : F.length ≤ 30 := Nat.le_trans hnb.1 (by omega)
  have hp30 : -30 ≤ p ∧ p ≤ 30 := by have h2 := hnb.2.1; have h3 := hnb.2.2; simp only at h2 h3; omega
  have F1 := Lib.hid f1; have F2 := Lib.hid f2; have F3 := Lib.hid f3; have F4 := Lib.hid f4; have HF30 := Lib.hid hF30; have HP30 := Lib.hid hp30
  clear f1 f2 f3 f4 hnb hF30 hp30 hl1
  go_wp2_with fail
  refine (gcheck_calls N _ _ F _ HLS.out F1.out hN1 hN2 HF30.out F2.out F3.out F4.out).mono ?_
  rintro e u8 ⟨rfl, hb⟩
  replace HX := Lib.hid (HX.out.below hb)
  replace HLS := Lib.hid (HLS.out.below hb)
  replace HB := Lib.hid (Below.chain HB.out hb)
  clear hb
  go_wp2_with fail
  refine (gWord_calls N p _ _ F _ HLS.out F1.out hN1 hN2 HF30.out HP30.out F2.out F3.out F4.out).mono ?_
  rintro e u9 ⟨u, er, ws, rfl, su, hwl, hwt, hwe, hw2, hw0, hb⟩
  have HWL := Lib.hid hwl; have HWT := Lib.hid hwt; have HWE := Lib.hid hwe; have HW2' := Lib.hid hw2; have HW0 := Lib.hid hw0
  clear hwl hwt hwe hw2 hw0
  clear HLS
  replace HX := Lib.hid (HX.out.below hb)
  replace HB := Lib.hid (Below.chain HB.out hb)
  clear hb
  by_cases hbig : 30 < ws.length
  · obtain rfl := HW2'.out hbig
    clear hbig
    go_wp2_with fail
    go_ret
    exact ⟨rfl, HB.out⟩
  · obtain ⟨rfl, hou⟩ := HW0.out (by omega)
    have HOU := Lib.hid hou.ints
    have hall : ∀ c d, Cn N (mulW N (0, []) A.1) c → Cn N (mulW N (0, []) ws) d → c = d := fun c d hc hd => by
      obtain rfl := cn_unique hc HC.out
      exact cn_unique ((eqv_cn (by omega) hN1 (.trans (cn_eqv (by omega) hN1 HC.out) HWE.out.symm) _).1 HC.out) hd
    have HALL := Lib.hid hall
    have HWLE := Lib.hid (show ws.length ≤ 30 by omega)
    clear hou hall hbig
    go_wp2_with fail
    refine (forms_calls N _ _ A.1 ws _ HX.out HOU.out hN1 hN2 HW1.out (lt_bword HWT.out) (Nat.le_trans HL1.out (by omega)) HWLE.out).mono ?_
    rintro e w9 ⟨c, d, rfl, hc, hd, hb9⟩
    rw [decide_eq_true (HALL.out c d hc hd)]
    clear hc hd
    have HB9 := Lib.hid (Below.chain HB.out hb9); clear hb9
    go_wp2_with fail
    go_ret
    exact ⟨rfl, HB9.out⟩

end Go.Proofs.Ytnkahkahcajahaa
