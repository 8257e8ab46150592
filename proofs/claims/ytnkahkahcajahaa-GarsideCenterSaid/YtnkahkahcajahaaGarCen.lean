/- GarsideCenter: for every input the statement returns true, and nothing that was there has changed. -/
import Derived.Test.YtnkahkahcajahaaGarWordAll
import Derived.Test.YtnkahkahcajahaaSides
import Derived.Test.YtnkahkahcajahaaWords
namespace Go.Proofs.Ytnkahkahcajahaa
open Go.RowKit Go.Sl

theorem cn_shift {n : Nat} {s c : St} (h : Cn n s c) (j : Int) : Cn n (j + s.1, s.2) (j + c.1, c.2) := by
  obtain ⟨g, T, r, t, rfl⟩ := h
  refine ⟨g, T, r, t, ?_⟩
  unfold strip
  simp only [Prod.mk.injEq, and_true]; omega
theorem center_form {n : Nat} (hn : n ≤ 1000) (h2 : 2 ≤ n) {ws x : List Int} (hw : ∀ y ∈ ws, Lt n y) (hx : ∀ y ∈ x, Lt n y) (h : Eqv n (mulW n (0, []) ws) (1, [])) {c : St} (hc : Cn n (mulW n (0, []) x) c) :
    Cn n (mulW n (0, []) (ws ++ ws ++ x)) (2 + c.1, c.2) ∧ Cn n (mulW n (0, []) (x ++ (ws ++ ws))) (2 + c.1, c.2) := by
  have hgx := mulW_good hn x (0, []) hx (good_nil n)
  have hfull : Eqv n (mulW n (0, []) (ws ++ ws)) (2, []) := by
    rw [mulW_append]
    refine .trans (eqv_mulW hn ws hw h) ?_
    rw [mulW_start n (1, []) ws (good_nil n)]
    have := prodS_eqv hn (s := (1, [])) (good_nil n) h
    simpa [prodS, tauK] using this
  have hs := cn_shift hc 2
  refine ⟨?_, ?_⟩
  · refine (eqv_cn hn h2 ?_ _).2 hs
    rw [mulW_append]
    refine .trans (eqv_mulW hn x hx hfull) ?_
    rw [mulW_start n (2, []) x (good_nil n)]
    have : prodS n (2, []) (mulW n (0, []) x) = (2 + (mulW n (0, []) x).1, (mulW n (0, []) x).2) := by simp [prodS, tauK]
    rw [this]; exact .refl _
  · refine (eqv_cn hn h2 ?_ _).2 hs
    rw [mulW_append, mulW_start n (mulW n (0, []) x) (ws ++ ws) hgx]
    refine .trans (prodS_eqv hn hgx hfull) ?_
    have : prodS n (mulW n (0, []) x) (2, []) = (2 + (mulW n (0, []) x).1, (mulW n (0, []) x).2) := by simp [prodS, tauK]; omega
    rw [this]; exact .refl _
theorem center1_calls (a b : Value) (xs ys : List Int) (w : World) (ha : Ints w a xs) (hb : Ints w b ys) :
    Calls Try.prog 58 #[a, b] w fun e w' => e = .returned (.bool (decide (xs = ys))) ∧ Below w.heap.size w w' := by
  have HE := Lib.hid (equal_calls a b xs ys w ha hb)
  have sa := ha.isSl; have sb := hb.isSl
  clear ha hb
  go_enter Try.func58, Try.ntmps58
  go_wp2_with fail
  refine HE.out.mono ?_
  rintro e w1 ⟨rfl, hb⟩
  go_wp2_with fail
  go_ret
  exact ⟨rfl, hb⟩
theorem rowsV_nil (w : World) : RowsV w (.slice none 0 0) [] [] := ⟨sl_nil w 1, rfl, fun i hi => by simp at hi⟩

set_option maxHeartbeats 8000000 in
set_option maxRecDepth 100000 in
theorem garsideCenter_true {w0 : World} (n : Int) (hn : I64 n) (a : Value) (as1 : List Int) (hra : Ints w0 a as1) (hxa : ∀ x ∈ as1, I64 x) (w : World) (hw : w = w0 := by rfl) :
    Calls Try.prog 11 #[.int .i64 n, a] w fun e w' => e = .returned (.bool true) ∧ Below w.heap.size w w' := by
  subst hw
  obtain ⟨N, hN⟩ : ∃ N : Nat, 2 + n % (5 - 1) = (N : Int) := ⟨(2 + n % (5 - 1)).toNat, by omega⟩
  have hN1 : 2 ≤ N := by omega
  have hN5 : N ≤ 5 := by omega
  have hN2 : N ≤ 6 := by omega
  obtain ⟨X, hX⟩ : ∃ X, X = wordL ((N : Int) - 1) as1 10 := ⟨_, rfl⟩
  have WX : BWord (N : Int) X := by rw [hX]; exact wordL_bw (by omega) as1 10
  have LX : X.length ≤ 10 := by rw [hX]; exact wordL_length _ as1 10
  obtain ⟨Q, hQ⟩ : ∃ Q, inv (hf N) = Q := ⟨_, rfl⟩
  have hQ10 : Q ≤ 10 ∧ (N : Int) * ((N : Int) - 1) = 2 * (Q : Int) := by
    rw [← hQ]
    have : N = 2 ∨ N = 3 ∨ N = 4 ∨ N = 5 := by omega
    rcases this with rfl | rfl | rfl | rfl <;> decide
  obtain ⟨hQ1, hQ2⟩ := hQ10
  have HWX := Lib.hid WX; have HLX := Lib.hid LX; have HQ := Lib.hid hQ
  have HN := Lib.hid hN; have HX0 := Lib.hid hX.symm; have HXA := Lib.hid hxa; have HRA := Lib.hid hra
  have sa := hra.isSl
  clear WX LX hN hX hxa hra hQ
  go_enter Try.func11, Try.ntmps11
  go_wp2_with fail
  refine (strands_calls n 5 _ hn (by decide) (by decide)).mono ?_
  rintro e w' ⟨rfl, rfl⟩
  rw [HN.out]
  go_wp2_with fail
  refine (word_calls ((N : Int) - 1) a as1 10 _ HRA.out HXA.out (by omega) (by omega) (by omega)).mono ?_
  rintro e u1 ⟨x, rfl, hx, hb⟩
  rw [HX0.out] at hx
  have sx := hx.isSl
  have HX := Lib.hid (hx.ints)
  clear HRA
  have HB := Lib.hid hb
  clear hb
  clear hx
  go_wp2_with fail
  refine (gWord_calls N 1 (.slice none 0 0) [] [] _ (rowsV_nil _) (good_nil N) hN1 hN2 (by simp) ⟨by omega, by omega⟩ tight_nil (by simp) (by simp)).mono ?_
  rintro e u2 ⟨h, er, ws, rfl, sh, hwl, hwt, hwe, hw2, hw0, hb⟩
  have hwl2 : ws.length = Q := by rw [hwl, HQ.out]; simp [tot]
  obtain rfl := (hw0 (by omega)).1
  have lh := (hw0 (by omega)).2.ints.len
  rw [hwl2] at lh
  have HWL := Lib.hid hwl2; have HWT := Lib.hid hwt; have HWE := Lib.hid hwe
  have HH := Lib.hid ((hw0 (by rw [hwl, HQ.out]; simp [tot]; omega)).2.ints)
  replace HX := Lib.hid (HX.out.below hb)
  replace HB := Lib.hid (Below.chain HB.out hb)
  clear hb
  clear hwl hwl2 hwt hwe hw2 hw0
  have WF : BWord (N : Int) (ws ++ ws) := (lt_bword HWT.out).append (lt_bword HWT.out)
  have WFX : BWord (N : Int) (ws ++ ws ++ X) := WF.append HWX.out
  have WXF : BWord (N : Int) (X ++ (ws ++ ws)) := HWX.out.append WF
  have LF : (ws ++ ws).length ≤ 20 := by have := HWL.out; simp; omega
  have LFX : (ws ++ ws ++ X).length ≤ 30 := by have := HLX.out; have := HWL.out; simp; omega
  have LXF : (X ++ (ws ++ ws)).length ≤ 30 := by have := HLX.out; have := HWL.out; simp; omega
  have HWFX := Lib.hid WFX; have HWXF := Lib.hid WXF; have HLF := Lib.hid LF; have HLFX := Lib.hid LFX; have HLXF := Lib.hid LXF
  clear WF WFX WXF LF LFX LXF
  go_wp2_with (refine wpList_rows2 rfl (.tmp 26) (.tmp 27) rfl rfl rfl sh sh ?_)
  refine (concat_calls _ _ [ws, ws] _ (rowsV_2 HH.out HH.out) (by have := HLF.out; simpa using Nat.le_trans this (by omega))).mono ?_
  rintro e u3 ⟨f, rfl, hf, hb⟩
  replace hb := Below.chain ((Below.refl _ _).alloc (Nat.le_refl _) _) hb
  simp only [List.flatten_cons, List.flatten_nil, List.append_nil] at hf
  have sf := hf.isSl
  have HF := Lib.hid (hf.ints)
  replace HX := Lib.hid (HX.out.below hb)
  replace HH := Lib.hid (HH.out.below hb)
  replace HB := Lib.hid (Below.chain HB.out hb)
  clear hb
  clear hf
  go_wp2_with fail
  refine (normalForm_calls N _ X _ HX.out hN1 hN2 HWX.out (Nat.le_trans HLX.out (by omega))).mono ?_
  rintro e u4 ⟨⟨k, F⟩, l, ls, rfl, hc, hl, hb⟩
  have HC := Lib.hid hc
  have sl := hl.rows.isSl
  have HLS := Lib.hid (hl.rows)
  replace HX := Lib.hid (HX.out.below hb)
  replace HH := Lib.hid (HH.out.below hb)
  replace HF := Lib.hid (HF.out.below hb)
  replace HB := Lib.hid (Below.chain HB.out hb)
  clear hb
  clear hc hl
  go_wp2_with (refine wpList_rows2 rfl (.tmp 39) (.tmp 40) rfl rfl rfl sf sx ?_)
  refine (concat_calls _ _ [ws ++ ws, X] _ (rowsV_2 HF.out HX.out) (by have := HLFX.out; simpa using Nat.le_trans this (by omega))).mono ?_
  rintro e u5 ⟨g, rfl, hg, hb⟩
  replace hb := Below.chain ((Below.refl _ _).alloc (Nat.le_refl _) _) hb
  simp only [List.flatten_cons, List.flatten_nil, List.append_nil] at hg
  have sg := hg.isSl
  have HG := Lib.hid (hg.ints)
  replace HX := Lib.hid (HX.out.below hb)
  replace HH := Lib.hid (HH.out.below hb)
  replace HF := Lib.hid (HF.out.below hb)
  replace HLS := Lib.hid (HLS.out.below hb)
  replace HB := Lib.hid (Below.chain HB.out hb)
  clear hb
  clear hg
  go_wp2_with fail
  refine (normalForm_calls N _ (ws ++ ws ++ X) _ HG.out hN1 hN2 HWFX.out HLFX.out).mono ?_
  rintro e u6 ⟨⟨i, G⟩, m, ms, rfl, hd, hm, hb⟩
  have HD := Lib.hid hd
  have sm := hm.rows.isSl
  have HMS := Lib.hid (hm.rows)
  replace HX := Lib.hid (HX.out.below hb)
  replace HH := Lib.hid (HH.out.below hb)
  replace HF := Lib.hid (HF.out.below hb)
  replace HLS := Lib.hid (HLS.out.below hb)
  replace HG := Lib.hid (HG.out.below hb)
  replace HB := Lib.hid (Below.chain HB.out hb)
  clear hb
  clear hd hm
  obtain ⟨z1, z2⟩ := center_form (by omega) hN1 HWT.out (bword_lt HWX.out) HWE.out HC.out
  obtain ⟨e1, e2⟩ := Prod.mk.inj (cn_unique HD.out z1)
  simp only at e1 e2
  subst e1
  subst e2
  have HZ1 := Lib.hid z1; have HZ2 := Lib.hid z2
  have nb := nf_bounds HC.out
  have hk30 : -10 ≤ k ∧ k ≤ 10 := by have h2 := nb.2.1; have h3 := nb.2.2; have := HLX.out; simp only at h2 h3; omega
  obtain ⟨hk1, hk2⟩ := hk30
  clear z1 z2 nb
  have wk2 : IntKind.i64.wrap (k + 2) = k + 2 := IntWalk.i64_in _ ⟨by omega, by omega⟩
  have ek2 : (2 + k : Int) = k + 2 := by omega
  rw [ek2]
  clear ek2
  have wmul : IntKind.i64.wrap ((N : Int) * ((N : Int) - 1)) = 2 * (Q : Int) := by rw [hQ2]; exact IntWalk.i64_in _ ⟨by omega, by omega⟩
  have wdiv : (2 * (Q : Int)).tdiv 2 = (Q : Int) := by rw [Int.mul_comm]; exact Int.mul_tdiv_cancel _ (by decide)
  have wdiv2 : (2 * (Q : Int)) / 2 = (Q : Int) := by omega
  have wq : IntKind.i64.wrap (Q : Int) = (Q : Int) := IntWalk.i64_in _ ⟨by omega, by omega⟩
  go_wp2_with fail
  refine (formed_calls _).mono ?_
  rintro e u7 ⟨rfl, hb⟩
  replace HX := Lib.hid (HX.out.below hb)
  replace HH := Lib.hid (HH.out.below hb)
  replace HF := Lib.hid (HF.out.below hb)
  replace HLS := Lib.hid (HLS.out.below hb)
  replace HG := Lib.hid (HG.out.below hb)
  replace HMS := Lib.hid (HMS.out.below hb)
  replace HB := Lib.hid (Below.chain HB.out hb)
  clear hb
  go_wp2_with fail
  refine (equalFunc_calls l m ls ms G G _ (enters_some (Go.Proofs.enters_of Try.func58 (by kernel_rfl) rfl)) _ HLS.out HMS.out (fun W c d xs ys h k => center1_calls c d xs ys W h k)).mono ?_
  rintro e u8 ⟨rfl, hb⟩
  rw [decide_eq_true (rfl : G = G)]
  clear HLS
  clear HMS
  replace HX := Lib.hid (HX.out.below hb)
  replace HH := Lib.hid (HH.out.below hb)
  replace HF := Lib.hid (HF.out.below hb)
  replace HG := Lib.hid (HG.out.below hb)
  replace HB := Lib.hid (Below.chain HB.out hb)
  clear hb
  obtain ⟨f1, f2, f3, rfl, -⟩ := sf.cases
  obtain ⟨x1, x2, x3, rfl, -⟩ := sx.cases
  go_wp2_with fail
  refine (concat_calls _ _ [ws ++ ws, X] _ (rowsV_2 HF.out HX.out) (by have := HLFX.out; simpa using Nat.le_trans this (by omega))).mono ?_
  rintro e u9 ⟨p, rfl, hp, hb⟩
  replace hb := Below.chain ((Below.refl _ _).alloc (Nat.le_refl _) _) hb
  simp only [List.flatten_cons, List.flatten_nil, List.append_nil] at hp
  have sp := hp.isSl
  have HP := Lib.hid (hp.ints)
  replace HX := Lib.hid (HX.out.below hb)
  replace HH := Lib.hid (HH.out.below hb)
  replace HF := Lib.hid (HF.out.below hb)
  replace HG := Lib.hid (HG.out.below hb)
  replace HB := Lib.hid (Below.chain HB.out hb)
  clear hb
  clear hp
  go_wp2_with fail
  refine (concat_calls _ _ [X, (ws ++ ws)] _ (rowsV_2 HX.out HF.out) (by have := HLXF.out; simpa using Nat.le_trans this (by omega))).mono ?_
  rintro e u10 ⟨qq, rfl, hqq, hb⟩
  replace hb := Below.chain ((Below.refl _ _).alloc (Nat.le_refl _) _) hb
  simp only [List.flatten_cons, List.flatten_nil, List.append_nil] at hqq
  have sqq := hqq.isSl
  have HQQ := Lib.hid (hqq.ints)
  replace HX := Lib.hid (HX.out.below hb)
  replace HH := Lib.hid (HH.out.below hb)
  replace HF := Lib.hid (HF.out.below hb)
  replace HG := Lib.hid (HG.out.below hb)
  replace HP := Lib.hid (HP.out.below hb)
  replace HB := Lib.hid (Below.chain HB.out hb)
  clear hb
  clear hqq
  go_wp2_with fail
  refine (forms_calls N _ _ (ws ++ ws ++ X) (X ++ (ws ++ ws)) _ HP.out HQQ.out hN1 hN2 HWFX.out HWXF.out HLFX.out HLXF.out).mono ?_
  rintro e u11 ⟨c, d, rfl, hc, hd, hb⟩
  rw [decide_eq_true ((cn_unique hc HZ1.out).trans (cn_unique hd HZ2.out).symm)]
  clear hc hd
  replace HX := Lib.hid (HX.out.below hb)
  replace HH := Lib.hid (HH.out.below hb)
  replace HF := Lib.hid (HF.out.below hb)
  replace HG := Lib.hid (HG.out.below hb)
  replace HP := Lib.hid (HP.out.below hb)
  replace HQQ := Lib.hid (HQQ.out.below hb)
  replace HB := Lib.hid (Below.chain HB.out hb)
  clear hb
  go_wp2_with fail
  go_ret
  exact ⟨rfl, HB.out⟩

end Go.Proofs.Ytnkahkahcajahaa
