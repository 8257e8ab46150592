/- GarsideInverse: for every input the statement returns true, and nothing that was there has changed. -/
import Derived.Test.YtnkahkahcajahaaGarForms
import Derived.Test.YtnkahkahcajahaaGarInv
import Derived.Test.YtnkahkahcajahaaSides
import Derived.Test.YtnkahkahcajahaaWords
namespace Go.Proofs.Ytnkahkahcajahaa
open Go.RowKit Go.Sl

theorem mulW_bounds {n : Nat} (w : List Int) : ∀ s : St, (mulW n s w).2.length = s.2.length + w.length ∧ s.1 - w.length ≤ (mulW n s w).1 ∧ (mulW n s w).1 ≤ s.1 := by
  induction w with
  | nil => intro s; simp [mulW]
  | cons x w ih =>
    intro s
    obtain ⟨h1, h2, h3⟩ := ih (mulS n s x)
    rw [show mulW n s (x :: w) = mulW n (mulS n s x) w from rfl]
    have h4 : (mulS n s x).2.length = s.2.length + 1 ∧ s.1 - 1 ≤ (mulS n s x).1 ∧ (mulS n s x).1 ≤ s.1 := by
      unfold mulS; split <;> (refine ⟨by simp, ?_, ?_⟩ <;> simp only <;> omega)
    simp only [List.length_cons]
    omega
theorem nf_bounds {n : Nat} {w : List Int} {c : St} (h : Cn n (mulW n (0, []) w) c) : c.2.length ≤ w.length ∧ -(w.length : Int) ≤ c.1 ∧ c.1 ≤ w.length := by
  have h1 := cn_bounds h
  have h2 := mulW_bounds (n := n) w (0, [])
  simp at h2
  omega

set_option maxHeartbeats 4000000 in
set_option maxRecDepth 100000 in
theorem garsideInverse_true {w0 : World} (n : Int) (hn : I64 n) (a : Value) (as1 : List Int) (hra : Ints w0 a as1) (hxa : ∀ x ∈ as1, I64 x) (w : World) (hw : w = w0 := by rfl) :
    Calls Try.prog 12 #[.int .i64 n, a] w fun e w' => e = .returned (.bool true) ∧ Below w.heap.size w w' := by
  subst hw
  obtain ⟨N, hN⟩ : ∃ N : Nat, 2 + n % (6 - 1) = (N : Int) := ⟨(2 + n % (6 - 1)).toNat, by omega⟩
  have hN1 : 2 ≤ N := by omega
  have hN2 : N ≤ 6 := by omega
  obtain ⟨X, hX⟩ : ∃ X, X = wordL ((N : Int) - 1) as1 30 := ⟨_, rfl⟩
  have WX : BWord (N : Int) X := by rw [hX]; exact wordL_bw (by omega) as1 30
  have LX : X.length ≤ 30 := by rw [hX]; exact wordL_length _ as1 30
  have WI : BWord (N : Int) (invL X) := WX.inv
  have LI : (invL X).length ≤ 30 := by rw [invL_len]; exact LX
  obtain ⟨L, hL⟩ : ∃ L, X.length = L := ⟨_, rfl⟩
  have hLI : (invL X).length = L := by rw [invL_len, hL]
  rw [hL] at LX
  obtain ⟨h, hh⟩ : ∃ h : Nat, L / 2 = h := ⟨_, rfl⟩
  have hdiv : (L : Int).tdiv 2 = (h : Int) := by rw [← hh]; exact (Int.ofNat_tdiv L 2).symm
  have hhL : h ≤ L := by omega
  obtain ⟨r, hr⟩ : ∃ r, L - h = r := ⟨_, rfl⟩
  have hsub : (L : Int) - (h : Int) = (r : Int) := by omega
  have hrL : r ≤ L := by omega
  have hcutI : (invL X).drop r = invL (X.take h) := by
    subst hr
    unfold invL
    rw [List.map_take, List.drop_reverse]
    congr 2
    simp [hL]; omega
  have hE : ∀ c d, Cn N (mulW N (0, []) (X.take h ++ invL (X.take h))) c → Cn N (mulW N (0, []) []) d → c = d := fun c d hc hd => by
    have hw := fun x (hx : x ∈ X.take h) => bword_lt WX x (List.mem_of_mem_take hx)
    rw [mulW_append] at hc
    have h1 := (eqv_cn (by omega) hN1 (mulW_inv (by omega) (X.take h) hw (good_nil N)) c).1 hc
    exact cn_unique h1 hd
  have WU : BWord (N : Int) (X.take h ++ invL (X.take h)) := by
    have h1 : BWord (N : Int) (X.take h) := fun x hx => WX x (List.mem_of_mem_take hx)
    exact h1.append h1.inv
  have LU : (X.take h ++ invL (X.take h)).length ≤ 30 := by rw [List.length_append, invL_len, List.length_take, hL]; omega
  have HW1 := Lib.hid WX; have HWI := Lib.hid WI; have HWU := Lib.hid WU; have HLI := Lib.hid LI; have HLU := Lib.hid LU; have HE := Lib.hid hE; have HCI := Lib.hid hcutI
  have HN := Lib.hid hN; have HX0 := Lib.hid hX.symm; have HXA := Lib.hid hxa; have HRA := Lib.hid hra; have HL := Lib.hid hL; have HIL := Lib.hid hLI; have HHH := Lib.hid hh; have HR := Lib.hid hr
  have sa := hra.isSl
  clear WX WI WU LI LU hN hX hxa hra hE hcutI hL hLI hh hr
  go_enter Try.func12, Try.ntmps12
  go_wp2_with fail
  refine (strands_calls n 6 _ hn (by decide) (by decide)).mono ?_
  rintro e w' ⟨rfl, rfl⟩
  rw [HN.out]
  go_wp2_with fail
  refine (word_calls ((N : Int) - 1) a as1 30 _ HRA.out HXA.out (by omega) (by omega) (by omega)).mono ?_
  rintro e u1 ⟨x, rfl, hx, hb⟩
  rw [HX0.out] at hx
  have sx := hx.isSl
  have lx := hx.len
  rw [HL.out] at lx
  have HX := Lib.hid (hx.ints)
  clear HRA
  have HB := Lib.hid hb
  clear hb
  clear hx
  go_wp2_with fail
  refine (binverse_calls N _ X _ HX.out (by omega) (by omega) HW1.out (by have := HL.out; omega)).mono ?_
  rintro e u2 ⟨y, rfl, hy, hb⟩
  have sy := hy.isSl
  have ly := hy.len
  rw [HIL.out] at ly
  have HY := Lib.hid (hy.ints)
  replace HX := Lib.hid (HX.out.below hb)
  replace HB := Lib.hid (Below.chain HB.out hb)
  clear hb
  clear hy
  go_wp2_with fail
  refine (formed_calls _).mono ?_
  rintro e u3 ⟨rfl, hb⟩
  replace HX := Lib.hid (HX.out.below hb)
  replace HY := Lib.hid (HY.out.below hb)
  replace HB := Lib.hid (Below.chain HB.out hb)
  clear hb
  go_wp2_with fail
  refine (normalForm_calls N _ X _ HX.out hN1 hN2 HW1.out (by have := HL.out; omega)).mono ?_
  rintro e u4 ⟨⟨k, F⟩, l, ls, rfl, hc, hl, hb⟩
  have HC := Lib.hid hc
  have sl := hl.rows.isSl
  have ll := hl.rows.len
  replace HX := Lib.hid (HX.out.below hb)
  replace HY := Lib.hid (HY.out.below hb)
  replace HB := Lib.hid (Below.chain HB.out hb)
  clear hb
  clear hc hl
  go_wp2_with fail
  refine (normalForm_calls N _ (invL X) _ HY.out hN1 hN2 HWI.out HLI.out).mono ?_
  rintro e u5 ⟨⟨i, G⟩, m, ms, rfl, hd, hm, hb⟩
  have HD := Lib.hid hd
  have sm := hm.rows.isSl
  have lm := hm.rows.len
  replace HX := Lib.hid (HX.out.below hb)
  replace HY := Lib.hid (HY.out.below hb)
  replace HB := Lib.hid (Below.chain HB.out hb)
  clear hb
  clear hd hm
  obtain ⟨G', hG', hD'⟩ := inv_form (by omega) hN1 (bword_lt HW1.out) HC.out
  obtain ⟨e1, e2⟩ := Prod.mk.inj (cn_unique HD.out hD')
  subst e1
  subst e2
  have nb := nf_bounds HC.out
  rw [HL.out] at nb
  obtain ⟨b1, b2, b3⟩ := nb
  simp only at ll lm
  rw [hG'] at lm
  obtain ⟨M, hM⟩ : ∃ M, F.length = M := ⟨_, rfl⟩
  simp only [hM] at ll lm b1 b2 b3 ⊢
  have HG := Lib.hid hG'; have HM := Lib.hid hM
  clear hG' hD' hM
  have wk : IntKind.i64.wrap (-k) = -k := IntWalk.i64_in _ ⟨by omega, by omega⟩
  have wkm : IntKind.i64.wrap (-k - (M : Int)) = -k - (M : Int) := IntWalk.i64_in _ ⟨by omega, by omega⟩
  have wsub : IntKind.i64.wrap ((L : Int) - (h : Int)) = (r : Int) := by rw [hsub]; exact IntWalk.i64_in _ ⟨by omega, by omega⟩
  obtain ⟨cx, hcx⟩ : ∃ c, vcap x = c := ⟨_, rfl⟩
  obtain ⟨cy, hcy⟩ : ∃ c, vcap y = c := ⟨_, rfl⟩
  have hxc : L ≤ cx := by have := sx.le; omega
  have hyc : L ≤ cy := by have := sy.le; omega
  have hu1 := HX.out.cut (l := 0) (r := h) (m := vcap x) (Nat.zero_le _) (by rw [HL.out]; exact hhL) (by omega) (Nat.le_refl _)
  have hu2 := HY.out.cut (l := r) (r := L) (m := vcap y) hrL (by rw [HIL.out]; exact Nat.le_refl _) (by omega) (Nat.le_refl _)
  rw [hcx] at hu1
  rw [hcy] at hu2
  simp only [List.drop_zero, Nat.sub_zero] at hu1
  rw [HCI.out, List.take_of_length_le (by rw [invL_len, List.length_take, HL.out]; omega)] at hu2
  have s1 := hu1.isSl
  have s2 := hu2.isSl
  have HU1 := Lib.hid hu1; have HU2 := Lib.hid hu2
  clear hu1 hu2
  have hdiv2 : (L : Int) / 2 = (h : Int) := by have := HHH.out; omega
  have wrr : IntKind.i64.wrap (r : Int) = (r : Int) := IntWalk.i64_in _ ⟨by omega, by omega⟩
  have whh : IntKind.i64.wrap (h : Int) = (h : Int) := IntWalk.i64_in _ ⟨by omega, by omega⟩
  have wh1 : IntKind.i64.wrap ((L : Int).tdiv 2) = (h : Int) := by rw [hdiv]; exact whh
  have wh2 : IntKind.i64.wrap ((L : Int) / 2) = (h : Int) := by rw [hdiv2]; exact whh
  have hh0 : (0 : Int) ≤ (h : Int) := by omega
  have hLh0 : (0 : Int) ≤ (r : Int) := by omega
  have hLh : (r : Int) ≤ (L : Int) := by omega
  have hhc : (h : Int) ≤ (cx : Int) := by omega
  have HBq := Lib.hid (show Below u5.heap.size u5 u5.drew from (Below.refl _ _).drew)
  have HCC := Lib.hid (fun W (hW : Below u5.heap.size u5 W) => concat_calls _ _ [X.take h, invL (X.take h)] _ (rowsV_2 (HU1.out.below hW) (HU2.out.below hW)) (by have := HLU.out; simpa using Nat.le_trans this (by omega)))
  simp only [List.flatten_cons, List.flatten_nil, List.append_nil] at HCC
  have HGE := Lib.hid (fun W v (hv : Ints W v (X.take h ++ invL (X.take h))) => gequal_calls N v (.slice none 0 0) (X.take h ++ invL (X.take h)) [] W hv (ints_nil _) hN1 hN2 HWU.out (fun x hx => by cases hx) HLU.out (by simp))
  go_wp2_with fail
  go_region_with (first
    | (go_at_call 56; refine (HCC.out _ HBq.out).mono ?_; rintro e u6 ⟨z, rfl, hz, hb6⟩; have sz := hz.isSl; have HZ := Lib.hid hz.ints; have HB6 := Lib.hid hb6; clear hz hb6)
    | (go_at_call 50; refine (HGE.out _ _ HZ.out).mono ?_; rintro e u7 ⟨c, d, rfl, hcc, hdd, hb7⟩; have hcd := HE.out c d hcc hdd; subst hcd; have HB7 := Lib.hid hb7; clear hcc hdd hb7))
  have HB8 := Lib.hid (Below.chain HB.out (Below.chain (show Below u5.heap.size u5 u6 from Below.chain ((Below.refl _ _).drew.alloc (Nat.le_refl _) _) HB6.out) HB7.out))
  go_wp2_with fail
  refine (formed_calls _).mono ?_
  rintro e u8 ⟨rfl, hb8⟩
  have HB9 := Lib.hid (Below.chain HB8.out hb8)
  clear hb8
  go_wp2_with fail
  go_ret
  exact ⟨rfl, HB9.out⟩

end Go.Proofs.Ytnkahkahcajahaa
