/- TangleTurns: for every input the statement returns true, and nothing that was there has changed. -/
import Derived.Test.YtbopcejelddooaaFraction
namespace Go.Proofs.Ytbopcejelddooaa
open Go.RowKit Go.Sl

theorem below_lits {v u : World} {o : Obj} (hb : Below (v.alloc o).heap.size (v.alloc o) u) : Below v.heap.size v u := Below.chain ((Below.refl _ _).alloc (Nat.le_refl _) o) hb
theorem Pair.step {v u : World} {B : Nat} {t : TypeId} {x y : Value} (h : Pair v B t x y) (hb : Below v.heap.size v u) (o : Obj) : Pair (u.alloc o) B t x y := (h.below hb).alloc o
theorem below_step {w v u : World} (h : Below w.heap.size w v) (hb : Below v.heap.size v u) (o : Obj) : Below w.heap.size w (u.alloc o) := (Below.chain h hb).alloc (by have := h.size; have := hb.size; omega) o

def OkAll (f : Int × Int) (ops : List Int) : Prop := ∀ k, k ≤ ops.length → FOk (applyL f (ops.take k))
theorem okAll_nil {f : Int × Int} (h : FOk f) : OkAll f [] := fun k _ => by simpa [applyL] using h
theorem okAll_cons {f : Int × Int} {x : Int} {ops : List Int} (h : FOk f) (k : OkAll (stepF f x) ops) : OkAll f (x :: ops) := fun j hj => by
  cases j with
  | zero => simpa [applyL] using h
  | succ j => rw [List.take_succ_cons]; exact k j (by simpa using hj)
theorem turn_turn {n d : Int} (h : FracOk n d) : turnF (turnF n d).1 (turnF n d).2 = (n, d) := by
  have h1 := h.inf; have h2 := h.d0; have h3 := h.gcd
  rcases Int.lt_trichotomy n 0 with hn | hn | hn
  · have e : turnF n d = (d, -n) := by unfold turnF; rw [if_pos hn]
    rw [e]
    have hd : 0 < d := by omega
    unfold turnF
    rw [if_neg (by omega), if_neg (by omega)]; simp
  · subst hn
    have e : turnF 0 d = (1, 0) := rfl
    rw [e]
    have : d = 1 := by simp at h3; omega
    subst this; rfl
  · have e : turnF n d = (-d, n) := by unfold turnF; rw [if_neg (by omega), if_neg (by omega)]
    rw [e]
    unfold turnF
    by_cases hd : 0 < d
    · rw [if_pos (by omega)]; simp
    · have hd0 : d = 0 := by omega
      have : n = 1 := h1 hd0
      subst hd0 this; rfl
theorem stepF_plus {n d k : Int} (hk : k ≠ 0) : stepF (n, d) k = (n + k * d, d) := by unfold stepF; rw [if_neg hk]
theorem stepF_turn (n d : Int) : stepF (n, d) 0 = turnF n d := rfl

theorem rational_calls (w : World) :
    Calls Try.prog 52 #[] w fun e w' => e = .returned (.bool true) ∧ Below w.heap.size w w' := by
  go_enter Try.func52, Try.ntmps52
  go_wp2_with fail
  refine (untangle_calls 1 2 _ ⟨by decide, by decide, by decide, by decide, by decide, by decide⟩).mono ?_
  rintro e w1 ⟨v1, rfl, hv1, hb1⟩
  have hu : untL 1 2 = [-1, 0, -2] := by decide
  rw [hu] at hv1
  have sv1 := hv1.isSl
  have HB1 := Lib.hid hb1; clear hb1
  have HV1 := Lib.hid hv1.ints; clear hv1 hu
  go_wp2_with fail
  refine (equal_yes _ _ _ [-1, 0, -2] _ (HV1.out.alloc _) (ints_lit [-1, 0, -2] (by simp) rfl rfl (by decide)) rfl).mono ?_
  rintro e w2 ⟨rfl, hb2⟩
  go_wp2_with fail
  go_ret
  exact ⟨rfl, Below.chain HB1.out (below_lits hb2)⟩

set_option maxHeartbeats 2000000 in
set_option maxRecDepth 100000 in
theorem tangleTurns_true (a : Int) (ha : I64 a) (b : Int) (hb : I64 b) (i : Int) (hi : I64 i) (k : Int) (hk : I64 k) (w : World) :
    Calls Try.prog 13 #[.int .i64 a, .int .i64 b, .int .i64 i, .int .i64 k] w fun e w' => e = .returned (.bool true) ∧ Below w.heap.size w w' := by
  obtain ⟨I0, hI⟩ : ∃ I0 : Nat, i % 50 = (I0 : Int) := ⟨(i % 50).toNat, by omega⟩
  obtain ⟨K0, hK⟩ : ∃ K0 : Nat, k % 50 = (K0 : Int) := ⟨(k % 50).toNat, by omega⟩
  have hI1 : I0 ≤ 49 := by omega
  have hK1 : K0 ≤ 49 := by omega
  obtain ⟨p, hp⟩ : ∃ p : Int, 1 + (I0 : Int) = p := ⟨_, rfl⟩
  obtain ⟨q, hq⟩ : ∃ q : Int, 1 + (K0 : Int) = q := ⟨_, rfl⟩
  have hp1 : 1 ≤ p := by omega
  have hp2 : p ≤ 50 := by omega
  have hq1 : 1 ≤ q := by omega
  have hq2 : q ≤ 50 := by omega
  have HI := Lib.hid hI; have HK := Lib.hid hK; have HP := Lib.hid hp; have HQ := Lib.hid hq; clear hI hK hp hq
  go_enter Try.func13, Try.ntmps13
  go_wp2_with fail
  refine (fraction_calls a b _ ha hb).mono ?_
  rintro e u1 ⟨n, d, rfl, hok, hn, hd1, hd2, hb1⟩
  obtain ⟨v1, hv1⟩ : ∃ v1, v1 = u1.alloc (.cells #[.int .i64 n, .int .i64 d] 65) := ⟨_, rfl⟩
  have pf : Pair v1 u1.heap.size 65 (.int .i64 n) (.int .i64 d) := by rw [hv1]; exact pair_new _ _ _ _
  have HB : Below w.heap.size w v1 := by rw [hv1]; exact hb1.alloc hb1.size _
  have HV1 := Lib.hid hv1.symm; clear hv1 hb1
  have PF := Lib.hid pf; have HBB := Lib.hid HB; clear pf HB
  go_wp2_with fail
  rw [HV1.out]
  refine (below_nat i 50 I0 _ (by omega) (by omega) hi HI.out).mono ?_
  rintro e w' ⟨rfl, rfl⟩
  go_wp2_with fail
  refine (below_nat k 50 K0 _ (by omega) (by omega) hk HK.out).mono ?_
  rintro e w' ⟨rfl, rfl⟩
  have c0 := PF.out.cell0; have c1 := PF.out.cell1
  go_wp2_with fail
  simp only [HP.out, HQ.out]
  obtain ⟨r, hr⟩ : ∃ r : Int, r = n + p * d := ⟨_, rfl⟩
  obtain ⟨x, y, hxy⟩ : ∃ x y : Int, turnF r d = (x, y) := ⟨_, _, rfl⟩
  have hpd1 : 0 ≤ p * d := Int.mul_nonneg (by omega) (by omega)
  have hpd2 : p * d ≤ 50 * 999 := Int.mul_le_mul hp2 hd2 (by omega) (by omega)
  have hqd1 : 0 ≤ q * d := Int.mul_nonneg (by omega) (by omega)
  have hqd2 : q * d ≤ 50 * 999 := Int.mul_le_mul hq2 hd2 (by omega) (by omega)
  have hd0 : d ≠ 0 := by omega
  have okr : FracOk r d := by rw [hr]; exact hok.plus hd0 (by omega) (by omega)
  have okq : FracOk (r + q * d) d := okr.plus hd0 (by rw [hr]; omega) (by rw [hr]; omega)
  have hs1 : stepF (n, d) p = (r, d) := by rw [stepF_plus (by omega), hr]
  have hs2 : stepF (r, d) q = (r + q * d, d) := stepF_plus (by omega)
  have hs3 : stepF (r + q * d, d) (-p - q) = (n, d) := by
    rw [stepF_plus (by omega), hr, Int.sub_mul, Int.neg_mul]
    congr 1
    omega
  have hA1 : applyL (n, d) [0, 0] = (n, d) := by show stepF (stepF (n, d) 0) 0 = _; exact turn_turn hok
  have hA2 : applyL (n, d) [p, q, -p - q] = (n, d) := by show stepF (stepF (stepF (n, d) p) q) (-p - q) = _; rw [hs1, hs2, hs3]
  have hA3 : applyL (n, d) [p, 0] = (x, y) := by show stepF (stepF (n, d) p) 0 = _; rw [hs1]; exact hxy
  have hA4 : applyL (n, d) [p] = (r, d) := hs1
  have hA5 : applyL (r, d) [0] = (x, y) := hxy
  have okt : FOk (stepF (n, d) 0) := hok.turn
  have okrt : FOk (stepF (r, d) 0) := okr.turn
  have hO1 : OkAll (n, d) [0, 0] := okAll_cons hok (okAll_cons okt (okAll_nil (by have := turn_turn hok; show FOk (turnF (turnF n d).1 (turnF n d).2); rw [this]; exact hok)))
  have hO2 : OkAll (n, d) [p, q, -p - q] := okAll_cons hok (by rw [hs1]; exact okAll_cons okr (by rw [hs2]; exact okAll_cons okq (by rw [hs3]; exact okAll_nil hok)))
  have hO3 : OkAll (n, d) [p, 0] := okAll_cons hok (by rw [hs1]; exact okAll_cons okr (okAll_nil okrt))
  have hO4 : OkAll (n, d) [p] := okAll_cons hok (by rw [hs1]; exact okAll_nil okr)
  have hO5 : OkAll (r, d) [0] := okAll_cons okr (okAll_nil okrt)
  have HA1 := Lib.hid hA1; have HO1 := Lib.hid hO1; have HA2 := Lib.hid hA2; have HO2 := Lib.hid hO2; have HA3 := Lib.hid hA3; have HO3 := Lib.hid hO3; have HA4 := Lib.hid hA4; have HO4 := Lib.hid hO4; have HA5 := Lib.hid hA5; have HO5 := Lib.hid hO5
  clear hA1 hO1 hA2 hO2 hA3 hO3 hA4 hO4 hA5 hO5 hs1 hs2 hs3 hr hxy okr okq okt okrt hok hpd1 hpd2 hqd1 hqd2 hd0
  refine (apply_calls n d _ [0, 0] _ (ints_lit [0, 0] (by simp) rfl rfl (by simp)) (by simp) (by simp) HO1.out).mono ?_
  rw [HA1.out]
  rintro e u2 ⟨rfl, hb2⟩
  replace hb2 := below_lits hb2
  have w2_0 := PF.out.below hb2; have x2_0 := w2_0.cell0; have y2_0 := w2_0.cell1; have l2_0 := w2_0.lt; clear w2_0
  obtain ⟨v2, hv2⟩ : ∃ v2, v2 = u2.alloc (.cells #[.int .i64 n, .int .i64 d] 65) := ⟨_, rfl⟩
  have PF2 := Lib.hid (show Pair v2 _ _ _ _ by rw [hv2]; exact PF.out.step hb2 _)
  have P2 := Lib.hid (show Pair v2 u2.heap.size 65 (.int .i64 n) (.int .i64 d) by rw [hv2]; exact pair_new _ _ _ _)
  have HB2 := Lib.hid (show Below w.heap.size w v2 by rw [hv2]; exact below_step HBB.out hb2 _)
  have HS2 := Lib.hid (show u2.heap.size + 1 = v2.heap.size by rw [hv2]; simp)
  have HV2 := Lib.hid hv2.symm; clear hv2 hb2
  go_wp2_with fail
  rw [HV2.out]
  refine (apply_calls n d _ [p, q, -p - q] _ (ints_lit [p, q, -p - q] HS2.out rfl rfl (by simp)) (by simp) (by simp; omega) HO2.out).mono ?_
  rw [HA2.out]
  rintro e u3 ⟨rfl, hb3⟩
  replace hb3 := below_lits hb3
  have w3_0 := PF2.out.below hb3; have x3_0 := w3_0.cell0; have y3_0 := w3_0.cell1; have l3_0 := w3_0.lt; clear w3_0
  have w3_1 := P2.out.below hb3; have x3_1 := w3_1.cell0; have y3_1 := w3_1.cell1; have l3_1 := w3_1.lt; clear w3_1
  obtain ⟨v3, hv3⟩ : ∃ v3, v3 = u3.alloc (.cells #[.int .i64 n, .int .i64 d] 65) := ⟨_, rfl⟩
  have PF3 := Lib.hid (show Pair v3 _ _ _ _ by rw [hv3]; exact PF2.out.step hb3 _)
  have P23 := Lib.hid (show Pair v3 _ _ _ _ by rw [hv3]; exact P2.out.step hb3 _)
  have P3 := Lib.hid (show Pair v3 u3.heap.size 65 (.int .i64 n) (.int .i64 d) by rw [hv3]; exact pair_new _ _ _ _)
  have HB3 := Lib.hid (show Below w.heap.size w v3 by rw [hv3]; exact below_step HB2.out hb3 _)
  have HS3 := Lib.hid (show u3.heap.size + 1 = v3.heap.size by rw [hv3]; simp)
  have HV3 := Lib.hid hv3.symm; clear hv3 hb3
  go_wp2_with fail
  rw [HV3.out]
  refine (apply_calls n d _ [p, 0] _ (ints_lit [p, 0] HS3.out rfl rfl (by simp)) (by simp) (by simp; omega) HO3.out).mono ?_
  rw [HA3.out]
  rintro e u4 ⟨rfl, hb4⟩
  replace hb4 := below_lits hb4
  have w4_0 := PF3.out.below hb4; have x4_0 := w4_0.cell0; have y4_0 := w4_0.cell1; have l4_0 := w4_0.lt; clear w4_0
  have w4_1 := P23.out.below hb4; have x4_1 := w4_1.cell0; have y4_1 := w4_1.cell1; have l4_1 := w4_1.lt; clear w4_1
  have w4_2 := P3.out.below hb4; have x4_2 := w4_2.cell0; have y4_2 := w4_2.cell1; have l4_2 := w4_2.lt; clear w4_2
  obtain ⟨v4, hv4⟩ : ∃ v4, v4 = u4.alloc (.cells #[.int .i64 x, .int .i64 y] 65) := ⟨_, rfl⟩
  have PF4 := Lib.hid (show Pair v4 _ _ _ _ by rw [hv4]; exact PF3.out.step hb4 _)
  have P24 := Lib.hid (show Pair v4 _ _ _ _ by rw [hv4]; exact P23.out.step hb4 _)
  have P34 := Lib.hid (show Pair v4 _ _ _ _ by rw [hv4]; exact P3.out.step hb4 _)
  have P4 := Lib.hid (show Pair v4 u4.heap.size 65 (.int .i64 x) (.int .i64 y) by rw [hv4]; exact pair_new _ _ _ _)
  have HB4 := Lib.hid (show Below w.heap.size w v4 by rw [hv4]; exact below_step HB3.out hb4 _)
  have HS4 := Lib.hid (show u4.heap.size + 1 = v4.heap.size by rw [hv4]; simp)
  have HV4 := Lib.hid hv4.symm; clear hv4 hb4
  go_wp2_with fail
  rw [HV4.out]
  refine (apply_calls n d _ [p] _ (ints_lit [p] HS4.out rfl rfl (by simp)) (by simp) (by simp; omega) HO4.out).mono ?_
  rw [HA4.out]
  rintro e u5 ⟨rfl, hb5⟩
  replace hb5 := below_lits hb5
  have w5_0 := PF4.out.below hb5; have x5_0 := w5_0.cell0; have y5_0 := w5_0.cell1; have l5_0 := w5_0.lt; clear w5_0
  have w5_1 := P24.out.below hb5; have x5_1 := w5_1.cell0; have y5_1 := w5_1.cell1; have l5_1 := w5_1.lt; clear w5_1
  have w5_2 := P34.out.below hb5; have x5_2 := w5_2.cell0; have y5_2 := w5_2.cell1; have l5_2 := w5_2.lt; clear w5_2
  have w5_3 := P4.out.below hb5; have x5_3 := w5_3.cell0; have y5_3 := w5_3.cell1; have l5_3 := w5_3.lt; clear w5_3
  obtain ⟨v5, hv5⟩ : ∃ v5, v5 = u5.alloc (.cells #[.int .i64 r, .int .i64 d] 65) := ⟨_, rfl⟩
  have PF5 := Lib.hid (show Pair v5 _ _ _ _ by rw [hv5]; exact PF4.out.step hb5 _)
  have P25 := Lib.hid (show Pair v5 _ _ _ _ by rw [hv5]; exact P24.out.step hb5 _)
  have P35 := Lib.hid (show Pair v5 _ _ _ _ by rw [hv5]; exact P34.out.step hb5 _)
  have P45 := Lib.hid (show Pair v5 _ _ _ _ by rw [hv5]; exact P4.out.step hb5 _)
  have P5 := Lib.hid (show Pair v5 u5.heap.size 65 (.int .i64 r) (.int .i64 d) by rw [hv5]; exact pair_new _ _ _ _)
  have HB5 := Lib.hid (show Below w.heap.size w v5 by rw [hv5]; exact below_step HB4.out hb5 _)
  have HS5 := Lib.hid (show u5.heap.size + 1 = v5.heap.size by rw [hv5]; simp)
  have HV5 := Lib.hid hv5.symm; clear hv5 hb5
  go_wp2_with fail
  rw [HV5.out]
  refine (apply_calls r d _ [0] _ (ints_lit [0] HS5.out rfl rfl (by simp)) (by simp) (by simp) HO5.out).mono ?_
  rw [HA5.out]
  rintro e u6 ⟨rfl, hb6⟩
  replace hb6 := below_lits hb6
  have w6_0 := PF5.out.below hb6; have x6_0 := w6_0.cell0; have y6_0 := w6_0.cell1; have l6_0 := w6_0.lt; clear w6_0
  have w6_1 := P25.out.below hb6; have x6_1 := w6_1.cell0; have y6_1 := w6_1.cell1; have l6_1 := w6_1.lt; clear w6_1
  have w6_2 := P35.out.below hb6; have x6_2 := w6_2.cell0; have y6_2 := w6_2.cell1; have l6_2 := w6_2.lt; clear w6_2
  have w6_3 := P45.out.below hb6; have x6_3 := w6_3.cell0; have y6_3 := w6_3.cell1; have l6_3 := w6_3.lt; clear w6_3
  have w6_4 := P5.out.below hb6; have x6_4 := w6_4.cell0; have y6_4 := w6_4.cell1; have l6_4 := w6_4.lt; clear w6_4
  obtain ⟨v6, hv6⟩ : ∃ v6, v6 = u6.alloc (.cells #[.int .i64 x, .int .i64 y] 65) := ⟨_, rfl⟩
  have PF6 := Lib.hid (show Pair v6 _ _ _ _ by rw [hv6]; exact PF5.out.step hb6 _)
  have P26 := Lib.hid (show Pair v6 _ _ _ _ by rw [hv6]; exact P25.out.step hb6 _)
  have P36 := Lib.hid (show Pair v6 _ _ _ _ by rw [hv6]; exact P35.out.step hb6 _)
  have P46 := Lib.hid (show Pair v6 _ _ _ _ by rw [hv6]; exact P45.out.step hb6 _)
  have P56 := Lib.hid (show Pair v6 _ _ _ _ by rw [hv6]; exact P5.out.step hb6 _)
  have P6 := Lib.hid (show Pair v6 u6.heap.size 65 (.int .i64 x) (.int .i64 y) by rw [hv6]; exact pair_new _ _ _ _)
  have HB6 := Lib.hid (show Below w.heap.size w v6 by rw [hv6]; exact below_step HB5.out hb6 _)
  have HS6 := Lib.hid (show u6.heap.size + 1 = v6.heap.size by rw [hv6]; simp)
  have HV6 := Lib.hid hv6.symm; clear hv6 hb6
  go_wp2_with fail
  rw [HV6.out]
  refine (rational_calls _).mono ?_
  rintro e u7 ⟨rfl, hb7⟩
  have q0 := PF6.out.below hb7; have z0 := q0.cell0; have y0 := q0.cell1; clear q0
  have q1 := P26.out.below hb7; have z1 := q1.cell0; have y1 := q1.cell1; clear q1
  have q2 := P36.out.below hb7; have z2 := q2.cell0; have y2 := q2.cell1; clear q2
  have q3 := P46.out.below hb7; have z3 := q3.cell0; have y3 := q3.cell1; clear q3
  have q4 := P56.out.below hb7; have z4 := q4.cell0; have y4 := q4.cell1; clear q4
  have q5 := P6.out.below hb7; have z5 := q5.cell0; have y5 := q5.cell1; clear q5
  have HB7 := Lib.hid (Below.chain HB6.out hb7); clear hb7
  go_wp2_with fail
  go_ret
  exact ⟨rfl, HB7.out⟩

end Go.Proofs.Ytbopcejelddooaa
