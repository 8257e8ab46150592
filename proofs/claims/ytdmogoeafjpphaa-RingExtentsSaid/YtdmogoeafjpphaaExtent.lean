/- ringing.extent and Extent walked. -/
import Derived.Test.YtdmogoeafjpphaaExtLaw
import Derived.Test.YtdmogoeafjpphaaClip
namespace Go.Proofs.Ytdmogoeafjpphaa
open Go.RowKit Go.Sl

theorem pw_wrap : ∀ k : Fin 7, IntKind.i64.wrap ((2 : Int) ^ k.val) = pw k.val := by decide +kernel
theorem pw_bounds : ∀ k : Fin 7, 1 ≤ pw k.val ∧ pw k.val ≤ 64 := by decide +kernel
theorem fac_le : ∀ n : Fin 8, fac n.val ≤ 5040 := by decide +kernel
/-- The first i of the changes in which the last bell moves. -/
def huntTo (n j i : Nat) : List Int := (List.range i).map (fun i => if j % 2 = 0 then pw (n - 2 - i) else pw i)
theorem huntTo_succ (n j i : Nat) : huntTo n j (i + 1) = huntTo n j i ++ [if j % 2 = 0 then pw (n - 2 - i) else pw i] := by simp [huntTo, List.range_succ]
theorem huntTo_length (n j i : Nat) : (huntTo n j i).length = i := by simp [huntTo]
theorem leadL_hunt (n j : Nat) (c : Int) : leadL n j c = huntTo n j (n - 1) ++ [if j % 2 = 0 then 2 * c else c] := rfl

set_option maxRecDepth 100000 in
set_option maxHeartbeats 4000000 in
theorem extent_step (n : Nat) (h2 : 3 ≤ n) (h7 : n ≤ 7) (ih : ∀ W, Calls Try.prog 111 #[.int .i64 ((n : Int) - 1)] W fun e w' => ∃ v, e = .returned v ∧ OwnI w' W.heap.size v (extL (n - 1)) ∧ Below W.heap.size W w') (w : World) :
    Calls Try.prog 111 #[.int .i64 n] w fun e w' => ∃ v, e = .returned v ∧ OwnI w' w.heap.size v (extTo n (extL (n - 1)) (extL (n - 1)).length) ∧ Below w.heap.size w w' := by
  obtain ⟨P, hP⟩ : ∃ P, P = extL (n - 1) := ⟨_, rfl⟩
  have hPl : P.length ≤ 720 := by
    rw [hP, extL_length _ (by omega)]
    rcases (show n = 3 ∨ n = 4 ∨ n = 5 ∨ n = 6 ∨ n = 7 by omega) with rfl | rfl | rfl | rfl | rfl <;> decide
  have hPp : ∀ x ∈ P, Pow (n - 1) x := by rw [hP]; exact extL_pow _ (by omega)
  rw [← hP] at ih ⊢
  have IH := Lib.hid ih; have HPP := Lib.hid hPp
  have n2 : ((n : Int) == 2) = false := by simp; omega
  clear ih hP hPp
  go_enter Try.func111, Try.ntmps111
  go_wp2_with fail
  refine (IH.out _).mono ?_
  rintro e w1 ⟨p, rfl, hp, hb1⟩
  have sp := hp.isSl
  have lp := hp.len
  have HPI := Lib.hid hp.ints; have HB1 := Lib.hid hb1
  clear hp hb1
  go_wp2_with fail
  go_loopw [3, 14] (fun o j wr => ∃ k : Nat, k ≤ P.length ∧ j = .int .i64 k ∧ OwnI wr w1.heap.size o (extTo n P k) ∧ Below w1.heap.size w1 wr) (fun _ j _ => P.length - (intOf j).toNat)
  case atStart => exact ⟨0, Nat.zero_le _, rfl, ownI_nil _ _, Below.refl _ _⟩
  case round =>
    rename World => W0
    obtain ⟨k, hk, rfl, ho, hb⟩ := hrel
    by_cases hlt : k < P.length
    · have ck := (HPI.out.below hb).cell hlt
      obtain ⟨q, hq, hqe⟩ := HPP.out _ (nth_mem hlt)
      have hql := extTo_length n P (by omega) k
      obtain ⟨X, hX⟩ : ∃ X, extTo n P k = X := ⟨_, rfl⟩
      rw [hX] at ho hql
      have hXl : X.length ≤ 5040 := by rw [hql]; exact Nat.le_trans (Nat.mul_le_mul (show k ≤ 720 by omega) h7) (by omega)
      have hstep : extTo n P (k + 1) = X ++ leadL n k (nth P k) := by rw [extTo, hX]
      rw [hqe] at ck hstep
      have HO := Lib.hid ho; have HB := Lib.hid hb; have HST := Lib.hid hstep; have HPI2 := Lib.hid (HPI.out.below hb)
      have so := ho.isSl
      have hqb := pw_bounds ⟨q, by omega⟩
      simp only at hqb
      clear ho hb hstep hX hql hqe
      have hq7 := pw_wrap ⟨q + 1, by omega⟩
      simp only at hq7
      have hpws := pw_succ q
      rcases Nat.mod_two_eq_zero_or_one k with hpar | hpar
      · have e1 : (((k : Int) % 2 : Int) == 0) = true := by simp; omega
        have e2 : (((k : Int).tmod 2 : Int) == 0) = true := by rw [Int.tmod_eq_emod_of_nonneg (by omega)]; exact e1
        have HPAR := Lib.hid hpar; have HQ7 := Lib.hid hq7; have HPS := Lib.hid hpws
        clear hpar hq7 hpws
        go_wp2_with fail
        go_loopw [3, 21] (fun o i wr => ∃ j : Nat, j ≤ n - 1 ∧ i = .int .i64 j ∧ OwnI wr w1.heap.size o (X ++ huntTo n k j) ∧ Below w1.heap.size w1 wr) (fun _ i _ => n - (intOf i).toNat)
        case atStart => exact ⟨0, Nat.zero_le _, rfl, by simpa [huntTo] using HO.out, HB.out⟩
        case round =>
          obtain ⟨j, hj, rfl, ho, hb⟩ := hrel
          have so2 := ho.isSl
          by_cases hji : j < n - 1
          · have hji' : (j : Int) < (n : Int) - 1 := by omega
            obtain ⟨e, he⟩ : ∃ e : Nat, e = n - 2 - j := ⟨_, rfl⟩
            have he2 : (n : Int) - 2 - (j : Int) = (e : Int) := by omega
            have hw := pw_wrap ⟨e, by omega⟩
            simp only at hw
            have hst := huntTo_succ n k j
            rw [if_pos HPAR.out, ← he] at hst
            have hlen : (X ++ huntTo n k j).length ≤ 1000000000000 := by rw [List.length_append, huntTo_length]; omega
            have hbs := hb.size
            have HO2 := Lib.hid ho; have HB2 := Lib.hid hb; have HST2 := Lib.hid hst; have HLEN := Lib.hid hlen; have HBS := Lib.hid hbs
            clear ho hb hst he hlen hbs
            go_wp2_with (at_builtin; refine wpList_push (z := pw e) rfl _ _ rfl rfl rfl HO2.out HBS.out HLEN.out ?_; intro v' w' ho3 hg3 hr3; have so3 := ho3.isSl)
            have hb3 := Below_of_grown HB2.out hg3 HBS.out (fun k hk => (HO2.out.lt k hk).1)
            have HO3 := Lib.hid ho3; have HB3 := Lib.hid hb3
            clear ho3 hg3 hr3 hb3
            go_roundw
            case rel => exact ⟨j + 1, by omega, by go_num, by rw [HST2.out, ← List.append_assoc]; exact HO3.out, HB3.out⟩
            case measure => simp [intOf]; omega
          · obtain rfl : j = n - 1 := by omega
            have hji' : ¬ ((n - 1 : Nat) : Int) < (n : Int) - 1 := by omega
            have hlen : (X ++ huntTo n k (n - 1)).length ≤ 1000000000000 := by rw [List.length_append, huntTo_length]; omega
            have hfin : (X ++ huntTo n k (n - 1)) ++ [pw (q + 1)] = extTo n P (k + 1) := by rw [HST.out, leadL_hunt, if_pos HPAR.out, HPS.out, List.append_assoc]
            have hbs := hb.size
            have HO2 := Lib.hid ho; have HB2 := Lib.hid hb; have HF := Lib.hid hfin; have HLEN := Lib.hid hlen; have HBS := Lib.hid hbs
            clear ho hb hfin hlen hbs
            go_wp2_with (at_builtin; refine wpList_push (z := pw (q + 1)) rfl _ _ rfl rfl rfl HO2.out HBS.out HLEN.out ?_; intro v' w' ho3 hg3 hr3; have so3 := ho3.isSl)
            have hb3 := Below_of_grown HB2.out hg3 HBS.out (fun k hk => (HO2.out.lt k hk).1)
            rw [HF.out] at ho3
            have HO3 := Lib.hid ho3; have HB3 := Lib.hid hb3
            clear ho3 hg3 hr3 hb3
            refine ⟨⟨k + 1, by omega, by go_num, HO3.out, HB3.out⟩, by simp [intOf]; omega⟩
      · have e1 : (((k : Int) % 2 : Int) == 0) = false := by simp; omega
        have e2 : (((k : Int).tmod 2 : Int) == 0) = false := by rw [Int.tmod_eq_emod_of_nonneg (by omega)]; exact e1
        have HPAR := Lib.hid hpar; have HQ7 := Lib.hid hq7; have HPS := Lib.hid hpws
        clear hpar hq7 hpws
        go_wp2_with fail
        go_loopw [3, 21] (fun o i wr => ∃ j : Nat, j ≤ n - 1 ∧ i = .int .i64 j ∧ OwnI wr w1.heap.size o (X ++ huntTo n k j) ∧ Below w1.heap.size w1 wr) (fun _ i _ => n - (intOf i).toNat)
        case atStart => exact ⟨0, Nat.zero_le _, rfl, by simpa [huntTo] using HO.out, HB.out⟩
        case round =>
          obtain ⟨j, hj, rfl, ho, hb⟩ := hrel
          have so2 := ho.isSl
          by_cases hji : j < n - 1
          · have hji' : (j : Int) < (n : Int) - 1 := by omega
            obtain ⟨e, he⟩ : ∃ e : Nat, e = j := ⟨_, rfl⟩
            have he2 : (j : Int) < 7 := by omega
            have hw := pw_wrap ⟨j, by omega⟩
            simp only at hw
            have hst := huntTo_succ n k j
            rw [if_neg (by rw [HPAR.out]; decide)] at hst
            have hlen : (X ++ huntTo n k j).length ≤ 1000000000000 := by rw [List.length_append, huntTo_length]; omega
            have hbs := hb.size
            have HO2 := Lib.hid ho; have HB2 := Lib.hid hb; have HST2 := Lib.hid hst; have HLEN := Lib.hid hlen; have HBS := Lib.hid hbs
            clear ho hb hst he hlen hbs
            go_wp2_with (at_builtin; refine wpList_push (z := pw j) rfl _ _ rfl rfl rfl HO2.out HBS.out HLEN.out ?_; intro v' w' ho3 hg3 hr3; have so3 := ho3.isSl)
            have hb3 := Below_of_grown HB2.out hg3 HBS.out (fun k hk => (HO2.out.lt k hk).1)
            have HO3 := Lib.hid ho3; have HB3 := Lib.hid hb3
            clear ho3 hg3 hr3 hb3
            go_roundw
            case rel => exact ⟨j + 1, by omega, by go_num, by rw [HST2.out, ← List.append_assoc]; exact HO3.out, HB3.out⟩
            case measure => simp [intOf]; omega
          · obtain rfl : j = n - 1 := by omega
            have hji' : ¬ ((n - 1 : Nat) : Int) < (n : Int) - 1 := by omega
            have hlen : (X ++ huntTo n k (n - 1)).length ≤ 1000000000000 := by rw [List.length_append, huntTo_length]; omega
            have hfin : (X ++ huntTo n k (n - 1)) ++ [pw q] = extTo n P (k + 1) := by rw [HST.out, leadL_hunt, if_neg (by rw [HPAR.out]; decide), List.append_assoc]
            have hbs := hb.size
            have HO2 := Lib.hid ho; have HB2 := Lib.hid hb; have HF := Lib.hid hfin; have HLEN := Lib.hid hlen; have HBS := Lib.hid hbs
            clear ho hb hfin hlen hbs
            go_wp2_with (at_builtin; refine wpList_push (z := pw q) rfl _ _ rfl rfl rfl HO2.out HBS.out HLEN.out ?_; intro v' w' ho3 hg3 hr3; have so3 := ho3.isSl)
            have hb3 := Below_of_grown HB2.out hg3 HBS.out (fun k hk => (HO2.out.lt k hk).1)
            rw [HF.out] at ho3
            have HO3 := Lib.hid ho3; have HB3 := Lib.hid hb3
            clear ho3 hg3 hr3 hb3
            refine ⟨⟨k + 1, by omega, by go_num, HO3.out, HB3.out⟩, by simp [intOf]; omega⟩
    · obtain rfl : k = P.length := by omega
      have HO := Lib.hid ho; have HB := Lib.hid hb
      clear ho hb
      go_wp2_with fail
      go_ret
      exact ⟨_, rfl, HO.out.low HB1.out.size, Below.chain HB1.out HB.out⟩

set_option maxRecDepth 100000 in
theorem extent2_calls (w : World) : Calls Try.prog 111 #[.int .i64 2] w fun e w' => ∃ v, e = .returned v ∧ OwnI w' w.heap.size v (extL 2) ∧ Below w.heap.size w w' := by
  go_enter Try.func111, Try.ntmps111
  go_wp2_with fail
  go_ret
  exact ⟨_, rfl, ownI_lit [1, 1] rfl rfl rfl (by simp) (Nat.le_refl _), (Below.refl _ _).alloc (Nat.le_refl _) _⟩
theorem extent_calls : ∀ n : Nat, 2 ≤ n → n ≤ 7 → ∀ w, Calls Try.prog 111 #[.int .i64 n] w fun e w' => ∃ v, e = .returned v ∧ OwnI w' w.heap.size v (extL n) ∧ Below w.heap.size w w'
  | 2, _, _, w => extent2_calls w
  | n + 3, _, h7, w => by
    have ih := extent_calls (n + 2) (by omega) (by omega)
    have h := extent_step (n + 3) (by omega) h7 (fun W => by
      have := ih W
      rw [show ((n + 3 : Nat) : Int) - 1 = ((n + 2 : Nat) : Int) by omega]
      exact this) w
    rw [extL]
    exact h
theorem extentE_calls (n : Nat) (w : World) (h2 : 2 ≤ n) (h7 : n ≤ 7) :
    Calls Try.prog 53 #[.int .i64 n] w fun e w' => ∃ v, e = .returned (.tuple #[v, .int .i64 0]) ∧ OwnI w' w.heap.size v (extL n) ∧ Below w.heap.size w w' := by
  have HE := Lib.hid (extent_calls n h2 h7 w)
  go_enter Try.func53, Try.ntmps53
  go_wp2_with fail
  refine HE.out.mono ?_
  rintro e w1 ⟨v, rfl, hv, hb⟩
  have sv := hv.isSl
  have HV := Lib.hid hv; have HB := Lib.hid hb
  clear hv hb
  go_wp2_with fail
  refine (clip_calls _ _ _ _ HV.out).mono ?_
  rintro e w' ⟨rfl, z, rfl, hz⟩
  have sz := hz.isSl
  have HZ := Lib.hid hz; clear hz
  go_wp2_with fail
  go_ret2
  exact ⟨_, rfl, HZ.out, HB.out⟩

end Go.Proofs.Ytdmogoeafjpphaa
