/- FreeRoots: for every input the statement returns true, and nothing that was there has changed. -/
import Derived.Test.YtpnbkoihglppnaaRoot
namespace Go.Proofs.Ytpnbkoihglppnaa
open Go.RowKit Go.Sl

theorem letterOf_in {top : Int} (h : 0 < top) (x : Int) : letterOf top x ≠ 0 ∧ -top ≤ letterOf top x ∧ letterOf top x ≤ top := by
  have h1 := Int.emod_nonneg x (b := 2 * top) (by omega)
  have h2 := Int.emod_lt_of_pos x (b := 2 * top) (by omega)
  unfold letterOf
  split <;> omega
theorem wordL3_isWord (raw : List Int) (most : Nat) : IsWord (wordL 3 raw most) := by
  intro x hx
  obtain ⟨y, _, rfl⟩ := List.mem_map.1 hx
  have := letterOf_in (top := 3) (by omega) y
  omega
theorem redL_left' (a b : List Int) : redL (redL a ++ b) = redL (a ++ b) := by
  rw [← redL_both (redL a) b, redL_redL, redL_both]
theorem redL_right' (a b : List Int) : redL (a ++ redL b) = redL (a ++ b) := by
  rw [← redL_both a (redL b), redL_redL, redL_both]
/-- One factor more, the factor as it stands. -/
theorem power_by {X U C : List Int} (h : U ++ C ++ invL U = redL X) (j : Nat) : redL (redL (U ++ rep C j ++ invL U) ++ X) = redL (U ++ rep C (j + 1) ++ invL U) := by
  rw [← power_step, h, redL_redL, redL_right']
theorem rep_mem {d : List Int} {j : Nat} : ∀ x ∈ rep d j, x ∈ d := by
  intro x hx
  obtain ⟨l, hl, hxl⟩ := List.mem_flatten.1 hx
  rw [(List.mem_replicate.1 hl).2] at hxl
  exact hxl
theorem isWord_pow {U C : List Int} (hu : IsWord U) (hc : IsWord C) (j : Nat) : IsWord (redL (U ++ rep C j ++ invL U)) :=
  IsWord.red (IsWord.append (IsWord.append hu (fun x hx => hc x (rep_mem x hx))) hu.inv)
theorem pow_length (U C : List Int) (j : Nat) : (redL (U ++ rep C j ++ invL U)).length ≤ 2 * U.length + j * C.length := by
  refine Nat.le_trans (redL_length _) ?_
  rw [List.length_append, List.length_append, rep_length, invL_length']; omega

/-- What the statement says of a word that is not the identity. -/
structure Pow (X U C : List Int) (kd : Nat) : Prop where
  parts : U ++ C ++ invL U = redL X
  wu : IsWord U
  wc : IsWord C
  ne : C ≠ []
  cyc : CycRed C
  len : 2 * U.length + C.length ≤ 12
  root : IsRoot C kd
theorem pow_of {X : List Int} (hx : IsWord X) (hl : X.length ≤ 12) {kd : Nat} (hr : IsRoot (coreL (redL X)) kd) : Pow X (headL (redL X)) (coreL (redL X)) kd := by
  have hw : IsWord (redL X) := hx.red
  have hne : coreL (redL X) ≠ [] := fun e => by
    have h1 := hr.pos; have h2 := hr.le; rw [e] at h2; simp at h2; omega
  have hR : redL X ≠ [] := fun e => hne (by rw [e]; rfl)
  exact ⟨strip_parts _, isWord_mem hw head_mem, isWord_mem hw core_mem, hne, core_cyc (redL_rd X) hR (fun x h => (hw x h).1), by rw [parts_length]; exact Nat.le_trans (redL_length X) hl, hr⟩
theorem Pow.strip {X U C : List Int} {kd : Nat} (h : Pow X U C kd) {j : Nat} (hj : 0 < j) : redL (redL (U ++ rep C j ++ invL U)) = U ++ rep C j ++ invL U ∧ headL (U ++ rep C j ++ invL U) = U ∧ coreL (U ++ rep C j ++ invL U) = rep C j := by
  have hrd : Rd (U ++ C ++ invL U) := by rw [h.parts]; exact redL_rd X
  have h1 := power_rd h.ne h.cyc hrd hj
  have h2 := strip_of U (rep C j) (rep_ne h.ne hj) (rep_cyc h.ne h.cyc hj)
  exact ⟨by rw [redL_redL, redL_of_rd h1], h2.1, h2.2⟩
theorem Pow.again {X U C : List Int} {kd : Nat} (h : Pow X U C kd) : redL (U ++ rep (C.take kd) (C.length / kd) ++ invL U) = redL X := by
  rw [h.root.parts, h.parts, redL_redL]
theorem Pow.count {X U C : List Int} {kd : Nat} (h : Pow X U C kd) (K : Nat) : (rep C K).length / kd = C.length / kd * K := by
  have hd := ((cond_iff h.root.pos h.root.le).1 h.root.cond).1
  rw [rep_length, Nat.mul_div_assoc _ hd, Nat.mul_comm]
theorem Pow.small {X U C : List Int} {kd : Nat} (h : Pow X U C kd) {j : Nat} (hj : j ≤ C.length / kd) : 2 * U.length + j * (C.take kd).length ≤ 12 := by
  have h1 : (C.take kd).length = kd := by rw [List.length_take]; have := h.root.le; omega
  have h2 : j * kd ≤ C.length / kd * kd := Nat.mul_le_mul_right _ hj
  have h3 : C.length / kd * kd ≤ C.length := Nat.div_mul_le_self _ _
  have := h.len
  rw [h1]; omega

set_option maxHeartbeats 4000000 in
set_option maxRecDepth 100000 in
theorem freeRoots_true {w0 : World} (a : Value) (as1 : List Int) (hra : Ints w0 a as1) (hxa : ∀ x ∈ as1, I64 x) (k : Int) (hk : I64 k)
    (w : World) (hw : w = w0 := by rfl) :
    Calls Try.prog 13 #[a, .int .i64 k] w fun e w' => e = .returned (.bool true) ∧ Below w.heap.size w w' := by
  subst hw
  obtain ⟨X, hX⟩ : ∃ X, X = wordL 3 as1 12 := ⟨_, rfl⟩
  obtain ⟨K, hK⟩ : ∃ K : Nat, k % 4 = ((K - 1 : Nat) : Int) ∧ 1 ≤ K ∧ K ≤ 4 := ⟨(k % 4).toNat + 1, by omega⟩
  obtain ⟨hK, hK1, hK4⟩ := hK
  obtain ⟨K0, hK0⟩ : ∃ K0, K0 = K - 1 := ⟨_, rfl⟩
  have hKK : 1 + (K0 : Int) = (K : Int) := by omega
  rw [← hK0] at hK
  have WX := Lib.hid (show IsWord X from hX ▸ wordL3_isWord as1 12)
  have LX := Lib.hid (show X.length ≤ 12 from hX ▸ wordL_length 3 as1 12)
  have EX := Lib.hid hX; have HK := Lib.hid hK; have HXa := Lib.hid hxa; have HKK := Lib.hid hKK
  clear hX hK hxa hK0 hKK
  go_enter Try.func13, Try.ntmps13
  go_wp2_with fail
  refine (word_calls 3 a as1 12 _ hra HXa.out (by decide) (by decide) (by decide)).mono ?_
  rw [← EX.out]
  rintro e u1 ⟨x, rfl, hx0, hb⟩
  have s_x := hx0.isSl
  have HX := Lib.hid hx0.ints; have HB1 := Lib.hid hb
  clear hx0 hb hra
  go_wp2_with fail
  refine (below_calls k 4 _ (by decide) (by decide) hk).mono ?_
  rintro e w' ⟨rfl, rfl⟩
  rw [HK.out]
  have hkk := HKK.out
  go_wp2_with fail
  refine (root_calls x X _ HX.out WX.out (by have := LX.out; omega)).mono ?_
  rintro e u2 ⟨hor, hb⟩
  have HX2 := Lib.hid (HX.out.below hb); have HB2 := Lib.hid (Below.chain HB1.out hb)
  clear hb
  rcases hor with ⟨hnil, rfl⟩ | ⟨kd, u, rfl, hroot, hu⟩
  · have HNIL := Lib.hid hnil; clear hnil
    go_wp2_with fail
    refine (reduce_calls x X _ HX2.out WX.out (by have := LX.out; omega)).mono ?_
    rw [HNIL.out]
    rintro e u3 ⟨r, rfl, hr, hb⟩
    have sr := hr.isSl
    have lr := hr.len
    have lr0 : vlen r = 0 := lr
    have HB3 := Lib.hid (Below.chain HB2.out hb)
    clear hr hb lr
    go_wp2_with fail
    refine (freduced_calls _).mono ?_
    rintro e u4 ⟨rfl, hb⟩
    have HB4 := Lib.hid (Below.chain HB3.out hb); clear hb
    go_wp2_with fail
    go_ret
    exact ⟨rfl, HB4.out⟩
  · have hp := pow_of WX.out LX.out hroot
    obtain ⟨U, hU⟩ : ∃ U, headL (redL X) = U := ⟨_, rfl⟩
    obtain ⟨C, hC⟩ : ∃ C, coreL (redL X) = C := ⟨_, rfl⟩
    rw [hU, hC] at hp
    rw [hU, hC] at hu
    rw [hC] at hroot ⊢
    obtain ⟨N, hN⟩ : ∃ N, C.length / kd = N := ⟨_, rfl⟩
    rw [hN]
    have hL12 : C.length ≤ 12 := by have := hp.len; omega
    have hU12 : 2 * U.length + C.length ≤ 12 := hp.len
    have hN1 : 1 ≤ N := by rw [← hN]; exact (Nat.one_le_div_iff hroot.pos).2 hroot.le
    have hN2 : N ≤ 12 := by rw [← hN]; exact Nat.le_trans (Nat.div_le_self _ _) hL12
    have hRne : redL X ≠ [] := fun e => hp.ne (by rw [← hC, e]; rfl)
    have hRl : (redL X).length ≠ 0 := fun e => hRne (List.length_eq_zero_iff.1 e)
    obtain ⟨rl, hrl⟩ : ∃ rl, (redL X).length = rl := ⟨_, rfl⟩
    rw [hrl] at hRl
    have hrl0 : ((rl : Int) == 0) = false := by rw [beq_eq_false_iff_ne]; omega
    have HP := Lib.hid hp; have HN := Lib.hid hN; have HU2 := Lib.hid hu.ints; have HRL := Lib.hid hrl
    have s_u := hu.isSl
    clear hp hN hu hU hC hroot hRne hrl
    go_wp2_with fail
    refine (reduce_calls x X _ HX2.out WX.out (by have := LX.out; omega)).mono ?_
    rintro e u3 ⟨r, rfl, hr, hb⟩
    have sr := hr.isSl
    have lr := hr.len
    rw [HRL.out] at lr
    have HX3 := Lib.hid (HX2.out.below hb); have HU3 := Lib.hid (HU2.out.below hb); have HB3 := Lib.hid (Below.chain HB2.out hb)
    clear hr hb
    go_wp2_with fail
    go_loopw [11, 43] (fun p i wr => ∃ j : Nat, j ≤ K ∧ i = .int .i64 j ∧ Ints wr p (redL (U ++ rep C j ++ invL U)) ∧ Below u3.heap.size u3 wr) (fun _ i _ => K - (intOf i).toNat)
    case atStart => exact ⟨0, Nat.zero_le _, rfl, by rw [power_zero]; exact ints_nil _, Below.refl _ _⟩
    case round =>
      obtain ⟨j, hj, rfl, hp, hbr⟩ := hrel
      have sp := hp.isSl
      have HPP := Lib.hid hp; have HBR := Lib.hid hbr
      have hpl := pow_length U C j
      have hpl2 := pow_length U C (j + 1)
      have hm1 : j * C.length ≤ 4 * C.length := Nat.mul_le_mul_right _ (by omega)
      clear hp hbr
      by_cases hlt : j < K
      · have hm2 : (j + 1) * C.length ≤ 4 * C.length := Nat.mul_le_mul_right _ (by omega)
        have H1 := Lib.hid (show (redL (U ++ rep C j ++ invL U)).length ≤ 60 by omega)
        have H2 := Lib.hid (show (redL (redL (U ++ rep C j ++ invL U) ++ X)).length ≤ 60 by rw [power_by HP.out.parts]; omega)
        clear hpl hpl2 hm1 hm2
        go_wp2_with fail
        refine (times_calls _ x _ X _ HPP.out (HX3.out.below HBR.out) (isWord_pow HP.out.wu HP.out.wc j) WX.out H1.out (by have := LX.out; omega) H2.out).mono ?_
        rw [power_by HP.out.parts]
        rintro e u4 ⟨p2, rfl, hp2, hb⟩
        have sp2 := hp2.isSl
        have HP2 := Lib.hid hp2; have HB4 := Lib.hid (Below.chain HBR.out hb)
        clear hp2 hb
        go_wp2_with fail
        go_roundw
        case rel => exact ⟨j + 1, by omega, by go_num, HP2.out.ints, HB4.out⟩
        case measure => simp [intOf]; omega
      · obtain rfl : j = K := by omega
        obtain ⟨hs1, hs2, hs3⟩ := HP.out.strip (j := j) (by omega)
        rw [redL_redL] at hs1
        have H1 := Lib.hid (show (redL (U ++ rep C j ++ invL U)).length ≤ 60 by omega)
        have HS1 := Lib.hid hs1; have HS2 := Lib.hid hs2; have HS3 := Lib.hid hs3
        clear hpl hpl2 hm1 hs1 hs2 hs3
        go_wp2_with fail
        refine (root_calls _ _ _ HPP.out (isWord_pow HP.out.wu HP.out.wc j) H1.out).mono ?_
        rw [redL_redL, HS1.out, HS2.out, HS3.out]
        rintro e u5 ⟨hor, hb⟩
        have HX5 := Lib.hid (HX3.out.below (Below.chain HBR.out hb)); have HU5 := Lib.hid (HU3.out.below (Below.chain HBR.out hb)); have HB5 := Lib.hid (Below.chain HB3.out (Below.chain HBR.out hb))
        clear hb
        rcases hor with ⟨hnil, rfl⟩ | ⟨k2, v, rfl, hroot2, hv⟩
        · exfalso
          have h1 := List.length_pos_iff.2 (rep_ne HP.out.ne (show 0 < j by omega))
          have h2 := congrArg List.length hnil
          simp only [List.length_append, List.length_nil] at h2
          omega
        · have hk2 := hroot2.unique (isRoot_rep HP.out.root (show 0 < j by omega))
          subst hk2
          rw [rep_take HP.out.root.le (by omega)] at hv
          rw [HP.out.count, HN.out]
          have s_v := hv.isSl
          have HV := Lib.hid hv.ints
          have hnk : N * j ≤ 48 := Nat.mul_le_mul hN2 hK4
          clear hv hroot2
          go_wp2_with fail
          go_loopw [15, 56] (fun q i wr => ∃ t : Nat, t ≤ N ∧ i = .int .i64 t ∧ Ints wr q (redL (U ++ rep (C.take k2) t ++ invL U)) ∧ Below u5.heap.size u5 wr) (fun _ i _ => N - (intOf i).toNat)
          case atStart => exact ⟨0, Nat.zero_le _, rfl, by rw [power_zero]; exact ints_nil _, Below.refl _ _⟩
          case round =>
            obtain ⟨t, ht, rfl, hq, hbr⟩ := hrel
            have sq := hq.isSl
            have HQ := Lib.hid hq; have HBR2 := Lib.hid hbr
            clear hq hbr
            have hwr : IsWord (C.take k2) := fun x hx => HP.out.wc x (List.mem_of_mem_take hx)
            have HWR := Lib.hid hwr; clear hwr
            by_cases hlt2 : t < N
            · have H2 := Lib.hid (show (redL (U ++ rep (C.take k2) t ++ invL U)).length ≤ 60 by
                have h1 := pow_length U (C.take k2) t
                have h2 := HP.out.small (j := t) (by rw [HN.out]; omega)
                omega)
              have H3 := Lib.hid (show (redL (redL (U ++ rep (C.take k2) t ++ invL U) ++ redL (U ++ C.take k2 ++ invL U))).length ≤ 60 by
                rw [power_step]
                have h1 := pow_length U (C.take k2) (t + 1)
                have h2 := HP.out.small (j := t + 1) (by rw [HN.out]; omega)
                omega)
              have H4 := Lib.hid (show (redL (U ++ C.take k2 ++ invL U)).length ≤ 60 by
                have h1 := redL_length (U ++ C.take k2 ++ invL U)
                rw [List.length_append, List.length_append, invL_length', List.length_take] at h1
                omega)
              have H5 := Lib.hid (show IsWord (redL (U ++ C.take k2 ++ invL U)) from IsWord.red (IsWord.append (IsWord.append HP.out.wu HWR.out) HP.out.wu.inv))
              go_wp2_with fail
              refine (times_calls _ u _ _ _ HQ.out (HU5.out.below HBR2.out) (isWord_pow HP.out.wu HWR.out t) H5.out H2.out H4.out H3.out).mono ?_
              rw [power_step]
              rintro e u6 ⟨q2, rfl, hq2, hb⟩
              have sq2 := hq2.isSl
              have HQ2 := Lib.hid hq2; have HB6 := Lib.hid (Below.chain HBR2.out hb)
              clear hq2 hb
              go_wp2_with fail
              go_roundw
              case rel => exact ⟨t + 1, by omega, by go_num, HQ2.out.ints, HB6.out⟩
              case measure => simp [intOf]; omega
            · obtain rfl : t = N := by omega
              have hqf : redL (U ++ rep (C.take k2) t ++ invL U) = redL X := by rw [← HN.out]; exact HP.out.again
              have HQF := Lib.hid hqf
              have hp1 : (t : Int) * (j : Int) = ((t * j : Nat) : Int) := by simp
              have hp2 : wrap64 ((t : Int) * (j : Int)) = ((t * j : Nat) : Int) := by rw [hp1]; unfold wrap64; omega
              have hp3 : IntKind.i64.wrap ((t : Int) * (j : Int)) = ((t * j : Nat) : Int) := by rw [hp1]; exact IntWalk.i64_in _ (by omega)
              obtain ⟨tj, htj⟩ : ∃ tj, t * j = tj := ⟨_, rfl⟩
              rw [htj] at hp1 hp2 hp3 hnk
              have htp : (t : Int) > 0 := by omega
              have hpq : ((tj : Int) == (t : Int) * (j : Int)) = true := by rw [hp1]; simp
              clear hqf
              go_wp2_with fail
              refine (reduce_calls x X _ (HX5.out.below HBR2.out) WX.out (by have := LX.out; omega)).mono ?_
              rintro e u7 ⟨r2, rfl, hr2, hb⟩
              have sr2 := hr2.isSl
              have HR7 := Lib.hid hr2.ints; have HQ7 := Lib.hid (HQ.out.below hb); have HV7 := Lib.hid (HV.out.below (Below.chain HBR2.out hb)); have HU7 := Lib.hid (HU5.out.below (Below.chain HBR2.out hb)); have HB7 := Lib.hid (Below.chain HB5.out (Below.chain HBR2.out hb))
              clear hr2 hb
              go_wp2_with fail
              refine (freduced_calls _).mono ?_
              rintro e u8 ⟨rfl, hb⟩
              have HR8 := Lib.hid (HR7.out.below hb); have HQ8 := Lib.hid (HQ7.out.below hb); have HV8 := Lib.hid (HV7.out.below hb); have HU8 := Lib.hid (HU7.out.below hb); have HB8 := Lib.hid (Below.chain HB7.out hb)
              clear hb
              go_wp2_with fail
              refine (equal_yes u v _ _ _ HU8.out HV8.out rfl).mono ?_
              rintro e u9 ⟨rfl, hb⟩
              have HR9 := Lib.hid (HR8.out.below hb); have HQ9 := Lib.hid (HQ8.out.below hb); have HB9 := Lib.hid (Below.chain HB8.out hb)
              clear hb
              go_wp2_with fail
              refine (equal_yes _ r2 _ _ _ HQ9.out HR9.out HQF.out).mono ?_
              rintro e u10 ⟨rfl, hb⟩
              have HB10 := Lib.hid (Below.chain HB9.out hb)
              clear hb
              go_wp2_with fail
              go_ret
              exact ⟨rfl, HB10.out⟩

end Go.Proofs.Ytpnbkoihglppnaa
