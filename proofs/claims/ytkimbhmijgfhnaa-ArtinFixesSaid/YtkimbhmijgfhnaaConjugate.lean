/- foxcalc.Exponent, freegroup.CyclicReduction and Conjugate walked. -/
import Derived.Test.YtkimbhmijgfhnaaRoot
import Derived.Test.YtkimbhmijgfhnaaConjLaw
import Derived.Test.YtkimbhmijgfhnaaMinMax
namespace Go.Proofs.Ytkimbhmijgfhnaa
open Go.RowKit Go.Sl

theorem fexponent_calls (a : Value) (xs : List Int) (w : World) (ha : Ints w a xs) (hx : IsWord xs) (hl : xs.length ≤ 60) :
    Calls Try.prog 30 #[a] w fun e w' => e = .returned (.tuple #[.int .i64 (exp2 xs), .int .i64 0]) ∧ w = w' := by
  have sa := ha.isSl
  have la := ha.len
  have HA := Lib.hid ha; have HX := Lib.hid hx; have HL := Lib.hid hl
  clear ha hx hl
  go_enter Try.func30, Try.ntmps30
  go_wp2_with fail
  refine (fcheck_calls a xs _ HA.out HX.out HL.out).mono ?_
  rintro e w' ⟨rfl, rfl⟩
  have hl := HL.out
  go_wp2_with fail
  go_loop [5, 15] (fun o i => ∃ (k : Nat) (m : Int), k ≤ xs.length ∧ i = .int .i64 k ∧ o = .int .i64 m ∧ m = exp2 (xs.take k)) (fun _ i => xs.length - (intOf i).toNat)
  case atStart => exact ⟨0, 0, Nat.zero_le _, rfl, rfl, rfl⟩
  case round =>
    obtain ⟨k, m, hk, rfl, rfl, hm⟩ := hrel
    have hb := exp2_le (xs.take k)
    rw [← hm, List.length_take] at hb
    have hb1 : -60 ≤ m := by omega
    have hb2 : m ≤ 60 := by omega
    clear hb
    by_cases hlt : k < xs.length
    · have c1 := HA.out.cell hlt
      obtain ⟨x, hx⟩ : ∃ x, nth xs k = x := ⟨_, rfl⟩
      have h0 := (HX.out _ (nth_mem hlt)).1
      rw [hx] at c1 h0
      have hnx : exp2 (xs.take (k + 1)) = m + sg2 x := by rw [List.take_succ_eq_append_getElem hlt, exp2_snoc, ← nth_lt hlt, hx, hm]
      have HNX := Lib.hid hnx
      clear hnx hm hx
      by_cases hp : 0 < x
      · have hp' : x > 0 := hp
        go_wp2_with fail
        go_round
        case rel => exact ⟨k + 1, m + 1, by omega, by go_num, by go_num, by rw [HNX.out, sg2, if_pos hp]⟩
        case measure => simp [intOf]; omega
      · have hp' : ¬ x > 0 := hp
        go_wp2_with fail
        go_round
        case rel => exact ⟨k + 1, m - 1, by omega, by go_num, by go_num, by rw [HNX.out, sg2, if_neg hp]; omega⟩
        case measure => simp [intOf]; omega
    · have hf : m = exp2 xs := by rw [hm, List.take_of_length_le (by omega)]
      have HF := Lib.hid hf; clear hf hm
      go_wp2_with fail
      go_ret2
      exact ⟨by rw [← HF.out] <;> rfl, rfl⟩

set_option maxHeartbeats 1000000 in
set_option maxRecDepth 100000 in
theorem conjugateF_calls (a b : Value) (xs ys : List Int) (w : World) (ha : Ints w a xs) (hb : Ints w b ys) (hx : IsWord xs) (hy : IsWord ys) (hl : xs.length ≤ 60) (hm : ys.length ≤ 60) :
    Calls Try.prog 54 #[a, b] w fun e w' => ∃ t : Bool, e = .returned (.tuple #[.bool t, .int .i64 0]) ∧ (t = true ↔ Rt (coreL (redL xs)) (coreL (redL ys))) ∧ Below w.heap.size w w' := by
  have sa := ha.isSl
  have sb := hb.isSl
  obtain ⟨C, hC⟩ : ∃ C, C = coreL (redL xs) := ⟨_, rfl⟩
  obtain ⟨D, hD⟩ : ∃ D, D = coreL (redL ys) := ⟨_, rfl⟩
  have hcl : C.length ≤ 60 := by
    have h1 := parts_length (redL xs); have h2 := redL_length xs; rw [← hC] at h1; omega
  have HA := Lib.hid ha; have HBB := Lib.hid hb; have HX := Lib.hid hx; have HY := Lib.hid hy; have HL := Lib.hid hl; have HM := Lib.hid hm; have HC := Lib.hid hC; have HD := Lib.hid hD
  rw [← hC, ← hD]
  obtain ⟨L, hLL⟩ : ∃ L, C.length = L := ⟨_, rfl⟩
  rw [hLL] at hcl
  have HLL := Lib.hid hLL
  obtain ⟨M, hM⟩ : ∃ M, max L 1 = M := ⟨_, rfl⟩
  have hMi : max (L : Int) 1 = (M : Int) := by omega
  have hML : M ≤ L + 1 := by omega
  have HMM := Lib.hid (show ∀ k, k < M → k ≤ L by intro k hk; omega)
  have HMAX := Lib.hid hM
  clear ha hb hx hy hl hm hC hD hLL hM
  go_enter Try.func54, Try.ntmps54
  go_wp2_with fail
  refine (fboth_calls a b xs ys _ HA.out HBB.out HX.out HY.out HL.out HM.out).mono ?_
  rintro e w' ⟨rfl, rfl⟩
  go_wp2_with fail
  refine (cyclic_calls a xs _ HA.out HX.out HL.out).mono ?_
  rw [← HC.out]
  rintro e w1 ⟨c, u, rfl, hc, hu, hb1⟩
  have sc := hc.isSl
  have su := hu.isSl
  have lc := hc.len
  rw [HLL.out] at lc
  have HC1 := Lib.hid hc.ints; have HB1 := Lib.hid hb1; have HY1 := Lib.hid (HBB.out.below hb1)
  clear hc hu hb1
  go_wp2_with fail
  refine (cyclic_calls b ys _ HY1.out HY.out HM.out).mono ?_
  rw [← HD.out]
  rintro e w2 ⟨d, u2, rfl, hd, hu, hb2⟩
  have sd := hd.isSl
  have su2 := hu.isSl
  have HC2 := Lib.hid (HC1.out.below hb2); have HD2 := Lib.hid hd.ints; have HB2 := Lib.hid (Below.chain HB1.out hb2)
  clear hd hu hb2
  go_wp2_with fail
  go_loopw [31] (fun i wr => ∃ k : Nat, k ≤ M ∧ i = .int .i64 k ∧ (∀ k', k' < k → ¬ (C.drop k' ++ C.take k' = D)) ∧ Below w2.heap.size w2 wr) (fun i _ => M - (intOf i).toNat)
  case atStart => exact ⟨0, Nat.zero_le _, rfl, fun k' h => by omega, Below.refl _ _⟩
  case round =>
    obtain ⟨k, hk, rfl, hno, hbr⟩ := hrel
    have HNO := Lib.hid hno; have HBR := Lib.hid hbr
    clear hno hbr
    by_cases hlt : k < M
    · have hkL := HMM.out k hlt
      go_wp2_with fail
      refine (turned_calls c C k _ (HC2.out.below HBR.out) (by rw [HLL.out]; exact hkL) (by rw [HLL.out]; omega)).mono ?_
      rintro e w3 ⟨tv, rfl, ht, hb3⟩
      have st := ht.isSl
      have HT := Lib.hid ht.ints; have HB3 := Lib.hid (Below.chain HBR.out hb3)
      clear ht hb3
      by_cases he : C.drop k ++ C.take k = D
      · have HE := Lib.hid he
        clear he
        go_wp2_with fail
        refine (equal_yes tv d _ _ _ HT.out (HD2.out.below HB3.out) HE.out).mono ?_
        rintro e w4 ⟨rfl, hb4⟩
        have HB4 := Lib.hid (Below.chain HB2.out (Below.chain HB3.out hb4)); clear hb4
        go_wp2_with fail
        go_ret2
        exact ⟨true, rfl, ⟨fun _ => (rt_iff C D).2 ⟨k, by rw [HLL.out, HMAX.out]; exact hlt, HE.out⟩, fun _ => rfl⟩, HB4.out⟩
      · have HE := Lib.hid he
        clear he
        go_wp2_with fail
        refine (equal_calls tv d _ _ _ HT.out (HD2.out.below HB3.out)).mono ?_
        rw [decide_eq_false HE.out]
        rintro e w4 ⟨rfl, hb4⟩
        have HB4 := Lib.hid (Below.chain HB3.out hb4); clear hb4
        go_wp2_with fail
        go_roundw
        case rel => exact ⟨k + 1, by omega, by go_num, fun k' h => by
          rcases Nat.lt_or_ge k' k with h3 | h3
          · exact HNO.out k' h3
          · rw [show k' = k by omega]; exact HE.out, HB4.out⟩
        case measure => simp [intOf]; omega
    · go_wp2_with fail
      go_ret2
      have hfin : ¬ Rt C D := fun h => by
        obtain ⟨k', h1, h2⟩ := (rt_iff C D).1 h
        rw [HLL.out, HMAX.out] at h1
        exact absurd h2 (HNO.out k' (by omega))
      exact ⟨false, rfl, ⟨fun h => (by cases h), fun h => absurd h hfin⟩, Below.chain HB2.out HBR.out⟩

end Go.Proofs.Ytkimbhmijgfhnaa
