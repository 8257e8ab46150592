/- RingExtents: for every input the statement returns true, and nothing that was there has changed. -/
import Derived.Test.YtdmogoeafjpphaaExtent
import Derived.Test.YtdmogoeafjpphaaIsTrue
import Derived.Test.YtdmogoeafjpphaaRingHead
import Derived.Test.YtdmogoeafjpphaaBraid
namespace Go.Proofs.Ytdmogoeafjpphaa
open Go.RowKit Go.Sl

theorem pw_and : ∀ k : Fin 7, bits .and .i64 (pw k.val) (pw k.val - 1) = 0 := by decide +kernel
theorem pw_lt : ∀ a b : Fin 7, a.val < b.val → pw a.val < pw b.val := by decide +kernel
theorem pow_chg {m : Nat} {c : Int} (hm : m < 7) (h : Pow (m + 1) c) : Chg m c := by
  obtain ⟨k, hk, rfl⟩ := h
  have : ∀ m : Fin 7, ∀ k : Fin 7, k.val < m.val → 2 ^ k.val < 2 ^ m.val ∧ 2 ^ k.val < 64 ∧ 2 ^ k.val &&& (2 * 2 ^ k.val) = 0 := by decide +kernel
  have h := this ⟨m, hm⟩ ⟨k, by omega⟩ (by simp; omega)
  exact ⟨2 ^ k, rfl, h.1, h.2.1, h.2.2⟩

set_option maxHeartbeats 4000000 in
set_option maxRecDepth 100000 in
theorem ringExtents_true {w0 : World} (n : Int) (hn : I64 n) (w : World) (hw : w = w0 := by rfl) :
    Calls Try.prog 12 #[.int .i64 n] w fun e w' => e = .returned (.bool true) ∧ Below w.heap.size w w' := by
  subst hw
  obtain ⟨r, hr⟩ : ∃ r : Nat, n % 6 = (r : Int) := ⟨(n % 6).toNat, by omega⟩
  have hr5 : r ≤ 5 := by omega
  obtain ⟨m, hm⟩ : ∃ m : Nat, m = 1 + r := ⟨_, rfl⟩
  have hm7 : m < 7 := by omega
  have hm1 : 1 ≤ m := by omega
  have em : (2 : Int) + (r : Int) = (m : Int) + 1 := by omega
  obtain ⟨L, hL⟩ : ∃ L, L = extL (m + 1) := ⟨_, rfl⟩
  have hLp : ∀ x ∈ L, Pow (m + 1) x := by rw [hL]; exact extL_pow _ (by omega)
  have hLl : L.length = fac (m + 1) := by rw [hL]; exact extL_length _ (by omega)
  have hL5 : L.length ≤ 5040 := by rw [hLl]; exact fac_le ⟨m + 1, by omega⟩
  have hLc : ∀ c ∈ L, Chg m c := fun c hc => pow_chg hm7 (hLp c hc)
  have hfacts := ext_facts (n := m + 1) (by omega) (by omega)
  rw [← hL] at hfacts
  have hw1 := pw_wrap ⟨m, hm7⟩
  simp only at hw1
  have hfall : ∀ k, k ≤ m + 1 → fac k ≤ 5040 := fun k hk => fac_le ⟨k, by omega⟩
  have HR := Lib.hid hr; have EM := Lib.hid em; have HLP := Lib.hid hLp; have HLL := Lib.hid hLl; have HL5 := Lib.hid hL5; have HLC := Lib.hid hLc; have HFA := Lib.hid hfacts; have HL := Lib.hid hL.symm; have HFL := Lib.hid hfall
  clear hr em hLp hLl hL5 hLc hfacts hL hm hfall
  go_enter Try.func12, Try.ntmps12
  go_wp2_with fail
  refine (below_nat n 6 r _ (by omega) (by omega) hn HR.out).mono ?_
  rintro e w' ⟨rfl, rfl⟩
  go_wp2_with fail
  rw [EM.out, show ((m : Int) + 1) = ((m + 1 : Nat) : Int) by omega]
  refine (extentE_calls (m + 1) _ (by omega) (by omega)).mono ?_
  rw [HL.out]
  rintro e w1 ⟨l, rfl, hl, hb⟩
  have sl := hl.isSl
  have ll := hl.len
  have HLI := Lib.hid hl.ints; have HB1 := Lib.hid hb
  clear hl hb
  rw [show ((m + 1 : Nat) : Int) = (m : Int) + 1 by omega]
  go_wp2_with fail
  refine (isTrue_calls m l L _ HLI.out hm7 HLC.out HL5.out HFA.out.2).mono ?_
  rintro e w2 ⟨rfl, hb⟩
  have HL2 := Lib.hid (HLI.out.below hb); have HB2 := Lib.hid (Below.chain HB1.out hb)
  clear hb
  go_wp2_with fail
  refine (leadHead_calls m l L _ HL2.out hm7 HLC.out HL5.out).mono ?_
  rw [HFA.out.1]
  rintro e w3 ⟨h, rfl, hh, hb⟩
  have sh := hh.isSl
  have HH := Lib.hid hh.ints; have HL3 := Lib.hid (HL2.out.below hb); have HB3 := Lib.hid (Below.chain HB2.out hb)
  clear hb hh
  go_wp2_with fail
  go_loop [9, 10] (fun a k => ∃ j : Nat, 1 ≤ j ∧ j ≤ m + 1 ∧ k = .int .i64 ((j : Int) + 1) ∧ a = .int .i64 (fac j)) (fun _ k => m + 2 - (intOf k).toNat)
  case atStart => exact ⟨1, by omega, by omega, rfl, rfl⟩
  case round =>
    obtain ⟨j, hj1, hj2, rfl, rfl⟩ := hrel
    by_cases hlt : j < m + 1
    · have h1 := HFL.out j hj2
      have h2 := HFL.out (j + 1) (by omega)
      have hst : (fac (j + 1) : Int) = (fac j : Int) * ((j : Int) + 1) := by rw [show fac (j + 1) = fac j * (j + 1) from rfl]; simp
      obtain ⟨F, hF⟩ : ∃ F, fac j = F := ⟨_, rfl⟩
      obtain ⟨G, hG⟩ : ∃ G, fac (j + 1) = G := ⟨_, rfl⟩
      rw [hF] at h1 hst
      rw [hG] at h2 hst
      rw [hF]
      have hle : (j : Int) + 1 ≤ (m : Int) + 1 := by omega
      have wq : IntKind.i64.wrap ((F : Int) * ((j : Int) + 1)) = (G : Int) := by rw [← hst]; exact IntWalk.i64_in _ ⟨by omega, by omega⟩
      have HG := Lib.hid hG
      clear hF hG hst
      go_wp2_with fail
      go_round
      case rel => exact ⟨j + 1, by omega, by omega, by go_num, by rw [HG.out]⟩
      case measure => simp [intOf]; omega
    · obtain rfl : j = m + 1 := by omega
      rw [← HLL.out]
      have hle : ¬ ((m + 1 : Nat) : Int) + 1 ≤ (m : Int) + 1 := by omega
      go_wp2_with fail
      go_loop [43] (fun i => ∃ k : Nat, k ≤ L.length ∧ i = .int .i64 k) (fun i => L.length - (intOf i).toNat)
      case atStart => exact ⟨0, Nat.zero_le _, rfl⟩
      case round =>
        obtain ⟨k, hk, rfl⟩ := hrel
        by_cases hlt2 : k < L.length
        · have ck := HL3.out.cell hlt2
          obtain ⟨q, hq, hqe⟩ := HLP.out _ (nth_mem hlt2)
          rw [hqe] at ck
          have hb := pw_bounds ⟨q, by omega⟩
          have ha := pw_and ⟨q, by omega⟩
          have hl := pw_lt ⟨q, by omega⟩ ⟨m, hm7⟩ (by simp; omega)
          simp only at hb ha hl
          obtain ⟨x, hx⟩ : ∃ x, pw q = x := ⟨_, rfl⟩
          obtain ⟨y, hy⟩ : ∃ y, pw m = y := ⟨_, rfl⟩
          rw [hx] at hb ha hl ck
          rw [hy] at hl hw1
          have hlt3 : ¬ y ≤ x := by omega
          have hlt4 : ¬ x ≥ y := by omega
          have h5 := HL5.out
          clear hqe hx hy
          go_wp2_with fail
          go_round
          case rel => exact ⟨k + 1, by omega, by go_num⟩
          case measure => simp [intOf]; omega
        · obtain rfl : k = L.length := by omega
          go_wp2_with fail
          refine (rung_calls _).mono ?_
          rintro e w4 ⟨rfl, hb⟩
          have HH4 := Lib.hid (HH.out.below hb); have HB4 := Lib.hid (Below.chain HB3.out hb)
          clear hb
          go_wp2_with fail
          refine (permNil_calls m _ hm7).mono ?_
          rintro e w5 ⟨p, rfl, hp, hb⟩
          have sp := hp.isSl
          have HP := Lib.hid hp.ints; have HH5 := Lib.hid (HH4.out.below hb); have HB5 := Lib.hid (Below.chain HB4.out hb)
          clear hp hb
          go_wp2_with fail
          refine (equal_yes _ _ _ _ _ HH5.out HP.out rfl).mono ?_
          rintro e w6 ⟨rfl, hb⟩
          have HB6 := Lib.hid (Below.chain HB5.out hb)
          clear hb
          go_wp2_with fail
          go_ret
          exact ⟨rfl, HB6.out⟩

end Go.Proofs.Ytdmogoeafjpphaa
